/- Plain laws of the models. -/
import Derived.Test.YtmknfofhhnfkcaaGreatDoorWkH1
import Derived.KernelRfl
set_option linter.all false
namespace Go.AM.M
open Go.AM
def Fu (fu:Nat):Prop:=18446744073709551616≤fu
def small {α:Type} (l:List α):Prop:=l.length<9223372036854775808
theorem w64_id {n:Int} (h0 : -9223372036854775808≤n) (h1:n<9223372036854775808):w64 n=n:=by
 unfold w64;rw [IntKind.wrap_i64];omega
theorem w64_succ {k n:Nat} (h:k<n) (hn:n<9223372036854775808):w64 ((k:Int)+1)=((k+1:Nat):Int):=by
 rw [w64_id (by omega) (by omega)];rfl
theorem nthI_nat {α:Type} (l:List α) (k:Nat):nthI l (k:Int)=l[k]?:=by simp [nthI]
theorem nthI_get {α:Type} {l:List α} {k:Nat} (h:k<l.length):nthI l (k:Int)=some l[k]:=by rw [nthI_nat];exact List.getElem?_eq_getElem h
theorem sliceI_to {α:Type} {l:List α} {k:Nat} (h:k≤l.length):sliceI l 0 (k:Int)=some (l.take k):=by
 unfold sliceI
 rw [if_pos ⟨by omega,by omega,by omega⟩]
 simp
theorem sliceI_from {α:Type} {l:List α} {k:Nat} (h:k≤l.length):sliceI l (k:Int) (l.length:Int)=some (l.drop k):=by
 unfold sliceI
 rw [if_pos ⟨by omega,by omega,by omega⟩]
 have e:((k:Int)).toNat=k:=by omega
 rw [e,List.take_of_length_le (by rw [List.length_drop];omega)]
theorem dlt {a b:Nat}:decide ((a:Int)<(b:Int))=decide (a<b):=by simp
theorem loop_n {α ρ:Type} {f:α→Option (α⊕ρ)} {I:Nat→α→Prop} {R:ρ→Prop} {n:Nat}
  (hstep:∀k a,k<n→I k a→(∃a',f a=some (.inl a')∧I (k+1) a')∨(∃r,f a=some (.inr r)∧R r))
  (hend:∀a,I n a→∃r,f a=some (.inr r)∧R r) :
  ∀(fu k:Nat) (a:α),k≤n→n<k+fu→I k a→∃r,loopM f fu a=some r∧R r:=by
 intro fu
 induction fu with
 | zero=>intro k a h1 h2;omega
 | succ fu ih=>
  intro k a h1 h2 h3
  rcases Nat.lt_or_ge k n with hk | hk
  ·rcases hstep k a hk h3 with ⟨a',e,h4⟩ | ⟨r,e,h4⟩
   ·obtain ⟨r,e2,h5⟩:=ih (k+1) a' (by omega) (by omega) h4
    exact ⟨r,by simp only [loopM,e,e2],h5⟩
   ·exact ⟨r,by simp only [loopM,e],h4⟩
  ·have:k=n:=by omega
   subst this
   obtain ⟨r,e,h4⟩:=hend a h3
   exact ⟨r,by simp only [loopM,e],h4⟩
theorem loop_st {α ρ:Type} {f:α→Option (α⊕ρ)} (st:Nat→α) {m fu:Nat} {r:ρ} (hstep:∀k,k<m→f (st k)=some (.inl (st (k+1)))) (hend:f (st m)=some (.inr r)) (hf:m<fu):loopM f fu (st 0)=some r:=by
 obtain ⟨r',h1,h2⟩:=loop_n (f:=f) (I:=fun k a=>a=st k) (R:=fun r'=>r'=r) (n:=m) (fun k a hk e=>.inl ⟨_,by rw [e];exact hstep k hk,rfl⟩) (fun a e=>⟨r,by rw [e];exact hend,rfl⟩) fu 0 (st 0) (by omega) (by omega) rfl
 rw [h1,h2]
theorem snocInd {α:Type} {P:List α→Prop} (nil:P []) (snoc:∀l a,P l→P (l++[a])) (l:List α):P l:=by
 have h:∀l:List α,P l.reverse:=by
  intro l
  induction l with
  | nil=>exact nil
  | cons a l ih=>rw [List.reverse_cons];exact snoc _ _ ih
 have:=h l.reverse
 rwa [List.reverse_reverse] at this
def findN {α:Type} (p:α→Bool):List α→Option Nat
 | []=>none
 | x :: r=>if p x then some 0 else (findN p r).map (· + 1)
def fI (o:Option Nat):Int:=
 match o with
 | some k=>k
 | none=>-1
theorem findN_some {α:Type} {p:α→Bool}:∀{l:List α} {k:Nat},findN p l=some k→∃h:k<l.length,p l[k]=true∧∀j (hj:j<k),p (l[j]'(by omega))=false
 | [],k,h=>by cases h
 | x :: r,k,h=>by
  unfold findN at h
  split at h
  ·rename_i hp
   injection h with h;subst h
   exact ⟨by simp,by simpa using hp,fun j hj=>by omega⟩
  ·rename_i hp
   cases hr:findN p r with
   | none=>rw [hr] at h;cases h
   | some m=>
    rw [hr] at h
    simp only [Option.map_some,Option.some.injEq] at h
    subst h
    obtain ⟨h1,h2,h3⟩:=findN_some hr
    refine ⟨by simpa using h1,by simpa using h2,fun j hj=>?_⟩
    cases j with
    | zero=>simpa using hp
    | succ j=>simpa using h3 j (by omega)
theorem findN_none {α:Type} {p:α→Bool}:∀{l:List α},findN p l=none↔∀x∈l,p x=false
 | []=>by simp [findN]
 | x :: r=>by
  unfold findN
  split
  ·rename_i hp;simp [hp]
  ·rename_i hp
   simp only [Option.map_eq_none_iff,findN_none (l:=r),List.mem_cons,forall_eq_or_imp]
   simp [hp]
theorem loop_find {α β ρ:Type} {f:β→Option (β⊕ρ)} {l:List α} {p:α→Bool} {st:Nat→β} {yes:Nat→ρ} {no:ρ} {fu:Nat}
  (hstep:∀k (h:k<l.length),f (st k)=some (bif p l[k] then .inr (yes k) else .inl (st (k+1)))) (hend:f (st l.length)=some (.inr no)) (hf:l.length<fu) :
  loopM f fu (st 0)=some (match findN p l with | some k=>yes k | none=>no):=by
 cases e:findN p l with
 | none=>
  refine loop_st st (fun k hk=>?_) hend hf
  rw [hstep k hk,findN_none.1 e _ (List.getElem_mem hk)];rfl
 | some m=>
  obtain ⟨e1,e2,e3⟩:=findN_some e
  refine loop_st st (m:=m) (fun k hk=>?_) ?_ (by omega)
  ·rw [hstep k (by omega),e3 k hk];rfl
  ·rw [hstep m e1,e2];rfl
theorem fI_neg {o:Option Nat}:fI o<0↔o=none:=by cases o <;> simp [fI]
end Go.AM.M
namespace Go.AM.M
open Go.AM
variable {fu:Nat}
theorem bind_some' {α β:Type} (a:α) (f:α→Option β):(some a).bind f=f a:=rfl
theorem equal_loop {f:List Int×(List Int×Int×Int)→Option ((List Int×List Int×Int×Int)⊕Bool)} (hf:Fu fu) {a b:List Int} (ha:small a) (hl:a.length=b.length)
  (hd:∀x,f x=bif (decide (x.2.2.2<x.2.2.1)) then ((nthI x.1 x.2.2.2)).bind fun y0=>((nthI x.2.1 x.2.2.2)).bind fun y1=>bif (y0 != y1) then some (Sum.inr false) else some (Sum.inl (x.1,x.2.1,x.2.2.1,(w64 (x.2.2.2+(1:Int))))) else some (Sum.inr true)) :
  loopM f fu (a,b,(a.length:Int),(0:Int))=some (decide (a=b)):=by
 unfold Fu at hf
 unfold small at ha
 obtain ⟨r,h1,h2⟩:=loop_n (f:=f) (n:=a.length) (I:=fun k x=>x=(a,b,(a.length:Int),(k:Int))∧∀j,j<k→a[j]? = b[j]?) (R:=fun r=>r=decide (a=b))
  (fun k x hk ⟨e,hj⟩=>by
   subst e
   rw [hd]
   have hkb:k<b.length:=by omega
   simp only [dlt,decide_eq_true hk,cond_true,nthI_get hk,nthI_get hkb,bind_some']
   by_cases e:a[k]=b[k]
   ·left
    simp only [e,bne_self_eq_false,cond_false]
    rw [w64_succ hk ha]
    refine ⟨_,rfl,rfl,fun j hj'=>?_⟩
    rcases Nat.lt_or_ge j k with h | h
    ·exact hj j h
    ·have:j=k:=by omega
     subst this
     rw [List.getElem?_eq_getElem hk,List.getElem?_eq_getElem hkb,e]
   ·right
    have:(a[k] != b[k])=true:=by simpa using e
    simp only [this,cond_true]
    refine ⟨_,rfl,?_⟩
    rw [eq_comm,decide_eq_false_iff_not]
    rintro rfl
    exact e rfl)
  (fun x ⟨e,hj⟩=>by
   subst e
   rw [hd]
   simp only [dlt,decide_eq_false (Nat.lt_irrefl a.length),cond_false]
   refine ⟨_,rfl,?_⟩
   rw [eq_comm,decide_eq_true_iff]
   apply List.ext_getElem?
   intro i
   rcases Nat.lt_or_ge i a.length with h | h
   ·exact hj i h
   ·rw [List.getElem?_eq_none h,List.getElem?_eq_none (by omega)])
  fu 0 (a,b,(a.length:Int),(0:Int)) (by omega) (by omega) ⟨rfl,fun j hj=>by omega⟩
 rw [h1,h2]
theorem len_ne {a b:List Int}:((a.length:Int) != (b.length:Int)) = !decide (a.length=b.length):=by
 by_cases h:a.length=b.length
 ·simp [h]
 ·have:(a.length:Int)≠(b.length:Int):=by omega
  simp [h];omega
theorem equal_eq (hf:Fu fu) {a b:List Int} (ha:small a):slices_Equal_int fu (a,b)=some (decide (a=b)):=by
 unfold slices_Equal_int
 try dsimp only
 simp only [len_ne]
 by_cases h:a.length=b.length
 ·simp only [h,decide_true,Bool.not_true,cond_false]
  rw [←h]
  exact equal_loop hf ha h (fun x=>rfl)
 ·simp only [h,decide_false,Bool.not_false,cond_true]
  rw [decide_eq_false];rintro rfl;exact h rfl
abbrev Rule:=List Int×List Int
abbrev Tok:=Int×(Int×List Int×Int)
def fnd (rs:List Rule) (x:List Int):Int:=fI (findN (fun r=>decide (r.1=x)) rs)
theorem fnd_neg {rs:List Rule} {x:List Int}:fnd rs x<0↔∀r∈rs,r.1≠x:=by
 unfold fnd
 rw [fI_neg,findN_none]
 simp
def ins (rs:List Rule):Prop:=∀r∈rs,small r.1
theorem find_eq (hf:Fu fu) {rs:List Rule} {x:List Int} (hs:small rs) (hi:ins rs):rule_Find fu (rs,x)=some (fnd rs x):=by
 unfold rule_Find slices_IndexFunc_api_Rule_find fnd
 try dsimp only
 have:=loop_find (f:=slices_IndexFunc_api_Rule_find_L0 fu) (l:=rs) (p:=fun r=>decide (r.1=x)) (st:=fun k=>(rs,x,(rs.length:Int),(k:Int))) (yes:=fun k=>(k:Int)) (no:=-1) (fu:=fu)
  (fun k h=>by
   unfold slices_IndexFunc_api_Rule_find_L0 rule_Find_1
   try dsimp only
   simp only [dlt,decide_eq_true h,cond_true,nthI_get h,bind_some',equal_eq hf (hi _ (List.getElem_mem h)),w64_succ h hs]
   cases decide (rs[k].1=x) <;> rfl)
  (by
   unfold slices_IndexFunc_api_Rule_find_L0
   try dsimp only
   simp only [dlt,decide_eq_false (Nat.lt_irrefl rs.length),cond_false])
  (by unfold Fu at hf;unfold small at hs;omega)
 simp only [Int.ofNat_zero] at this
 try simp only
 rw [show ((0:Int))=((0:Nat):Int) from rfl] at *
 rw [this]
 simp only [bind_some']
 cases findN (fun r=>decide (r.1=x)) rs <;> rfl
def okU (u:Int):Bool:=decide (0≤u) && decide (u≤1114111)
def sideB (us:List Int):Bool:=decide (0<us.length) && (decide (us.length≤8) && us.all okU)
theorem side_eq (hf:Fu fu) {us:List Int}:rule_side fu us=some (sideB us):=by
 unfold rule_side sideB
 try dsimp only
 have h0:decide (((us.length:Nat):Int)>0)=decide (0<us.length):=by simp
 have h8:decide (((us.length:Nat):Int)≤8)=decide (us.length≤8):=by
  rw [decide_eq_decide];omega
 rw [h0,h8]
 by_cases e0:0<us.length
 ·by_cases e8:us.length≤8
  ·simp only [e0,e8,decide_true,cond_true,Bool.true_and]
   unfold slices_ContainsFunc_int_side slices_IndexFunc_int_side
   try dsimp only
   have:=loop_find (f:=slices_IndexFunc_int_side_L0 fu) (l:=us) (p:=fun u=>!okU u) (st:=fun k=>(us,(us.length:Int),(k:Int))) (yes:=fun k=>(k:Int)) (no:=-1) (fu:=fu)
    (fun k h=>by
     unfold slices_IndexFunc_int_side_L0 rule_side_1
     try dsimp only
     simp only [dlt,decide_eq_true h,cond_true,nthI_get h,bind_some']
     rw [w64_succ (n:=us.length) h (by omega)]
     unfold okU
     by_cases h1:us[k]<0
     ·have:¬(0≤us[k]):=by omega
      simp [h1,this]
     ·have h1':0≤us[k]:=by omega
      by_cases h2:us[k]>1114111
      ·have:¬(us[k]≤1114111):=by omega
       simp [h1,h1',h2,this]
      ·have:us[k]≤1114111:=by omega
       simp [h1,h1',h2,this])
    (by
     unfold slices_IndexFunc_int_side_L0
     try dsimp only
     simp only [dlt,decide_eq_false (Nat.lt_irrefl us.length),cond_false])
    (by unfold Fu at hf;omega)
   simp only [Int.ofNat_zero] at this
   rw [show ((0:Int))=((0:Nat):Int) from rfl] at *
   rw [this]
   simp only [bind_some']
   cases e:findN (fun u=>!okU u) us with
   | none=>
    have:=findN_none.1 e
    have:us.all okU=true:=List.all_eq_true.2 fun x hx=>by simpa using this x hx
    simp [this]
   | some k=>
    obtain ⟨hk,h1,_⟩:=findN_some e
    have:us.all okU=false:=by
     rw [List.all_eq_false]
     exact ⟨_,List.getElem_mem hk,by simpa using h1⟩
    simp [this]
  ·simp [e0,e8]
 ·simp [e0]
end Go.AM.M
namespace Go.AM.M
open Go.AM
variable {fu:Nat}
structure Sides (rs:List Rule):Prop where
 len:rs.length≤512
 side:∀r∈rs,sideB r.1=true∧sideB r.2=true
structure Right (rs:List Rule):Prop extends Sides rs where
 diff:rs.Pairwise fun a b=>a.1≠b.1
theorem sideB_len {us:List Int} (h:sideB us=true):0<us.length∧us.length≤8:=by
 simp only [sideB,Bool.and_eq_true,decide_eq_true_eq] at h
 exact ⟨h.1,h.2.1⟩
theorem sideB_u {us:List Int} (h:sideB us=true):∀u∈us,0≤u∧u≤1114111:=by
 simp only [sideB,Bool.and_eq_true,decide_eq_true_eq,List.all_eq_true] at h
 intro u hu
 have:=h.2.2 u hu
 simpa [okU] using this
theorem Sides.ins {rs:List Rule} (h:Sides rs):ins rs:=fun r hr=>by have:=sideB_len (h.side r hr).1;unfold small;omega
theorem small_512 {α:Type} {l:List α} (h:l.length≤512):small l:=by unfold small;omega
theorem fnd_take {rs:List Rule} (h:rs.Pairwise fun a b=>a.1≠b.1) {k:Nat} (hk:k<rs.length):fnd (rs.take k) rs[k].1<0:=by
 rw [fnd_neg]
 intro r hr
 obtain ⟨j,hj,e⟩:=List.getElem_of_mem hr
 have hj':j<k:=by simp at hj;omega
 have:=List.pairwise_iff_getElem.1 h j k (by omega) hk hj'
 rw [←e];simpa using this
theorem check_eq (hf:Fu fu) {rs:List Rule} (h:Right rs):rule_Check fu rs=some (-1,0):=by
 unfold rule_Check
 try dsimp only
 refine loop_st (fun k=>(rs,rs,(rs.length:Int),(k:Int))) (m:=rs.length) (fun k hk=>?_) ?_ (by have:=h.len;unfold Fu at hf;omega)
 ·unfold rule_Check_L0
  have hs:=h.side _ (List.getElem_mem hk)
  have h512:decide ((k:Int)≥512)=false:=by rw [decide_eq_false_iff_not];have:=h.len;omega
  simp only [dlt,decide_eq_true hk,cond_true,nthI_get hk,bind_some',h512,cond_false,side_eq hf,hs.1,hs.2,Bool.not_true,sliceI_to (Nat.le_of_lt hk)]
  rw [find_eq hf (by unfold small;have:=h.len;simp;omega) (fun r hr=>h.ins r (List.mem_of_mem_take hr)),bind_some',decide_eq_false (by have:=fnd_take h.diff hk;omega),cond_false,w64_succ hk (by have:=h.len;omega)]
 ·unfold rule_Check_L0
  simp only [dlt,decide_eq_false (Nat.lt_irrefl rs.length),cond_false]
end Go.AM.M
namespace Go.AM.M
open Go.AM
variable {fu:Nat}
def usedB (rs:List Rule) (u:Int):Bool:=rs.any fun x=>decide (x.1.getLast? = some u)
def okN (rs:List Rule) (r:List Int) (n:Nat):Bool:=rs.any (fun x=>decide (x.1=r.take n)) || (decide (n=1) && !(usedB rs (r.headD 0)))
def closedP (rs:List Rule):Prop:=∀r∈rs,∀n,1≤n→n<r.1.length→okN rs r.1 n=true
theorem last_eq {l:List Int} (h:0<l.length):nthI l (w64 ((l.length:Int) - 1))=l.getLast?∨9223372036854775808≤l.length:=by
 rcases Nat.lt_or_ge l.length 9223372036854775808 with hs | hs
 ·left
  rw [w64_id (by omega) (by omega),show ((l.length:Int) - 1)=((l.length - 1:Nat):Int) by omega,nthI_nat,List.getLast?_eq_getElem?]
 ·exact .inr hs
theorem last_side {l:List Int} (h:sideB l=true):∃u,nthI l (w64 ((l.length:Int) - 1))=some u∧l.getLast? = some u:=by
 have hl:=sideB_len h
 rcases last_eq (l:=l) hl.1 with e | e
 ·cases hg:l.getLast? with
  | none=>rw [List.getLast?_eq_none_iff] at hg;subst hg;simp at hl
  | some u=>exact ⟨u,by rw [e,hg],rfl⟩
 ·omega
end Go.AM.M
namespace Go.AM.M
open Go.AM
variable {fu:Nat}
def turnS (out:List Rule) (r:Rule):List Rule:=if fnd out r.2<0 then out++[(r.2,r.1)] else out
def turn (rs:List Rule):List Rule:=rs.foldl turnS []
theorem turn_snoc (rs:List Rule) (r:Rule):turn (rs++[r])=turnS (turn rs) r:=by simp [turn]
theorem turn_mem {rs:List Rule}:∀t∈turn rs,(t.2,t.1)∈rs:=by
 induction rs using snocInd with
 | nil=>intro t h;simp [turn] at h
 | snoc rs r ih=>
  intro t h
  rw [turn_snoc] at h
  unfold turnS at h
  split at h
  ·rw [List.mem_append] at h
   rcases h with h | h
   ·exact List.mem_append_left _ (ih t h)
   ·simp only [List.mem_singleton] at h
    subst h
    simp
  ·exact List.mem_append_left _ (ih t h)
theorem turn_len (rs:List Rule):(turn rs).length≤rs.length:=by
 induction rs using snocInd with
 | nil=>simp [turn]
 | snoc rs r ih=>
  rw [turn_snoc]
  unfold turnS
  split <;> simp <;> omega
theorem turn_diff (rs:List Rule):(turn rs).Pairwise fun a b=>a.1≠b.1:=by
 induction rs using snocInd with
 | nil=>simp [turn]
 | snoc rs r ih=>
  rw [turn_snoc]
  unfold turnS
  split
  ·rename_i h
   rw [List.pairwise_append]
   refine ⟨ih,by simp,fun a ha b hb=>?_⟩
   simp only [List.mem_singleton] at hb
   subst hb
   exact fnd_neg.1 h a ha
  ·exact ih
theorem turn_right {rs:List Rule} (h:Sides rs):Right (turn rs):=
 ⟨⟨Nat.le_trans (turn_len rs) h.len,fun t ht=>by have:=h.side _ (turn_mem t ht);exact ⟨this.2,this.1⟩⟩,turn_diff rs⟩
theorem Sides.take {rs:List Rule} (h:Sides rs) (k:Nat):Sides (rs.take k):=⟨by have:=h.len;simp;omega,fun r hr=>h.side r (List.mem_of_mem_take hr)⟩
theorem clone_eq {l:List Int} (h:0<l.length) (h2:l.length≤1000000):slices_Clone_int fu l=some l:=by
 unfold slices_Clone_int
 try dsimp only
 have:Nat.blt 0 l.length=true:=by simpa using h
 rw [this,cond_true,decide_eq_true (by simp;omega),cond_true];rfl
theorem turn_eq (hf:Fu fu) {rs:List Rule} (hS:Sides rs):rule_Turn fu rs=some (turn rs):=by
 unfold rule_Turn
 try dsimp only
 have h512:=hS.len
 obtain ⟨v,h1,h2⟩:=loop_n (f:=rule_Turn_L0 fu) (n:=rs.length) (I:=fun k x=>x=(rs,turn (rs.take k),rs,(rs.length:Int),(k:Int))) (R:=fun v=>v=turn rs)
  (by
   rintro k x hk rfl
   left
   unfold rule_Turn_L0
   try dsimp only
   have hs:=hS.side _ (List.getElem_mem hk)
   have hl1:=sideB_len hs.1
   have hl2:=sideB_len hs.2
   have hT:=turn_right (hS.take k)
   have hlen:(turn (rs.take k)).length≤k:=Nat.le_trans (turn_len _) (by simp;omega)
   simp only [dlt,decide_eq_true hk,cond_true,nthI_get hk,bind_some',find_eq hf (small_512 hT.len) hT.ins,w64_succ hk (show rs.length<9223372036854775808 by omega),
    clone_eq (fu:=fu) hl1.1 (by omega),clone_eq (fu:=fu) hl2.1 (by omega)]
   have hsn:turn (rs.take (k+1))=turnS (turn (rs.take k)) rs[k]:=by rw [List.take_succ_eq_append_getElem hk,turn_snoc]
   rw [hsn]
   unfold turnS
   by_cases h:fnd (turn (rs.take k)) rs[k].2<0
   ·rw [decide_eq_true h,cond_true,decide_eq_true (by simp;omega),cond_true,if_pos h]
    exact ⟨_,rfl,rfl⟩
   ·rw [decide_eq_false h,cond_false,if_neg h]
    exact ⟨_,rfl,rfl⟩)
  (by
   rintro x rfl
   unfold rule_Turn_L0
   try dsimp only
   simp only [dlt,decide_eq_false (Nat.lt_irrefl rs.length),cond_false,List.take_length]
   exact ⟨_,rfl,rfl⟩)
  fu 0 (rs,([]:List Rule),rs,(rs.length:Int),(0:Int)) (by omega) (by unfold Fu at hf;omega) rfl
 rw [h1,h2]
def maxIn (rs:List Rule):Nat:=rs.foldl (fun n r=>max n r.1.length) 0
theorem maxIn_snoc (rs:List Rule) (r:Rule):maxIn (rs++[r])=max (maxIn rs) r.1.length:=by simp [maxIn]
theorem maxIn_le {rs:List Rule}:∀r∈rs,r.1.length≤maxIn rs:=by
 induction rs using snocInd with
 | nil=>intro r h;cases h
 | snoc rs r ih=>
  intro x hx
  rw [maxIn_snoc]
  rw [List.mem_append] at hx
  rcases hx with hx | hx
  ·have:=ih x hx;omega
  ·simp only [List.mem_singleton] at hx
   subst hx;omega
theorem maxIn_bound {rs:List Rule} {m:Nat} (h:∀r∈rs,r.1.length≤m):maxIn rs≤m:=by
 induction rs using snocInd with
 | nil=>simp [maxIn]
 | snoc rs r ih=>
  rw [maxIn_snoc]
  have h1:=ih (fun x hx=>h x (List.mem_append_left _ hx))
  have h2:=h r (by simp)
  omega
theorem longest_eq (hf:Fu fu) {rs:List Rule} (hs:small rs):rule_Longest fu rs=some (maxIn rs:Int):=by
 unfold rule_Longest
 try dsimp only
 obtain ⟨v,h1,h2⟩:=loop_n (f:=rule_Longest_L0 fu) (n:=rs.length) (I:=fun k x=>x=(rs,(maxIn (rs.take k):Int),rs,(rs.length:Int),(k:Int))) (R:=fun v=>v=(maxIn rs:Int))
  (by
   rintro k x hk rfl
   left
   unfold rule_Longest_L0
   try dsimp only
   simp only [dlt,decide_eq_true hk,cond_true,nthI_get hk,bind_some',w64_succ hk hs]
   refine ⟨_,rfl,?_⟩
   have:maxIn (rs.take (k+1))=max (maxIn (rs.take k)) rs[k].1.length:=by rw [List.take_succ_eq_append_getElem hk,maxIn_snoc]
   rw [this]
   congr 2
   split <;> omega)
  (by
   rintro x rfl
   unfold rule_Longest_L0
   try dsimp only
   simp only [dlt,decide_eq_false (Nat.lt_irrefl rs.length),cond_false,List.take_length]
   exact ⟨_,rfl,rfl⟩)
  fu 0 (rs,(0:Int),rs,(rs.length:Int),(0:Int)) (by omega) (by unfold Fu at hf;unfold small at hs;omega) rfl
 rw [h1,h2]
theorem used_eq (hf:Fu fu) {rs:List Rule} (hS:Sides rs) {u:Int}:table_used fu (rs,u)=some (usedB rs u):=by
 unfold table_used slices_ContainsFunc_api_Rule_used slices_IndexFunc_api_Rule_used usedB
 try dsimp only
 have h512:=hS.len
 have:=loop_find (f:=slices_IndexFunc_api_Rule_used_L0 fu) (l:=rs) (p:=fun x=>decide (x.1.getLast? = some u)) (st:=fun k=>(rs,u,(rs.length:Int),(k:Int))) (yes:=fun k=>(k:Int)) (no:=-1) (fu:=fu)
  (fun k h=>by
   unfold slices_IndexFunc_api_Rule_used_L0 table_used_1
   try dsimp only
   obtain ⟨v,hv1,hv2⟩:=last_side (hS.side _ (List.getElem_mem h)).1
   have heq:(v == u)=decide (rs[k].1.getLast? = some u):=by
    rw [hv2]
    by_cases e:v=u
    ·rw [←e];simp
    ·rw [decide_eq_false (by simpa using e)];simpa using e
   simp only [dlt,decide_eq_true h,cond_true,nthI_get h,bind_some',hv1,heq,w64_succ h (show rs.length<9223372036854775808 by omega)]
   cases decide (rs[k].1.getLast? = some u) <;> rfl)
  (by
   unfold slices_IndexFunc_api_Rule_used_L0
   try dsimp only
   simp only [dlt,decide_eq_false (Nat.lt_irrefl rs.length),cond_false])
  (by unfold Fu at hf;omega)
 simp only [Int.ofNat_zero] at this
 try simp only
 rw [show ((0:Int))=((0:Nat):Int) from rfl] at *
 rw [this]
 simp only [bind_some']
 cases e:findN (fun x:Rule=>decide (x.1.getLast? = some u)) rs with
 | none=>
  have:=findN_none.1 e
  rw [List.any_eq_false.2 (by simpa using this)];rfl
 | some k=>
  obtain ⟨hk,h1,_⟩:=findN_some e
  rw [List.any_eq_true.2 ⟨_,List.getElem_mem hk,h1⟩]
  simp
theorem tclosed_eq (hf:Fu fu) {rs:List Rule} (hS:Sides rs) (hc:closedP rs):table_closed fu rs=some true:=by
 unfold table_closed
 try dsimp only
 have h512:=hS.len
 refine loop_st (fun k=>(rs,rs,(rs.length:Int),(k:Int))) (m:=rs.length) (fun k hk=>?_) ?_ (by unfold Fu at hf;omega)
 ·unfold table_closed_L1
  have hs:=(hS.side _ (List.getElem_mem hk)).1
  have hl:=sideB_len hs
  simp only [dlt,decide_eq_true hk,cond_true,nthI_get hk,bind_some']
  rw [w64_id (by omega) (by omega),show ((rs[k].1.length:Int) - 1)=((rs[k].1.length - 1:Nat):Int) by omega]
  have:=loop_st (f:=table_closed_L0 fu) (fun j=>(rs,((rs[k].1.length - 1 - j:Nat):Int),rs,(rs.length:Int),(k:Int),rs[k].1,rs[k].2)) (m:=rs[k].1.length - 1) (r:=.inl (rs,rs,(rs.length:Int),((k+1:Nat):Int))) (fu:=fu)
   (fun j hj=>by
    unfold table_closed_L0
    try dsimp only
    have hn:0<rs[k].1.length - 1 - j:=by omega
    have h1:decide (((rs[k].1.length - 1 - j:Nat):Int)>0)=true:=by rw [decide_eq_true_iff];omega
    have hok:=hc _ (List.getElem_mem hk) (rs[k].1.length - 1 - j) (by omega) (by omega)
    have hw:w64 (((rs[k].1.length - 1 - j:Nat):Int) - 1)=((rs[k].1.length - 1 - (j+1):Nat):Int):=by rw [w64_id (by omega) (by omega)];omega
    simp only [h1,cond_true,sliceI_to (show rs[k].1.length - 1 - j≤rs[k].1.length by omega),bind_some',find_eq hf (small_512 h512) hS.ins,hw]
    unfold okN at hok
    by_cases hfn:fnd rs (rs[k].1.take (rs[k].1.length - 1 - j))<0
    ·rw [decide_eq_true hfn,cond_true]
     have hno:rs.any (fun x=>decide (x.1=rs[k].1.take (rs[k].1.length - 1 - j)))=false:=by
      rw [List.any_eq_false]
      intro x hx
      simpa using fnd_neg.1 hfn x hx
     rw [hno,Bool.false_or,Bool.and_eq_true,decide_eq_true_iff] at hok
     obtain ⟨ho1,ho2⟩:=hok
     have h2:decide (((rs[k].1.length - 1 - j:Nat):Int)>1)=false:=by rw [decide_eq_false_iff_not];omega
     have h0:nthI rs[k].1 (0:Int)=some (rs[k].1.headD 0):=by
      cases hh:rs[k].1 with
      | nil=>rw [hh] at hl;simp at hl
      | cons a t=>rfl
     rw [h2,cond_false,h0,bind_some',used_eq hf hS,bind_some']
     have:usedB rs (rs[k].1.headD 0)=false:=by simpa using ho2
     rw [this,cond_false]
    ·rw [decide_eq_false hfn,cond_false])
   (by
    unfold table_closed_L0
    try dsimp only
    simp only [Nat.sub_self]
    have:decide (((0:Nat):Int)>0)=false:=rfl
    rw [this,cond_false,w64_succ hk (show rs.length<9223372036854775808 by omega)])
   (by unfold Fu at hf;omega)
  simp only [Nat.sub_zero] at this
  rw [this]
 ·unfold table_closed_L1
  simp only [dlt,decide_eq_false (Nat.lt_irrefl rs.length),cond_false]
end Go.AM.M
namespace Go.AM.M
open Go.AM
variable {fu:Nat}
abbrev Node:=Int×(Int×Int×Int)
inductive Chain (N:List Node):Int→List Nat→Prop where
 | nil:Chain N 0 []
 | cons (c:Nat) (n:Node) (cs:List Nat) (h0:0<c) (hn:N[c]? = some n) (hd:∀d∈cs,d<c) (h:Chain N n.2.2.1 cs):Chain N (c:Int) (c :: cs)
structure Tr (N:List Node) (p:Nat→List Int):Prop where
 pos:0<N.length
 root:p 0=[]
 inj:∀i j,i<N.length→j<N.length→p i=p j→i=j
 chain:∀i n,N[i]? = some n→∃cs,Chain N n.2.1 cs∧∀j,j∈cs↔(0<j∧∃m,N[j]? = some m∧p j=p i++[m.1])
 up:∀j m,N[j]? = some m→0<j→∃i,i<N.length∧p j=p i++[m.1]
theorem Chain.lt {N:List Node} {k:Int} {cs:List Nat} (h:Chain N k cs):∀c∈cs,c<N.length:=by
 induction h with
 | nil=>intro c hc;cases hc
 | cons c n cs h0 hn hd h ih=>
  intro d hd'
  rcases List.mem_cons.1 hd' with rfl | hd'
  ·exact (List.getElem?_eq_some_iff.1 hn).1
  ·exact ih d hd'
theorem Chain.len {N:List Node} {k:Int} {cs:List Nat} (h:Chain N k cs):∀m:Nat,(∀c∈cs,c<m)→cs.length≤m:=by
 induction h with
 | nil=>intro m _;simp
 | cons c n cs h0 hn hd h ih=>
  intro m hm
  have h1:=hm c (by simp)
  have h2:=ih c hd
  simp;omega
def findC (N:List Node) (u:Int):List Nat→Option Nat
 | []=>none
 | c :: cs=>if (N[c]?.map (·.1))=some u then some c else findC N u cs
theorem findC_some {N:List Node} {u:Int}:∀{cs:List Nat} {c:Nat},findC N u cs=some c→c∈cs∧N[c]?.map (·.1)=some u
 | [],c,h=>by cases h
 | d :: cs,c,h=>by
  unfold findC at h
  split at h
  ·rename_i e;injection h with h;subst h;exact ⟨by simp,e⟩
  ·obtain ⟨h1,h2⟩:=findC_some h;exact ⟨List.mem_cons_of_mem _ h1,h2⟩
theorem findC_none {N:List Node} {u:Int}:∀{cs:List Nat},findC N u cs=none→∀c∈cs,N[c]?.map (·.1)≠some u
 | [],h,c,hc=>by cases hc
 | d :: cs,h,c,hc=>by
  unfold findC at h
  split at h
  ·cases h
  ·rename_i e
   rcases List.mem_cons.1 hc with rfl | hc
   ·exact e
   ·exact findC_none h c hc
def stepR (o:Option Nat):Int×Bool:=
 match o with
 | some c=>(c,true)
 | none=>(0,false)
theorem step_loop {N:List Node} {rules:List Rule} {u:Int}:∀{cs:List Nat} {k:Int},Chain N k cs→∀f:Nat,cs.length<f→loopM (trie_Trie_Step_L0 fu) f (N,rules,u,k)=some (stepR (findC N u cs)):=by
 intro cs k h
 induction h with
 | nil=>
  intro f hf
  cases f with
  | zero=>omega
  | succ f=>rfl
 | cons c n cs h0 hn hd h ih=>
  intro f hf
  cases f with
  | zero=>simp at hf
  | succ f=>
   have hs:trie_Trie_Step_L0 fu (N,rules,u,(c:Int))=some (bif n.1 == u then .inr ((c:Int),true) else .inl (N,rules,u,n.2.2.1)):=by
    unfold trie_Trie_Step_L0
    try dsimp only
    have:decide ((c:Int)>0)=true:=by simpa using h0
    simp only [this,cond_true,nthI_nat,hn,bind_some']
    cases n.1 == u <;> rfl
   unfold findC
   rw [hn]
   simp only [Option.map_some,Option.some.injEq]
   by_cases e:n.1=u
   ·rw [if_pos e]
    have:(n.1 == u)=true:=by simpa using e
    simp only [loopM,hs,this,cond_true]
    rfl
   ·rw [if_neg e]
    have:(n.1 == u)=false:=by simpa using e
    simp only [loopM,hs,this,cond_false]
    exact ih f (by simp at hf;omega)
theorem stepb_loop {N:List Node} {rules:List Rule} {u:Int}:∀{cs:List Nat} {k:Int},Chain N k cs→∀f:Nat,cs.length<f→loopM (trie_Trie_Step_box_L0 fu) f (u,k,N,rules)=some ((stepR (findC N u cs)).1,(stepR (findC N u cs)).2,N,rules):=by
 intro cs k h
 induction h with
 | nil=>
  intro f hf
  cases f with
  | zero=>omega
  | succ f=>rfl
 | cons c n cs h0 hn hd h ih=>
  intro f hf
  cases f with
  | zero=>simp at hf
  | succ f=>
   have hs:trie_Trie_Step_box_L0 fu (u,(c:Int),N,rules)=some (bif n.1 == u then .inr ((c:Int),true,N,rules) else .inl (u,n.2.2.1,N,rules)):=by
    unfold trie_Trie_Step_box_L0
    try dsimp only
    have:decide ((c:Int)>0)=true:=by simpa using h0
    simp only [this,cond_true,nthI_nat,hn,bind_some',Int.toNat_natCast]
    cases n.1 == u <;> rfl
   unfold findC
   rw [hn]
   simp only [Option.map_some,Option.some.injEq]
   by_cases e:n.1=u
   ·rw [if_pos e]
    have:(n.1 == u)=true:=by simpa using e
    simp only [loopM,hs,this,cond_true]
    rfl
   ·rw [if_neg e]
    have:(n.1 == u)=false:=by simpa using e
    simp only [loopM,hs,this,cond_false]
    exact ih f (by simp at hf;omega)
theorem Tr.step {N:List Node} {p:Nat→List Int} (h:Tr N p) {at':Nat} (ha:at'<N.length) (u:Int) :
  ∃o:Option Nat,(∃n cs,N[at']? = some n∧Chain N n.2.1 cs∧findC N u cs=o)∧(match o with
   | some c=>0<c∧c<N.length∧p c=p at'++[u]
   | none=>∀j,j<N.length→p j≠p at'++[u]):=by
 have hn:N[at']? = some N[at']:=List.getElem?_eq_getElem ha
 obtain ⟨cs,h1,h2⟩:=h.chain at' _ hn
 refine ⟨findC N u cs,⟨_,cs,hn,h1,rfl⟩,?_⟩
 cases e:findC N u cs with
 | some c=>
  obtain ⟨e1,e2⟩:=findC_some e
  obtain ⟨h3,m,h4,h5⟩:=(h2 c).1 e1
  rw [h4] at e2
  simp only [Option.map_some,Option.some.injEq] at e2
  exact ⟨h3,(List.getElem?_eq_some_iff.1 h4).1,by rw [h5,e2]⟩
 | none=>
  intro j hj hp
  have hj0:0<j:=by
   rcases Nat.eq_zero_or_pos j with rfl | h0
   ·rw [h.root] at hp;simp at hp
   ·exact h0
  have hm:N[j]? = some N[j]:=List.getElem?_eq_getElem hj
  obtain ⟨i,hi,hpi⟩:=h.up j _ hm hj0
  have hpp:=hpi.symm.trans hp
  have hu:N[j].1=u:=by
   have:=congrArg List.getLast? hpp
   simpa using this
  have hmem:j∈cs:=(h2 j).2 ⟨hj0,_,hm,by rw [hp,hu]⟩
  exact findC_none e j hmem (by rw [hm];simp [hu])
theorem step_eq (hf:Fu fu) {N:List Node} {p:Nat→List Int} (h:Tr N p) (hs:small N) {rules:List Rule} {at':Nat} (ha:at'<N.length) (u:Int) :
  ∃o:Option Nat,trie_Trie_Step fu (N,rules,(at':Int),u)=some (stepR o)∧(match o with
   | some c=>0<c∧c<N.length∧p c=p at'++[u]
   | none=>∀j,j<N.length→p j≠p at'++[u]):=by
 obtain ⟨o,⟨n,cs,h1,h2,h3⟩,h4⟩:=h.step ha u
 refine ⟨o,?_,h4⟩
 unfold trie_Trie_Step
 try dsimp only
 have e1:decide ((at':Int)<0)=false:=by rw [decide_eq_false_iff_not];omega
 have e2:decide ((at':Int)≥(N.length:Int))=false:=by rw [decide_eq_false_iff_not];omega
 have hl:=h2.len N.length h2.lt
 simp only [e1,e2,cond_false,nthI_nat,h1,bind_some']
 rw [step_loop h2 fu (by unfold Fu at hf;unfold small at hs;omega),h3]
theorem stepb_eq (hf:Fu fu) {N:List Node} {p:Nat→List Int} (h:Tr N p) (hs:small N) {rules:List Rule} {at':Nat} (ha:at'<N.length) (u:Int) :
  ∃o:Option Nat,trie_Trie_Step_box fu ((at':Int),u,N,rules)=some ((stepR o).1,(stepR o).2,N,rules)∧(match o with
   | some c=>0<c∧c<N.length∧p c=p at'++[u]
   | none=>∀j,j<N.length→p j≠p at'++[u]):=by
 obtain ⟨o,⟨n,cs,h1,h2,h3⟩,h4⟩:=h.step ha u
 refine ⟨o,?_,h4⟩
 unfold trie_Trie_Step_box
 try dsimp only
 have e1:decide ((at':Int)<0)=false:=by rw [decide_eq_false_iff_not];omega
 have e2:decide ((at':Int)≥(N.length:Int))=false:=by rw [decide_eq_false_iff_not];omega
 have hl:=h2.len N.length h2.lt
 simp only [e1,e2,cond_false,nthI_nat,h1,bind_some',Int.toNat_natCast]
 rw [stepb_loop h2 fu (by unfold Fu at hf;unfold small at hs;omega),h3]
def addN (N:List Node) (a:Nat) (n:Node) (u:Int):List Node:=(N++[(u,(0:Int),n.2.1,(-1:Int))]).set a (n.1,(N.length:Int),n.2.2.1,n.2.2.2)
def addP (N:List Node) (p:Nat→List Int) (a:Nat) (u:Int):Nat→List Int:=fun j=>if j=N.length then p a++[u] else p j
theorem addN_len {N:List Node} {a:Nat} {n:Node} {u:Int}:(addN N a n u).length=N.length+1:=by simp [addN]
theorem addN_get {N:List Node} {a:Nat} {n:Node} {u:Int} (hn:N[a]? = some n) (j:Nat):(addN N a n u)[j]? = if j=a then some (n.1,(N.length:Int),n.2.2.1,n.2.2.2) else if j=N.length then some (u,(0:Int),n.2.1,(-1:Int)) else N[j]?:=by
 have ha:=(List.getElem?_eq_some_iff.1 hn).1
 unfold addN
 rw [List.getElem?_set]
 by_cases e:a=j
 ·subst e;simp;omega
 ·rw [if_neg e,if_neg (fun h=>e h.symm)]
  by_cases e2:j=N.length
  ·subst e2;simp
  ·rw [if_neg e2,List.getElem?_append]
   split
   ·rfl
   ·rw [List.getElem?_eq_none (by simp;omega),List.getElem?_eq_none (by omega)]
theorem chain_add {N:List Node} {a:Nat} {n:Node} {u:Int} (hn:N[a]? = some n) {k:Int} {cs:List Nat} (h:Chain N k cs):Chain (addN N a n u) k cs:=by
 induction h with
 | nil=>exact .nil
 | cons c m cs h0 hm hd h ih=>
  by_cases e:c=a
  ·subst e
   rw [hn] at hm
   injection hm with hm
   subst hm
   exact .cons c (n.1,(N.length:Int),n.2.2.1,n.2.2.2) cs h0 (by rw [addN_get hn,if_pos rfl]) hd ih
  ·have hc:=(List.getElem?_eq_some_iff.1 hm).1
   exact .cons c m cs h0 (by rw [addN_get hn,if_neg e,if_neg (by omega)];exact hm) hd ih
theorem Tr.add {N:List Node} {p:Nat→List Int} (h:Tr N p) {a:Nat} {n:Node} {u:Int} (hn:N[a]? = some n) (hnew:∀j,j<N.length→p j≠p a++[u]):Tr (addN N a n u) (addP N p a u):=by
 have ha:=(List.getElem?_eq_some_iff.1 hn).1
 have hp:∀j,j<N.length→addP N p a u j=p j:=fun j hj=>if_neg (by omega)
 have hpn:addP N p a u N.length=p a++[u]:=if_pos rfl
 have hunit:∀(j:Nat) (m:Node),(addN N a n u)[j]? = some m→(j<N.length∧∃m',N[j]? = some m'∧m'.1=m.1)∨(j=N.length∧m.1=u):=fun j m hm=>by
  rw [addN_get hn] at hm
  split at hm
  ·rename_i e;subst e;injection hm with hm;subst hm;exact .inl ⟨ha,n,hn,rfl⟩
  ·split at hm
   ·rename_i e;injection hm with hm;subst hm;exact .inr ⟨e,rfl⟩
   ·exact .inl ⟨(List.getElem?_eq_some_iff.1 hm).1,m,hm,rfl⟩
 have hunit2:∀(j:Nat) (m':Node),N[j]? = some m'→∃m:Node,(addN N a n u)[j]? = some m∧m.1=m'.1:=fun j m' hm=>by
  have hj:=(List.getElem?_eq_some_iff.1 hm).1
  rw [addN_get hn]
  by_cases e:j=a
  ·subst e;rw [if_pos rfl];rw [hn] at hm;injection hm with hm;subst hm;exact ⟨_,rfl,rfl⟩
  ·rw [if_neg e,if_neg (by omega)];exact ⟨m',hm,rfl⟩
 refine ⟨by rw [addN_len];omega,by rw [hp 0 h.pos];exact h.root,fun i j hi hj e=>?_,fun i m hm=>?_,fun j m hm hj=>?_⟩
 ·rw [addN_len] at hi hj
  rcases Nat.lt_or_ge i N.length with hi' | hi' <;> rcases Nat.lt_or_ge j N.length with hj' | hj'
  ·rw [hp i hi',hp j hj'] at e;exact h.inj i j hi' hj' e
  ·have:j=N.length:=by omega
   subst this
   rw [hp i hi',hpn] at e
   exact absurd e (hnew i hi')
  ·have:i=N.length:=by omega
   subst this
   rw [hp j hj',hpn] at e
   exact absurd e.symm (hnew j hj')
  ·omega
 ·
  rw [addN_get hn] at hm
  by_cases e:i=a
  ·subst e
   rw [if_pos rfl] at hm
   injection hm with hm;subst hm
   obtain ⟨cs,h1,h2⟩:=h.chain i n hn
   have hc:=chain_add (u:=u) hn h1
   refine ⟨N.length :: cs,.cons N.length (u,(0:Int),n.2.1,(-1:Int)) cs (by omega) (by rw [addN_get hn,if_neg (by omega),if_pos rfl]) h1.lt hc,fun j=>?_⟩
   rw [List.mem_cons]
   constructor
   ·rintro (rfl | hj)
    ·exact ⟨by omega,_,by rw [addN_get hn,if_neg (by omega),if_pos rfl],by rw [hpn,hp i ha]⟩
    ·obtain ⟨k0,m',k1,k2⟩:=(h2 j).1 hj
     obtain ⟨m,k3,k4⟩:=hunit2 j m' k1
     have hj':=(List.getElem?_eq_some_iff.1 k1).1
     exact ⟨k0,m,k3,by rw [hp j hj',hp i ha,k2,k4]⟩
   ·rintro ⟨k0,m,k1,k2⟩
    rcases hunit j m k1 with ⟨hj',m',k3,k4⟩ | ⟨rfl,_⟩
    ·right
     rw [hp j hj',hp i ha] at k2
     exact (h2 j).2 ⟨k0,m',k3,by rw [k2,k4]⟩
    ·exact .inl rfl
  ·rw [if_neg e] at hm
   by_cases e2:i=N.length
   ·subst e2
    rw [if_pos rfl] at hm
    injection hm with hm;subst hm
    refine ⟨[],.nil,fun j=>?_⟩
    constructor
    ·intro hj;cases hj
    ·rintro ⟨k0,m,k1,k2⟩
     exfalso
     rw [hpn] at k2
     rcases hunit j m k1 with ⟨hj',m',k3,k4⟩ | ⟨rfl,_⟩
     ·rw [hp j hj'] at k2
      obtain ⟨i',hi',k5⟩:=h.up j m' k3 k0
      have:p i'=p a++[u]:=by
       have:=k5.symm.trans k2
       exact (List.append_inj' this rfl).1
      exact hnew i' hi' this
     ·rw [hpn] at k2
      have:=congrArg List.length k2
      simp at this
   ·rw [if_neg e2] at hm
    have hi:=(List.getElem?_eq_some_iff.1 hm).1
    obtain ⟨cs,h1,h2⟩:=h.chain i m hm
    refine ⟨cs,chain_add hn h1,fun j=>?_⟩
    rw [h2 j]
    constructor
    ·rintro ⟨k0,m',k1,k2⟩
     obtain ⟨m2,k3,k4⟩:=hunit2 j m' k1
     have hj':=(List.getElem?_eq_some_iff.1 k1).1
     exact ⟨k0,m2,k3,by rw [hp j hj',hp i hi,k2,k4]⟩
    ·rintro ⟨k0,m2,k1,k2⟩
     rcases hunit j m2 k1 with ⟨hj',m',k3,k4⟩ | ⟨rfl,k3⟩
     ·rw [hp j hj',hp i hi] at k2
      exact ⟨k0,m',k3,by rw [k2,k4]⟩
     ·exfalso
      rw [hpn,hp i hi,k3] at k2
      have:=h.inj a i ha hi (List.append_inj' k2 rfl).1
      exact e this.symm
 ·rcases hunit j m hm with ⟨hj',m',k3,k4⟩ | ⟨rfl,k3⟩
  ·obtain ⟨i,hi,k5⟩:=h.up j m' k3 hj
   exact ⟨i,by rw [addN_len];omega,by rw [hp j hj',hp i hi,k5,k4]⟩
  ·exact ⟨a,by rw [addN_len];omega,by rw [hpn,hp a ha,k3]⟩
theorem Tr.mark {N:List Node} {p:Nat→List Int} (h:Tr N p) {a:Nat} {n:Node} (hn:N[a]? = some n) (k:Int):Tr (N.set a (n.1,n.2.1,n.2.2.1,k)) p:=by
 have ha:=(List.getElem?_eq_some_iff.1 hn).1
 have hget:∀j,(N.set a (n.1,n.2.1,n.2.2.1,k))[j]? = if j=a then some (n.1,n.2.1,n.2.2.1,k) else N[j]?:=fun j=>by
  rw [List.getElem?_set]
  by_cases e:a=j
  ·subst e;simp [ha]
  ·rw [if_neg e,if_neg (fun h=>e h.symm)]
 have hto:∀(j:Nat) (m:Node),(N.set a (n.1,n.2.1,n.2.2.1,k))[j]? = some m→∃m':Node,N[j]? = some m'∧m'.1=m.1∧m'.2.1=m.2.1∧m'.2.2.1=m.2.2.1:=fun j m hm=>by
  rw [hget] at hm
  split at hm
  ·rename_i e;subst e;injection hm with hm;subst hm;exact ⟨n,hn,rfl,rfl,rfl⟩
  ·exact ⟨m,hm,rfl,rfl,rfl⟩
 have hfrom:∀(j:Nat) (m':Node),N[j]? = some m'→∃m:Node,(N.set a (n.1,n.2.1,n.2.2.1,k))[j]? = some m∧m.1=m'.1∧m.2.2.1=m'.2.2.1:=fun j m' hm=>by
  rw [hget]
  by_cases e:j=a
  ·subst e;rw [if_pos rfl];rw [hn] at hm;injection hm with hm;subst hm;exact ⟨_,rfl,rfl,rfl⟩
  ·rw [if_neg e];exact ⟨m',hm,rfl,rfl⟩
 have hch:∀{k':Int} {cs:List Nat},Chain N k' cs→Chain (N.set a (n.1,n.2.1,n.2.2.1,k)) k' cs:=fun {k' cs} hc=>by
  induction hc with
  | nil=>exact .nil
  | cons c m cs h0 hm hd h ih=>
   obtain ⟨m2,e1,_,e3⟩:=hfrom c m hm
   exact .cons c m2 cs h0 e1 hd (by rw [e3];exact ih)
 have hlen:(N.set a (n.1,n.2.1,n.2.2.1,k)).length=N.length:=by simp
 refine ⟨by rw [hlen];exact h.pos,h.root,fun i j hi hj e=>h.inj i j (by rwa [hlen] at hi) (by rwa [hlen] at hj) e,fun i m hm=>?_,fun j m hm hj=>?_⟩
 ·obtain ⟨m',e1,e2,e3,_⟩:=hto i m hm
  obtain ⟨cs,h1,h2⟩:=h.chain i m' e1
  rw [e3] at h1
  refine ⟨cs,hch h1,fun j=>?_⟩
  rw [h2 j]
  constructor
  ·rintro ⟨k0,m2,k1,k2⟩
   obtain ⟨m3,k3,k4,_⟩:=hfrom j m2 k1
   exact ⟨k0,m3,k3,by rw [k4];exact k2⟩
  ·rintro ⟨k0,m2,k1,k2⟩
   obtain ⟨m3,k3,k4,_⟩:=hto j m2 k1
   exact ⟨k0,m3,k3,by rw [k4];exact k2⟩
 ·obtain ⟨m',e1,e2,_⟩:=hto j m hm
  obtain ⟨i,hi,hp⟩:=h.up j m' e1 hj
  exact ⟨i,by rwa [hlen],by rw [hp,e2]⟩
end Go.AM.M
namespace Go.AM.M
open Go.AM
variable {fu:Nat}
def anyIn (rs:List Rule) (x:List Int):Bool:=rs.any fun r=>decide (r.1=x)
theorem anyIn_iff {rs:List Rule} {x:List Int}:anyIn rs x=true↔∃r∈rs,r.1=x:=by simp [anyIn]
theorem anyIn_fnd {rs:List Rule} {x:List Int}:anyIn rs x=decide (0≤fnd rs x):=by
 cases h:anyIn rs x with
 | true=>
  rw [eq_comm,decide_eq_true_iff]
  rcases Int.lt_or_le (fnd rs x) 0 with h1 | h1
  ·obtain ⟨r,hr,e⟩:=anyIn_iff.1 h
   exact absurd e (fnd_neg.1 h1 r hr)
  ·exact h1
 | false=>
  rw [eq_comm,decide_eq_false_iff_not]
  intro h1
  have:¬fnd rs x<0:=by omega
  rw [fnd_neg] at this
  exact this fun r hr e=>by
   have:=anyIn_iff.2 ⟨r,hr,e⟩
   rw [h] at this;cases this
def lngN (rs:List Rule) (us:List Int):Nat→Nat
 | 0=>0
 | n+1=>if anyIn rs (us.take (n+1)) then n+1 else lngN rs us n
def openB (rs:List Rule) (us:List Int):Bool:=rs.any fun r=>decide (us.length<r.1.length∧r.1.take us.length=us)
def lng (rs:List Rule) (us:List Int):Int×(Int×Bool):=(fnd rs (us.take (lngN rs us us.length)),(lngN rs us us.length:Int),openB rs us)
theorem lngN_le {rs:List Rule} {us:List Int}:∀m,lngN rs us m≤m
 | 0=>Nat.le_refl _
 | m+1=>by
  unfold lngN
  split
  ·exact Nat.le_refl _
  ·have:=lngN_le (rs:=rs) (us:=us) m;omega
theorem lngN_has {rs:List Rule} {us:List Int}:∀m,0<lngN rs us m→anyIn rs (us.take (lngN rs us m))=true
 | 0,h=>by simp [lngN] at h
 | m+1,h=>by
  unfold lngN at h ⊢
  split at h
  ·rename_i e;rw [if_pos e];exact e
  ·rename_i e;rw [if_neg e];exact lngN_has m h
theorem lngN_max {rs:List Rule} {us:List Int} {n:Nat} (h0:0<n) (ha:anyIn rs (us.take n)=true):∀m,n≤m→n≤lngN rs us m
 | 0,h=>by omega
 | m+1,h=>by
  unfold lngN
  split
  ·exact h
  ·rename_i e
   rcases Nat.lt_or_ge n (m+1) with h1 | h1
   ·exact lngN_max h0 ha m (by omega)
   ·have:n=m+1:=by omega
    subst this
    exact absurd ha e
theorem lngN_eq {rs:List Rule} {us:List Int} {m n:Nat} (hn:n≤m) (h1:n=0∨anyIn rs (us.take n)=true) (h2:∀k,n<k→k≤m→anyIn rs (us.take k)=false):lngN rs us m=n:=by
 rcases Nat.lt_trichotomy (lngN rs us m) n with h | h | h
 ·rcases h1 with h1 | h1
  ·omega
  ·have:=lngN_max (rs:=rs) (us:=us) (n:=n) (by omega) h1 m hn;omega
 ·exact h
 ·have:=lngN_has (rs:=rs) (us:=us) m (by omega)
  rw [h2 _ h (lngN_le m)] at this;cases this
theorem fnd_nil {rs:List Rule} (hS:Sides rs):fnd rs [] = -1:=by
 have h:fnd rs []<0:=fnd_neg.2 fun r hr e=>by have:=sideB_len (hS.side r hr).1;rw [e] at this;simp at this
 unfold fnd at h ⊢
 rw [fI_neg] at h
 rw [h];rfl
theorem findN_append {α:Type} {p:α→Bool} {l:List α} {x:α}:findN p (l++[x])=match findN p l with | some k=>some k | none=>if p x then some l.length else none:=by
 induction l with
 | nil=>simp [findN]
 | cons y l ih=>
  rw [List.cons_append]
  simp only [findN]
  split
  ·rfl
  ·rw [ih]
   cases findN p l with
   | some k=>rfl
   | none=>
    simp only [Option.map_none]
    split
    ·rfl
    ·rfl
theorem fnd_snoc {l:List Rule} {r:Rule} {x:List Int}:fnd (l++[r]) x=if 0≤fnd l x then fnd l x else if r.1=x then (l.length:Int) else -1:=by
 unfold fnd
 rw [findN_append]
 cases findN (fun r:Rule=>decide (r.1=x)) l with
 | some k=>simp [fI]
 | none=>
  by_cases e:r.1=x <;> simp [e,fI]
theorem fnd_ge {rs:List Rule} {x:List Int} (h:¬fnd rs x<0):0≤fnd rs x:=by omega
theorem fnd_neg1 {rs:List Rule} {x:List Int} (h:fnd rs x<0):fnd rs x = -1:=by
 unfold fnd at h ⊢
 rw [fI_neg] at h
 rw [h];rfl
theorem fnd_get {rs:List Rule} {x:List Int} (h:0≤fnd rs x):∃k,∃hk:k<rs.length,fnd rs x=(k:Int)∧rs[k].1=x:=by
 unfold fnd at h ⊢
 cases e:findN (fun r:Rule=>decide (r.1=x)) rs with
 | none=>rw [e] at h;simp [fI] at h
 | some k=>
  obtain ⟨h1,h2,_⟩:=findN_some e
  exact ⟨k,h1,rfl,by simpa using h2⟩
structure TrieOk (N:List Node) (rs:List Rule):Prop where
 small:small N
 ex:∃p,Tr N p∧(∀j m,N[j]? = some m→m.2.2.2=fnd rs (p j))∧(∀j,j<N.length→p j=[]∨∃r∈rs,p j <+: r.1)∧
  ∀r∈rs,∀n,n≤r.1.length→∃j,j<N.length∧p j=r.1.take n
structure Part (N:List Node) (p:Nat→List Int) (rs:List Rule) (r:List Int) (i:Nat):Prop where
 tr:Tr N p
 mark:∀j m,N[j]? = some m→m.2.2.2=fnd rs (p j)
 cov:∀j,j<N.length→p j=[]∨(∃r∈rs,p j <+: r.1)∨p j <+: r.take i
 comp:∀r∈rs,∀n,n≤r.1.length→∃j,j<N.length∧p j=r.1.take n
 own:∀n,n≤i→∃j,j<N.length∧p j=r.take n
theorem take_prefix {l:List Int} {i j:Nat} (h:i≤j):l.take i <+: l.take j:=by
 rw [show l.take i=(l.take j).take i by rw [List.take_take];congr 1;omega]
 exact List.take_prefix _ _
theorem Part.same {N:List Node} {p:Nat→List Int} {rs:List Rule} {r:List Int} {i:Nat} (h:Part N p rs r i) (hi:i<r.length) {c:Nat} (hc:c<N.length) (hp:p c=r.take (i+1)):Part N p rs r (i+1) where
 tr:=h.tr
 mark:=h.mark
 cov j hj:=by
  rcases h.cov j hj with h1 | h1 | h1
  ·exact .inl h1
  ·exact .inr (.inl h1)
  ·exact .inr (.inr (h1.trans (take_prefix (by omega))))
 comp:=h.comp
 own n hn:=by
  rcases Nat.lt_or_ge n (i+1) with h1 | h1
  ·exact h.own n (by omega)
  ·have:n=i+1:=by omega
   subst this
   exact ⟨c,hc,hp⟩
theorem Part.add {N:List Node} {p:Nat→List Int} {rs:List Rule} {r:List Int} {i:Nat} (h:Part N p rs r i) (hi:i<r.length) {a:Nat} {n:Node} (hn:N[a]? = some n) (hp:p a=r.take i) (hnew:∀j,j<N.length→p j≠p a++[r[i]]) :
  Part (addN N a n r[i]) (addP N p a r[i]) rs r (i+1)∧addP N p a r[i] N.length=r.take (i+1):=by
 have ha:=(List.getElem?_eq_some_iff.1 hn).1
 have hpn:addP N p a r[i] N.length=r.take (i+1):=by
  show (if N.length=N.length then p a++[r[i]] else _)=_
  rw [if_pos rfl,hp,List.take_succ_eq_append_getElem hi]
 have hpo:∀j,j<N.length→addP N p a r[i] j=p j:=fun j hj=>if_neg (by omega)
 refine ⟨⟨h.tr.add hn hnew,fun j m hm=>?_,fun j hj=>?_,fun r' hr' n' hn'=>?_,fun n' hn'=>?_⟩,hpn⟩
 ·rw [addN_get hn] at hm
  split at hm
  ·rename_i e
   subst e
   injection hm with hm;subst hm
   rw [hpo j ha]
   exact h.mark j n hn
  ·split at hm
   ·rename_i e
    subst e
    injection hm with hm;subst hm
    rw [hpn]
    rw [eq_comm]
    apply fnd_neg1
    rw [fnd_neg]
    intro x hx e
    obtain ⟨j,hj,hpj⟩:=h.comp x hx x.1.length (Nat.le_refl _)
    rw [List.take_length,e] at hpj
    exact hnew j hj (by rw [hpj,hp,List.take_succ_eq_append_getElem hi])
   ·have hj:=(List.getElem?_eq_some_iff.1 hm).1
    rw [hpo j hj]
    exact h.mark j m hm
 ·rw [addN_len] at hj
  rcases Nat.lt_or_ge j N.length with h1 | h1
  ·rw [hpo j h1]
   rcases h.cov j h1 with h2 | h2 | h2
   ·exact .inl h2
   ·exact .inr (.inl h2)
   ·exact .inr (.inr (h2.trans (take_prefix (by omega))))
  ·have:j=N.length:=by omega
   subst this
   rw [hpn]
   exact .inr (.inr (List.prefix_refl _))
 ·obtain ⟨j,hj,e⟩:=h.comp r' hr' n' hn'
  exact ⟨j,by rw [addN_len];omega,by rw [hpo j hj];exact e⟩
 ·rcases Nat.lt_or_ge n' (i+1) with h1 | h1
  ·obtain ⟨j,hj,e⟩:=h.own n' (by omega)
   exact ⟨j,by rw [addN_len];omega,by rw [hpo j hj];exact e⟩
  ·have:n'=i+1:=by omega
   subst this
   exact ⟨N.length,by rw [addN_len];omega,hpn⟩
theorem Part.done {N:List Node} {p:Nat→List Int} {rs:List Rule} {r:Rule} (h:Part N p rs r.1 r.1.length) {a:Nat} {n:Node} (hn:N[a]? = some n) (hp:p a=r.1) (hnot:fnd rs r.1<0) (r':List Int) :
  Part (N.set a (n.1,n.2.1,n.2.2.1,(rs.length:Int))) p (rs++[r]) r' 0:=by
 have ha:=(List.getElem?_eq_some_iff.1 hn).1
 have hlen:(N.set a (n.1,n.2.1,n.2.2.1,(rs.length:Int))).length=N.length:=by simp
 refine ⟨h.tr.mark hn _,fun j m hm=>?_,fun j hj=>?_,fun x hx n' hn'=>?_,fun n' hn'=>?_⟩
 ·rw [List.getElem?_set] at hm
  split at hm
  ·rename_i e
   subst e
   injection hm with hm;subst hm
   rw [hp,fnd_snoc,if_neg (by omega),if_pos rfl]
  ·rename_i e
   have hj:=(List.getElem?_eq_some_iff.1 hm).1
   have hne:p j≠r.1:=fun e2=>e (h.tr.inj a j ha hj (by rw [hp,e2]))
   rw [h.mark j m hm,fnd_snoc]
   split
   ·rfl
   ·rw [if_neg (fun e2=>hne e2.symm)]
    exact fnd_neg1 (by omega)
 ·rw [hlen] at hj
  rcases h.cov j hj with h2 | ⟨x,hx,h2⟩ | h2
  ·exact .inl h2
  ·exact .inr (.inl ⟨x,List.mem_append_left _ hx,h2⟩)
  ·rw [List.take_length] at h2
   exact .inr (.inl ⟨r,by simp,h2⟩)
 ·rw [List.mem_append] at hx
  rcases hx with hx | hx
  ·obtain ⟨j,hj,e⟩:=h.comp x hx n' hn'
   exact ⟨j,by rw [hlen];exact hj,e⟩
  ·simp only [List.mem_singleton] at hx
   subst hx
   obtain ⟨j,hj,e⟩:=h.own n' hn'
   exact ⟨j,by rw [hlen];exact hj,e⟩
 ·have:n'=0:=by omega
  subst this
  exact ⟨0,by rw [hlen];exact h.tr.pos,by rw [h.tr.root];rfl⟩
theorem Part.next {N:List Node} {p:Nat→List Int} {rs:List Rule} {r r':List Int} (h:Part N p rs r 0):Part N p rs r' 0 where
 tr:=h.tr
 mark:=h.mark
 cov j hj:=by
  rcases h.cov j hj with h1 | h1 | h1
  ·exact .inl h1
  ·exact .inr (.inl h1)
  ·simp at h1;exact .inl h1
 comp:=h.comp
 own n hn:=by
  have:n=0:=by omega
  subst this
  exact ⟨0,h.tr.pos,by rw [h.tr.root];rfl⟩
def outsOf (rs:List Rule):List Rule:=rs.map fun r=>([],r.2)
theorem of_inner (hf:Fu fu) {rs:List Rule} {k:Nat} (hk:k<rs.length) (hR:Right rs) {N0:List Node} {p0:Nat→List Int} {R:List Rule} (h0:Part N0 p0 (rs.take k) rs[k].1 0) (hlen:N0.length≤1+8*k) :
  ∃N p,loopM (trie_Of_L0 fu) fu (rs,(k:Int),(0:Int),rs,(rs.length:Int),(k:Int),rs[k].1,(rs[k].1.length:Int),(0:Int),N0,R,rs[k].1,rs[k].2) =
   some (.inl (rs,rs,(rs.length:Int),((k+1:Nat):Int),N,R))∧Part N p (rs.take (k+1)) rs[k].1 0∧N.length≤1+8*(k+1):=by
 have hs:=(hR.side _ (List.getElem_mem hk)).1
 have hl:=sideB_len hs
 have h512:=hR.len
 obtain ⟨v,h1,N,p,rfl,h2,h3⟩:=loop_n (f:=trie_Of_L0 fu) (n:=rs[k].1.length)
  (I:=fun i x=>∃(a:Nat) (N:List Node) (p:Nat→List Int),x=(rs,(k:Int),(a:Int),rs,(rs.length:Int),(k:Int),rs[k].1,(rs[k].1.length:Int),(i:Int),N,R,rs[k].1,rs[k].2)
   ∧Part N p (rs.take k) rs[k].1 i∧a<N.length∧p a=rs[k].1.take i∧N.length≤1+8*k+i)
  (R:=fun v=>∃N p,v=.inl (rs,rs,(rs.length:Int),((k+1:Nat):Int),N,R)∧Part N p (rs.take (k+1)) rs[k].1 0∧N.length≤1+8*(k+1))
  (by
   rintro i x hi ⟨a,N,p,rfl,hP,ha,hpa,hN⟩
   left
   unfold trie_Of_L0
   try dsimp only
   obtain ⟨o,ho,hm⟩:=stepb_eq (fu:=fu) hf hP.tr (by unfold small;omega) (rules:=R) ha rs[k].1[i]
   simp only [dlt,decide_eq_true hi,cond_true,nthI_get hi,bind_some',ho,w64_succ hi (show rs[k].1.length<9223372036854775808 by omega)]
   cases o with
   | some c=>
    obtain ⟨hc0,hc,hpc⟩:=hm
    simp only [stepR,Bool.not_true,cond_false]
    have hpc':p c=rs[k].1.take (i+1):=by rw [hpc,hpa,List.take_succ_eq_append_getElem hi]
    exact ⟨_,rfl,c,N,p,rfl,hP.same hi hc hpc',hc,hpc',by omega⟩
   | none=>
    have hn:N[a]? = some N[a]:=List.getElem?_eq_getElem ha
    simp only [stepR,Bool.not_false,cond_true,nthI_nat,Int.toNat_natCast,hn,bind_some']
    rw [decide_eq_true (by simp;omega),cond_true]
    have hn2:∀t:Node,(N++[t])[a]? = some N[a]:=fun t=>by rw [List.getElem?_append_left ha];exact hn
    simp only [hn2,bind_some']
    obtain ⟨hA,hB⟩:=hP.add hi hn hpa hm
    exact ⟨_,rfl,N.length,addN N a N[a] rs[k].1[i],_,rfl,hA,by rw [addN_len];omega,hB,by rw [addN_len];omega⟩)
  (by
   rintro x ⟨a,N,p,rfl,hP,ha,hpa,hN⟩
   unfold trie_Of_L0
   try dsimp only
   have hn:N[a]? = some N[a]:=List.getElem?_eq_getElem ha
   simp only [dlt,decide_eq_false (Nat.lt_irrefl rs[k].1.length),cond_false,nthI_nat,Int.toNat_natCast,hn,bind_some',w64_succ hk (show rs.length<9223372036854775808 by omega),Option.map_some]
   have hD:=hP.done (r:=rs[k]) hn (by rw [hpa,List.take_length]) (fnd_take hR.diff hk) rs[k].1
   have hkl:(rs.take k).length=k:=by simp;omega
   rw [hkl,←List.take_succ_eq_append_getElem hk] at hD
   exact ⟨_,rfl,_,p,rfl,hD,by simp;omega⟩)
  fu 0 _ (by omega) (by unfold Fu at hf;omega) ⟨0,N0,p0,rfl,h0,h0.tr.pos,by rw [h0.tr.root];rfl,by omega⟩
 exact ⟨N,p,h1,h2,h3⟩
theorem trie_eq (hf:Fu fu) {rs:List Rule} (hR:Right rs):∃N,trie_Of fu rs=some (.inr (N,outsOf rs,(0:Int)))∧TrieOk N rs:=by
 unfold trie_Of
 try dsimp only
 rw [check_eq hf hR,bind_some']
 have h512:=hR.len
 simp only [bne_self_eq_false,cond_false]
 obtain ⟨v,h1,N,rfl,h2⟩:=loop_n (f:=trie_Of_L1 fu) (n:=rs.length)
  (I:=fun k x=>∃(N:List Node) (p:Nat→List Int),x=(rs,rs,(rs.length:Int),(k:Int),N,outsOf (rs.take k))∧Part N p (rs.take k) [] 0∧N.length≤1+8*k)
  (R:=fun v=>∃N,v=.inr (N,outsOf rs,(0:Int))∧TrieOk N rs)
  (by
   rintro k x hk ⟨N,p,rfl,hP,hN⟩
   left
   unfold trie_Of_L1
   try dsimp only
   have hs:=hR.side _ (List.getElem_mem hk)
   have hl:=sideB_len hs.2
   obtain ⟨N',p',h1,h2,h3⟩:=of_inner hf hk hR (R:=outsOf (rs.take k)++[([],rs[k].2)]) hP.next hN
   simp only [dlt,decide_eq_true hk,cond_true,nthI_get hk,bind_some']
   rw [decide_eq_true (by omega),cond_true,decide_eq_true (by simp [outsOf];omega),cond_true]
   have ho:outsOf (rs.take (k+1))=outsOf (rs.take k)++[([],rs[k].2)]:=by unfold outsOf;rw [List.take_succ_eq_append_getElem hk,List.map_append];rfl
   refine ⟨_,h1,N',p',?_,h2.next,h3⟩
   rw [ho])
  (by
   rintro x ⟨N,p,rfl,hP,hN⟩
   unfold trie_Of_L1
   try dsimp only
   simp only [dlt,decide_eq_false (Nat.lt_irrefl rs.length),cond_false,List.take_length] at hP ⊢
   refine ⟨_,rfl,N,rfl,⟨by unfold small;omega,p,hP.tr,hP.mark,fun j hj=>?_,hP.comp⟩⟩
   rcases hP.cov j hj with h1 | h1 | h1
   ·exact .inl h1
   ·exact .inr h1
   ·simp at h1;exact .inl h1)
  fu 0 (rs,rs,(rs.length:Int),(0:Int),[((0:Int),(0:Int),(0:Int),(-(1:Int)))],([]:List Rule)) (by omega) (by unfold Fu at hf;omega)
  ⟨[((0:Int),(0:Int),(0:Int),(-(1:Int)))],fun _=>[],rfl,⟨⟨by simp,rfl,fun i j hi hj _=>by simp at hi hj;omega,fun i n hn=>by
   have hi:=(List.getElem?_eq_some_iff.1 hn).1
   simp at hi
   subst hi
   simp at hn
   subst hn
   refine ⟨[],.nil,fun j=>⟨fun h=>(by cases h),?_⟩⟩
   rintro ⟨_,m,_,h⟩
   simp at h,fun j m hm hj=>by
   have hi:=(List.getElem?_eq_some_iff.1 hm).1
   simp at hi;omega⟩,fun j m hm=>by
   have hi:=(List.getElem?_eq_some_iff.1 hm).1
   simp at hi
   subst hi
   simp at hm
   subst hm
   rfl,fun j _=>.inl rfl,by simp,fun n hn=>⟨0,by simp,by simp⟩⟩,by simp⟩
 exact ⟨N,h1,h2⟩
end Go.AM.M
namespace Go.AM.M
open Go.AM
variable {fu:Nat}
theorem Chain.zero {N:List Node} {k:Int} {cs:List Nat} (h:Chain N k cs):k=0↔cs=[]:=by
 cases h with
 | nil=>simp
 | cons c n cs h0=>simp;omega
theorem lngN_stop {rs:List Rule} {us:List Int} {i:Nat} (h:∀r∈rs,¬us.take (i+1) <+: r.1):∀m,i≤m→m≤us.length→lngN rs us m=lngN rs us i:=by
 intro m
 induction m with
 | zero=>intro h1 _;have:i=0:=by omega
         rw [this]
 | succ m ih=>
  intro h1 h2
  rcases Nat.lt_or_ge i (m+1) with h3 | h3
  ·have hno:anyIn rs (us.take (m+1))=false:=by
    rw [Bool.eq_false_iff]
    intro hc
    obtain ⟨r,hr,e⟩:=anyIn_iff.1 hc
    exact h r hr (by rw [e];exact take_prefix (by omega))
   rw [lngN,hno]
   exact ih (by omega) (by omega)
  ·have:i=m+1:=by omega
   rw [this]
theorem openB_false {rs:List Rule} {us:List Int} {i:Nat} (hi:i<us.length) (h:∀r∈rs,¬us.take (i+1) <+: r.1):openB rs us=false:=by
 rw [Bool.eq_false_iff]
 intro hc
 unfold openB at hc
 rw [List.any_eq_true] at hc
 obtain ⟨r,hr,e⟩:=hc
 simp only [decide_eq_true_eq] at e
 exact h r hr (by rw [←e.2,List.take_take];exact List.take_prefix _ _)
theorem prefix_take {l m:List Int} (h:l <+: m):m.take l.length=l:=by
 obtain ⟨t,rfl⟩:=h;simp
theorem longest_trie (hf:Fu fu) {N:List Node} {rs:List Rule} (hS:Sides rs) (hT:TrieOk N rs) {R:List Rule} {us:List Int} (hu:small us):trie_Trie_Longest fu (N,R,us)=some (lng rs us):=by
 obtain ⟨hN,p,tr,mark,cov,comp⟩:=hT
 have ruleEq:∀{a:Nat},a<N.length→trie_Trie_Rule fu (N,R,(a:Int))=some (fnd rs (p a)):=fun {a} ha=>by
  unfold trie_Trie_Rule
  try dsimp only
  have e1:decide ((a:Int)<0)=false:=by rw [decide_eq_false_iff_not];omega
  have e2:decide ((a:Int)≥(N.length:Int))=false:=by rw [decide_eq_false_iff_not];omega
  have hn:N[a]? = some N[a]:=List.getElem?_eq_getElem ha
  simp only [e1,e2,cond_false,nthI_nat,hn,bind_some',mark a _ hn]
 unfold trie_Trie_Longest
 try dsimp only
 obtain ⟨v,h1,h2⟩:=loop_n (f:=trie_Trie_Longest_L0 fu) (n:=us.length)
  (I:=fun i x=>∃a:Nat,x=(N,R,us,fnd rs (us.take (lngN rs us i)),((lngN rs us i:Nat):Int),(a:Int),us,(us.length:Int),(i:Int))∧a<N.length∧p a=us.take i)
  (R:=fun v=>v=lng rs us)
  (by
   rintro i x hi ⟨a,rfl,ha,hpa⟩
   unfold trie_Trie_Longest_L0
   try dsimp only
   obtain ⟨o,ho,hm⟩:=step_eq (fu:=fu) hf tr hN (rules:=R) ha us[i]
   simp only [dlt,decide_eq_true hi,cond_true,nthI_get hi,bind_some',ho,w64_succ hi hu]
   cases o with
   | some c=>
    obtain ⟨hc0,hc,hpc⟩:=hm
    have hpc':p c=us.take (i+1):=by rw [hpc,hpa,List.take_succ_eq_append_getElem hi]
    left
    simp only [stepR,Bool.not_true,cond_false,ruleEq hc,bind_some',hpc']
    have hgd:decide (fnd rs (us.take (i+1))≥0)=anyIn rs (us.take (i+1)):=by rw [anyIn_fnd]
    rw [hgd]
    cases e:anyIn rs (us.take (i+1)) with
    | true=>
     have hl:lngN rs us (i+1)=i+1:=by rw [lngN,e];rfl
     rw [hl]
     exact ⟨_,rfl,c,rfl,hc,hpc'⟩
    | false=>
     have hl:lngN rs us (i+1)=lngN rs us i:=by rw [lngN,e];rfl
     rw [hl]
     exact ⟨_,rfl,c,rfl,hc,hpc'⟩
   | none=>
    right
    simp only [stepR,Bool.not_false,cond_true]
    refine ⟨_,rfl,?_⟩
    have hno:∀r∈rs,¬us.take (i+1) <+: r.1:=fun r hr hp=>by
     have hlen:(us.take (i+1)).length=i+1:=by simp;omega
     have hle:i+1≤r.1.length:=by have:=hp.length_le;omega
     obtain ⟨j,hj,e⟩:=comp r hr (i+1) hle
     have:=prefix_take hp
     rw [hlen] at this
     exact hm j hj (by rw [e,this,hpa,List.take_succ_eq_append_getElem hi])
    unfold lng
    rw [lngN_stop hno us.length (by omega) (Nat.le_refl _),openB_false hi hno])
  (by
   rintro x ⟨a,rfl,ha,hpa⟩
   unfold trie_Trie_Longest_L0 trie_Trie_Leaf
   try dsimp only
   rw [List.take_length] at hpa
   have e1:decide ((a:Int)<0)=false:=by rw [decide_eq_false_iff_not];omega
   have e2:decide ((a:Int)≥(N.length:Int))=false:=by rw [decide_eq_false_iff_not];omega
   have hn:N[a]? = some N[a]:=List.getElem?_eq_getElem ha
   simp only [dlt,decide_eq_false (Nat.lt_irrefl us.length),cond_false,e1,e2,nthI_nat,hn,bind_some',Option.map_some]
   refine ⟨_,rfl,?_⟩
   unfold lng
   obtain ⟨cs,hc,hch⟩:=tr.chain a _ hn
   have hop:(!(N[a].2.1 == 0))=openB rs us:=by
    cases hb:openB rs us with
    | true=>
     unfold openB at hb
     rw [List.any_eq_true] at hb
     obtain ⟨r,hr,e⟩:=hb
     simp only [decide_eq_true_eq] at e
     obtain ⟨el,et⟩:=e
     obtain ⟨j,hj,hpj⟩:=comp r hr (us.length+1) (by omega)
     have hpj':p j=us++[r.1[us.length]]:=by rw [hpj,List.take_succ_eq_append_getElem el,et]
     have hj0:0<j:=by
      rcases Nat.eq_zero_or_pos j with rfl | h0
      ·rw [tr.root] at hpj';simp at hpj'
      ·exact h0
     have hjn:N[j]? = some N[j]:=List.getElem?_eq_getElem hj
     obtain ⟨i,hi,hpi⟩:=tr.up j _ hjn hj0
     have hu1:N[j].1=r.1[us.length]:=by
      have:=congrArg List.getLast? (hpi.symm.trans hpj')
      simpa using this
     have hmem:=(hch j).2 ⟨hj0,_,hjn,by rw [hpj',hpa,hu1]⟩
     have:N[a].2.1≠0:=fun h0=>by rw [hc.zero.1 h0] at hmem;cases hmem
     simpa using this
    | false=>
     have:cs=[]:=by
      rcases cs with _ | ⟨c,cs⟩
      ·rfl
      ·exfalso
       obtain ⟨h0,m,hm1,hm2⟩:=(hch c).1 (by simp)
       have hcl:=(List.getElem?_eq_some_iff.1 hm1).1
       rcases cov c hcl with h3 | ⟨r,hr,h3⟩
       ·rw [h3,hpa] at hm2;simp at hm2
       ·rw [hm2,hpa] at h3
        have:openB rs us=true:=by
         unfold openB
         rw [List.any_eq_true]
         refine ⟨r,hr,?_⟩
         simp only [decide_eq_true_eq]
         have hl:=h3.length_le
         simp at hl
         refine ⟨by omega,?_⟩
         exact prefix_take (List.IsPrefix.trans (List.prefix_append us [m.1]) h3)
        rw [hb] at this;cases this
     have:=hc.zero.2 this
     simpa using this
   rw [hop])
  fu 0 (N,R,us,(-(1:Int)),(0:Int),(0:Int),us,(us.length:Int),(0:Int)) (by omega) (by unfold Fu at hf;unfold small at hu;omega)
  ⟨0,by simp [lngN,fnd_nil hS],tr.pos,by rw [tr.root];rfl⟩
 rw [h1,h2]
end Go.AM.M
namespace Go.AM.M
open Go.AM
variable {fu:Nat}
def outI (rs:List Rule) (k:Int):List Int:=
 match rs[k.toNat]? with
 | some r=>r.2
 | none=>[]
def nn (rs:List Rule) (us:List Int):Nat:=lngN rs us us.length
def adv (rs:List Rule) (us:List Int):Nat:=max 1 (nn rs us)
def tok (rs:List Rule) (at':Int) (us:List Int):Tok:=if nn rs us=0 then (at',(1:Int),([]:List Int),(3:Int)) else (at',(nn rs us:Int),outI rs (fnd rs (us.take (nn rs us))),(0:Int))
def toks (rs:List Rule):Nat→Int→List Int→List Tok
 | 0,_,_=>[]
 | f+1,a,us=>if us=[] then [] else tok rs a us :: toks rs f (a+(adv rs us:Int)) (us.drop (adv rs us))
def toksA (rs:List Rule) (a:Int) (us:List Int):List Tok:=toks rs us.length a us
theorem adv_pos (rs:List Rule) (us:List Int):1≤adv rs us:=by unfold adv;omega
theorem nn_le (rs:List Rule) (us:List Int):nn rs us≤us.length:=lngN_le _
theorem adv_le {rs:List Rule} {us:List Int} (h:us≠[]):adv rs us≤us.length:=by
 have:=nn_le rs us
 have h1:0<us.length:=List.length_pos_iff.2 h
 unfold adv;omega
theorem toks_fuel {rs:List Rule}:∀(f:Nat) (a:Int) (us:List Int),us.length≤f→toks rs f a us=toksA rs a us:=by
 intro f
 induction f using Nat.strongRecOn with
 | ind f ih=>
  intro a us h
  unfold toksA
  cases us with
  | nil=>cases f <;> simp [toks]
  | cons u us=>
   cases f with
   | zero=>simp at h
   | succ f=>
    simp only [List.length_cons,toks]
    rw [if_neg (by simp),if_neg (by simp)]
    have h1:=adv_pos rs (u :: us)
    have hd:((u :: us).drop (adv rs (u :: us))).length≤us.length:=by simp;omega
    simp only [List.length_cons] at h
    rw [ih f (by omega) _ _ (by omega)]
    congr 1
    rcases Nat.lt_or_ge us.length (f+1) with h2 | h2
    ·rw [ih us.length (by omega) _ _ hd]
    ·omega
theorem toksA_nil (rs:List Rule) (a:Int):toksA rs a []=[]:=rfl
theorem toksA_cons {rs:List Rule} {a:Int} {us:List Int} (h:us≠[]):toksA rs a us=tok rs a us :: toksA rs (a+(adv rs us:Int)) (us.drop (adv rs us)):=by
 cases us with
 | nil=>exact absurd rfl h
 | cons u us=>
  conv=>lhs;unfold toksA
  simp only [List.length_cons,toks]
  rw [if_neg (by simp)]
  have h1:=adv_pos rs (u :: us)
  rw [toks_fuel _ _ _ (by simp;omega)]
theorem toks_ind {rs:List Rule} {P:List Int→Prop} (h0:P []) (h1:∀us,us≠[]→P (us.drop (adv rs us))→P us) (us:List Int):P us:=by
 generalize hn:us.length=n
 induction n using Nat.strongRecOn generalizing us with
 | ind n ih=>
  rcases us with _ | ⟨u,us⟩
  ·exact h0
  ·refine h1 _ (by simp) (ih _ ?_ _ rfl)
   have:=adv_pos rs (u :: us)
   simp at hn ⊢;omega
theorem fnd_nn {rs:List Rule} (hS:Sides rs) (us:List Int):fnd rs (us.take (nn rs us))<0↔nn rs us=0:=by
 constructor
 ·intro h
  rcases Nat.eq_zero_or_pos (nn rs us) with e | e
  ·exact e
  ·have:=lngN_has (rs:=rs) (us:=us) us.length e
   rw [anyIn_fnd,decide_eq_true_eq] at this
   unfold nn at h
   omega
 ·intro h
  rw [h]
  rw [List.take_zero,fnd_nil hS];omega
theorem lng_nn (rs:List Rule) (us:List Int):lng rs us=(fnd rs (us.take (nn rs us)),(nn rs us:Int),openB rs us):=rfl
def takeF (rs:List Rule) (e:Bool):Nat→Int→List Int→List Tok×(List Int×Int)
 | 0,a,w=>([],w,a)
 | f+1,a,w=>if w=[] then ([],[],a) else if openB rs w && !e then ([],w,a) else
    (tok rs a w :: (takeF rs e f (a+(adv rs w:Int)) (w.drop (adv rs w))).1,(takeF rs e f (a+(adv rs w:Int)) (w.drop (adv rs w))).2)
theorem out_eq {rs:List Rule} (hS:Sides rs) {N:List Node} {k:Nat} (hk:k<rs.length):trie_Trie_Out fu (N,outsOf rs,(k:Int))=some rs[k].2:=by
 unfold trie_Trie_Out
 try dsimp only
 have e1:decide ((k:Int)<0)=false:=by rw [decide_eq_false_iff_not];omega
 have hl:(outsOf rs).length=rs.length:=by simp [outsOf]
 have e2:decide ((k:Int)≥((outsOf rs).length:Int))=false:=by rw [decide_eq_false_iff_not,hl];omega
 have hg:(outsOf rs)[k]? = some ([],rs[k].2):=by simp [outsOf,hk]
 have hs:=sideB_len (hS.side _ (List.getElem_mem hk)).2
 simp only [e1,e2,cond_false,nthI_nat,hg,bind_some']
 rw [decide_eq_true (by omega),cond_true]
theorem max_adv (rs:List Rule) (w:List Int):(if (nn rs w:Int)>1 then (nn rs w:Int) else 1)=(adv rs w:Int):=by
 unfold adv
 split <;> omega
theorem take_loop (hf:Fu fu) {rs:List Rule} (hS:Sides rs) {N:List Node} (hT:TrieOk N rs) (e:Bool):∀(n:Nat) (w:List Int) (g:Nat) (out:List Tok) (a st:Int),w.length≤n→n<g→n+out.length≤1000000→0≤a→a+w.length≤1000000000000→
  ∃st',loopM (match_Match_take_L0 fu) g (e,out,N,outsOf rs,w,a,st)=some (out++(takeF rs e n a w).1,(N,outsOf rs,(takeF rs e n a w).2.1,(takeF rs e n a w).2.2,st')):=by
 intro n
 induction n with
 | zero=>
  intro w g out a st hw hg ho ha ha2
  have:w=[]:=List.eq_nil_of_length_eq_zero (by omega)
  subst this
  cases g with
  | zero=>omega
  | succ g=>
   refine ⟨st,?_⟩
   have hs:match_Match_take_L0 fu (e,out,N,outsOf rs,[],a,st)=some (.inr (out,N,outsOf rs,[],a,st)):=rfl
   simp only [loopM,hs,takeF,List.append_nil]
 | succ n ih=>
  intro w g out a st hw hg ho ha ha2
  cases g with
  | zero=>omega
  | succ g=>
   by_cases hne:w=[]
   ·subst hne
    refine ⟨st,?_⟩
    have hs:match_Match_take_L0 fu (e,out,N,outsOf rs,[],a,st)=some (.inr (out,N,outsOf rs,[],a,st)):=rfl
    simp only [loopM,hs,takeF,if_true,List.append_nil]
   ·have hpos:0<w.length:=List.length_pos_iff.2 hne
    have hd:decide ((w.length:Int)>0)=true:=by rw [decide_eq_true_iff];omega
    have hsm:small w:=by unfold small;omega
    have hal:=adv_le (rs:=rs) hne
    have hap:=adv_pos rs w
    by_cases hop:(openB rs w && !e)=true
    ·rw [Bool.and_eq_true,Bool.not_eq_true'] at hop
     obtain ⟨ho1,rfl⟩:=hop
     refine ⟨w64 (st+(w.length:Int)),?_⟩
     have hs:match_Match_take_L0 fu (false,out,N,outsOf rs,w,a,st)=some (.inr (out,N,outsOf rs,w,a,w64 (st+(w.length:Int)))):=by
      unfold match_Match_take_L0
      try dsimp only
      simp only [hd,cond_true,longest_trie hf hS hT hsm,bind_some',lng_nn,ho1,Bool.not_false]
     simp only [loopM,hs,takeF,if_neg hne,ho1,Bool.not_false,Bool.and_true,if_true,List.append_nil]
    ·have hstep:match_Match_take_L0 fu (e,out,N,outsOf rs,w,a,st)=some (.inl (e,(out++[tok rs a w],(N,outsOf rs,w.drop (adv rs w),(a+(adv rs w:Int),w64 (st+(w.length:Int))))))):=by
      unfold match_Match_take_L0
      try dsimp only
      simp only [hd,cond_true,longest_trie hf hS hT hsm,bind_some',lng_nn,max_adv]
      have hA:(bif decide (fnd rs (w.take (nn rs w))<0) then
        (bif (decide ((((List.length out)+(List.length [(a,(adv rs w:Int),([]:List Int),(3:Int))]))*(48:Nat))≤((2:Nat) ^ (46:Nat)))) then
         ((sliceI w (adv rs w:Int) (↑((List.length w)):Int))).bind fun y1=>
         bif (decide (((List.length y1)*(8:Nat))≤((2:Nat) ^ (46:Nat)))) then
          some (Sum.inl (e,(out++[(a,(adv rs w:Int),([]:List Int),(3:Int))]),N,outsOf rs,y1,(w64 (a+(adv rs w:Int))),(w64 (st+(↑((List.length w)):Int)))))
         else none
        else none)
       else
        ((trie_Trie_Out fu (N,outsOf rs,fnd rs (w.take (nn rs w)))).bind fun y2=>
        bif (decide ((((List.length out)+(List.length [(a,(adv rs w:Int),y2,(0:Int))]))*(48:Nat))≤((2:Nat) ^ (46:Nat)))) then
         ((sliceI w (adv rs w:Int) (↑((List.length w)):Int))).bind fun y3=>
         bif (decide (((List.length y3)*(8:Nat))≤((2:Nat) ^ (46:Nat)))) then
          some (Sum.inl (e,(out++[(a,(adv rs w:Int),y2,(0:Int))]),N,outsOf rs,y3,(w64 (a+(adv rs w:Int))),(w64 (st+(↑((List.length w)):Int)))))
         else none
        else none))=(some (.inl (e,(out++[tok rs a w],(N,(outsOf rs,(w.drop (adv rs w),(a+(adv rs w:Int),w64 (st+(w.length:Int))))))))):Option ((Bool×(List Tok×(List Node×(List Rule×(List Int×(Int×Int))))))⊕(List Tok×(List Node×(List Rule×(List Int×(Int×Int))))))):=by
       unfold tok
       by_cases h0:nn rs w=0
       ·have hneg:=(fnd_nn hS w).2 h0
        have haa:adv rs w=1:=by unfold adv;omega
        rw [decide_eq_true hneg,cond_true,decide_eq_true (by simp;omega),cond_true,sliceI_from hal,bind_some',decide_eq_true (by simp;omega),cond_true,if_pos h0,w64_id (by omega) (by omega),haa]
        rfl
       ·have hnneg:¬fnd rs (w.take (nn rs w))<0:=fun h=>h0 ((fnd_nn hS _).1 h)
        obtain ⟨j,hj,e1,e2⟩:=fnd_get (fnd_ge hnneg)
        have haa:adv rs w=nn rs w:=by unfold adv;omega
        rw [decide_eq_false hnneg,cond_false,e1,out_eq hS hj,bind_some',decide_eq_true (by simp;omega),cond_true,sliceI_from hal,bind_some',decide_eq_true (by simp;omega),cond_true,if_neg h0,w64_id (by omega) (by omega),haa]
        simp [outI,hj]
      cases hob:openB rs w with
      | true=>
       rw [hob,Bool.true_and] at hop
       have he:e=true:=by cases e <;> simp_all
       subst he
       simp only [Bool.not_true,cond_true,cond_false]
       exact hA
      | false=>
       simp only [cond_false]
       exact hA
     have hop':(openB rs w && !e)=false:=by simpa using hop
     obtain ⟨st',h⟩:=ih (w.drop (adv rs w)) g (out++[tok rs a w]) (a+(adv rs w:Int)) (w64 (st+(w.length:Int))) (by simp;omega) (by omega) (by simp;omega) (by omega) (by rw [List.length_drop];omega)
     refine ⟨st',?_⟩
     simp only [loopM,hstep,h,takeF,if_neg hne,hop',Bool.false_eq_true,if_false]
     simp
end Go.AM.M
namespace Go.AM.M
open Go.AM
variable {fu:Nat}
theorem lngN_more {rs:List Rule} {w rest:List Int} (h:openB rs w=false):nn rs (w++rest)=nn rs w:=by
 unfold nn
 refine lngN_eq (Nat.le_trans (nn_le rs w) (by simp)) ?_ fun k hk hk2=>?_
 ·rcases Nat.eq_zero_or_pos (lngN rs w w.length) with e | e
  ·exact .inl e
  ·right
   rw [List.take_append_of_le_length (lngN_le _)]
   exact lngN_has _ e
 ·rw [Bool.eq_false_iff]
  intro hc
  rcases Nat.lt_or_ge w.length k with h1 | h1
  ·obtain ⟨r,hr,e⟩:=anyIn_iff.1 hc
   have:openB rs w=true:=by
    unfold openB
    rw [List.any_eq_true]
    refine ⟨r,hr,?_⟩
    simp only [decide_eq_true_eq]
    rw [e]
    refine ⟨by simp;simp at hk2;omega,?_⟩
    rw [List.take_take,show min w.length k=w.length by omega]
    simp
   rw [h] at this;cases this
  ·rw [List.take_append_of_le_length h1] at hc
   have:=lngN_max (rs:=rs) (us:=w) (n:=k) (by omega) hc w.length h1
   omega
theorem adv_more {rs:List Rule} {w rest:List Int} (h:openB rs w=false):adv rs (w++rest)=adv rs w:=by unfold adv;rw [lngN_more h]
theorem tok_more {rs:List Rule} {a:Int} {w rest:List Int} (h:openB rs w=false):tok rs a (w++rest)=tok rs a w:=by
 unfold tok
 rw [lngN_more h,List.take_append_of_le_length (nn_le rs w)]
theorem takeF_end {rs:List Rule}:∀(n:Nat) (a:Int) (w:List Int),w.length≤n→takeF rs true n a w=(toksA rs a w,([],a+(w.length:Int))):=by
 intro n
 induction n with
 | zero=>
  intro a w h
  have:w=[]:=List.eq_nil_of_length_eq_zero (by omega)
  subst this
  simp [takeF,toksA_nil]
 | succ n ih=>
  intro a w h
  by_cases hne:w=[]
  ·subst hne;simp [takeF,toksA_nil]
  ·have h1:=adv_pos rs w
   have h2:=adv_le (rs:=rs) hne
   simp only [takeF,if_neg hne,Bool.not_true,Bool.and_false,Bool.false_eq_true,if_false]
   rw [ih _ _ (by simp;omega),toksA_cons hne]
   simp only [List.length_drop]
   congr 2
   omega
structure Put (rs:List Rule) (a:Int) (w:List Int) (r:List Tok×(List Int×Int)):Prop where
 all:∀rest,toksA rs a (w++rest)=r.1++toksA rs r.2.2 (r.2.1++rest)
 op:r.2.1=[]∨openB rs r.2.1=true
 at':r.2.2+(r.2.1.length:Int)=a+(w.length:Int)
 len:r.1.length+r.2.1.length≤w.length
 suf:r.2.1 <:+ w
theorem takeF_put {rs:List Rule}:∀(n:Nat) (a:Int) (w:List Int),w.length≤n→Put rs a w (takeF rs false n a w):=by
 intro n
 induction n with
 | zero=>
  intro a w h
  have:w=[]:=List.eq_nil_of_length_eq_zero (by omega)
  subst this
  exact ⟨fun rest=>rfl,.inl rfl,rfl,by simp [takeF],List.suffix_refl _⟩
 | succ n ih=>
  intro a w h
  by_cases hne:w=[]
  ·subst hne
   simp only [takeF,if_true]
   exact ⟨fun rest=>rfl,.inl rfl,rfl,by simp,List.suffix_refl _⟩
  ·have h1:=adv_pos rs w
   have h2:=adv_le (rs:=rs) hne
   cases hop:openB rs w with
   | true=>
    simp only [takeF,if_neg hne,hop,Bool.not_false,Bool.and_true,if_true]
    exact ⟨fun rest=>rfl,.inr hop,rfl,by simp,List.suffix_refl _⟩
   | false=>
    simp only [takeF,if_neg hne,hop,Bool.false_and,Bool.false_eq_true,if_false]
    obtain ⟨k1,k2,k3,k4,k5⟩:=ih (a+(adv rs w:Int)) (w.drop (adv rs w)) (by simp;omega)
    refine ⟨fun rest=>?_,k2,?_,?_,k5.trans (List.drop_suffix _ _)⟩
    ·rw [toksA_cons (by simp [hne]),tok_more hop,adv_more hop,List.drop_append_of_le_length h2,k1 rest]
     rfl
    ·rw [k3];simp only [List.length_drop];omega
    ·simp only [List.length_drop] at k4
     simp only [List.length_cons];omega
theorem match_put_eq (hf:Fu fu) {rs:List Rule} (hS:Sides rs) {N:List Node} (hT:TrieOk N rs) {u a st:Int} {w:List Int} (hw:w.length≤100000) (ha:0≤a) (ha2:a≤100000000000) :
  ∃r st',match_Match_Put fu (u,N,outsOf rs,w,a,st)=some (r.1,N,outsOf rs,r.2.1,r.2.2,st')∧r=takeF rs false (w.length+1) a (w++[u]):=by
 unfold match_Match_Put match_Match_take
 try dsimp only
 obtain ⟨st',h⟩:=take_loop hf hS hT false (w.length+1) (w++[u]) fu [] a st (by simp) (by unfold Fu at hf;omega) (by simp;omega) ha (by simp;omega)
 refine ⟨_,st',?_,rfl⟩
 rw [decide_eq_true (by simp;omega),cond_true]
 simp only [h,bind_some',List.nil_append]
theorem match_end_eq (hf:Fu fu) {rs:List Rule} (hS:Sides rs) {N:List Node} (hT:TrieOk N rs) {a st:Int} {w:List Int} (hw:w.length≤100000) (ha:0≤a) (ha2:a≤100000000000) :
  ∃st',match_Match_End fu (N,outsOf rs,w,a,st)=some (toksA rs a w,N,outsOf rs,([]:List Int),(a+(w.length:Int),st')):=by
 unfold match_Match_End match_Match_take
 try dsimp only
 obtain ⟨st',h⟩:=take_loop hf hS hT true w.length w fu [] a st (by simp) (by unfold Fu at hf;omega) (by simp;omega) ha (by omega)
 refine ⟨st',?_⟩
 simp only [h,bind_some',List.nil_append,takeF_end _ _ _ (Nat.le_refl _)]
theorem toksA_len {rs:List Rule}:∀(us:List Int) (a:Int),(toksA rs a us).length≤us.length:=by
 intro us
 induction us using toks_ind (rs:=rs) with
 | h0=>intro a;simp [toksA_nil]
 | h1 us hne ih=>
  intro a
  rw [toksA_cons hne]
  have h1:=adv_pos rs us
  have h2:=adv_le (rs:=rs) hne
  have:=ih (a+(adv rs us:Int))
  simp only [List.length_drop] at this
  simp only [List.length_cons];omega
def joinB (rs:List Rule) (ahead us:List Int):Bool:=decide (ahead≠[]∧ahead.length<nn rs (ahead++us))
def joinT (rs:List Rule) (ahead:List Int) (x:Tok):Tok:=if x.2.2.2=0∧joinB rs ahead x.2.2.1=true then (x.1,x.2.1,([]:List Int),(3:Int)) else x
def aheadT (rs:List Rule) (ahead:List Int) (x:Tok):List Int:=if (joinT rs ahead x).2.2.2=0 then x.2.2.1 else ahead
def joinF (rs:List Rule):List Int→List Tok→List Tok×List Int
 | ahead,[]=>([],ahead)
 | ahead,x :: xs=>(joinT rs ahead x :: (joinF rs (aheadT rs ahead x) xs).1,(joinF rs (aheadT rs ahead x) xs).2)
theorem joinF_append (rs:List Rule):∀(xs ys:List Tok) (ahead:List Int),joinF rs ahead (xs++ys)=((joinF rs ahead xs).1++(joinF rs (joinF rs ahead xs).2 ys).1,(joinF rs (joinF rs ahead xs).2 ys).2)
 | [],ys,ahead=>rfl
 | x :: xs,ys,ahead=>by simp only [List.cons_append,joinF,joinF_append rs xs ys]
theorem joinF_len (rs:List Rule):∀(xs:List Tok) (ahead:List Int),(joinF rs ahead xs).1.length=xs.length
 | [],_=>rfl
 | x :: xs,ahead=>by simp only [joinF,List.length_cons,joinF_len rs xs]
def fewO (xs:List Tok):Prop:=∀x∈xs,x.2.2.1.length≤8
theorem tok_few {rs:List Rule} (hS:Sides rs) (a:Int) (us:List Int):(tok rs a us).2.2.1.length≤8:=by
 unfold tok
 split
 ·simp
 ·unfold outI
  try simp only
  split
  ·rename_i r hr
   have:=sideB_len (hS.side _ (List.mem_of_getElem? hr)).2
   omega
  ·simp
theorem toksA_few {rs:List Rule} (hS:Sides rs):∀(us:List Int) (a:Int),fewO (toksA rs a us):=by
 intro us
 induction us using toks_ind (rs:=rs) with
 | h0=>intro a x hx;cases hx
 | h1 us hne ih=>
  intro a x hx
  rw [toksA_cons hne] at hx
  rcases List.mem_cons.1 hx with rfl | hx
  ·exact tok_few hS a us
  ·exact ih _ x hx
theorem takeF_few {rs:List Rule} (hS:Sides rs) (e:Bool):∀(n:Nat) (a:Int) (w:List Int),fewO (takeF rs e n a w).1:=by
 intro n
 induction n with
 | zero=>intro a w x hx;simp [takeF] at hx
 | succ n ih=>
  intro a w x hx
  simp only [takeF] at hx
  split at hx
  ·cases hx
  ·split at hx
   ·cases hx
   ·rcases List.mem_cons.1 hx with rfl | hx
    ·exact tok_few hS a w
    ·exact ih _ _ x hx
theorem joins_eq (hf:Fu fu) {rs:List Rule} (hS:Sides rs) {N1 N2:List Node} {R1 R2:List Rule} (hT:TrieOk N1 rs) {i o:Int} {ahead us:List Int} (h1:ahead.length≤1000) (h2:us.length≤1000) :
  table_Table_Joins fu (i,o,N1,R1,N2,R2,ahead,us)=some (joinB rs ahead us):=by
 unfold table_Table_Joins joinB
 try dsimp only
 by_cases h0:ahead=[]
 ·subst h0
  simp
 ·have hpos:0<ahead.length:=List.length_pos_iff.2 h0
  have e:((ahead.length:Int) == 0)=false:=by rw [beq_eq_false_iff_ne];omega
  simp only [e,cond_false,clone_eq (fu:=fu) hpos (by omega),bind_some']
  rw [decide_eq_true (by omega),cond_true,longest_trie hf hS hT (by unfold small;simp;omega),bind_some',lng_nn]
  congr 1
  rw [decide_eq_decide]
  simp only [ne_eq,h0,not_false_eq_true,true_and]
  omega
theorem join_eq (hf:Fu fu) {rs:List Rule} (hS:Sides rs) {N1 N2:List Node} {R1 R2:List Rule} (hT:TrieOk N1 rs) {i o:Int} {ahead:List Int} {x:Tok} (h1:ahead.length≤1000) (h2:x.2.2.1.length≤1000) :
  table_Table_Join fu (i,o,N1,R1,N2,R2,ahead,x.1,x.2.1,x.2.2.1,x.2.2.2)=some (joinT rs ahead x):=by
 unfold table_Table_Join joinT
 try dsimp only
 by_cases h0:x.2.2.2=0
 ·have e:(x.2.2.2 == 0)=true:=by simpa using h0
  simp only [e,cond_true,joins_eq hf hS hT h1 h2,bind_some']
  cases hj:joinB rs ahead x.2.2.1 with
  | true=>simp [h0]
  | false=>simp
 ·have e:(x.2.2.2 == 0)=false:=by simpa using h0
  simp only [e,cond_false,h0,false_and,if_false]
theorem joinT_out {rs:List Rule} {ahead:List Int} {x:Tok}:(joinT rs ahead x).2.2.1.length≤x.2.2.1.length:=by
 unfold joinT;split <;> simp
theorem joinF_few {rs:List Rule}:∀(xs:List Tok) (ahead:List Int),fewO xs→ahead.length≤8→fewO (joinF rs ahead xs).1∧(joinF rs ahead xs).2.length≤8
 | [],ahead,_,h=>⟨fun x hx=>(by cases hx),h⟩
 | x :: xs,ahead,hx,h=>by
  have hah:(aheadT rs ahead x).length≤8:=by
   unfold aheadT
   split
   ·exact hx x (by simp)
   ·exact h
  obtain ⟨k1,k2⟩:=joinF_few xs (aheadT rs ahead x) (fun y hy=>hx y (List.mem_cons_of_mem _ hy)) hah
  refine ⟨fun y hy=>?_,k2⟩
  rcases List.mem_cons.1 hy with rfl | hy
  ·exact Nat.le_trans joinT_out (hx x (by simp))
  ·exact k1 y hy
theorem enc_join_eq (hf:Fu fu) {rs:List Rule} (hS:Sides rs) {N1 N2 N3:List Node} {R1 R2 R3:List Rule} (hT:TrieOk N1 rs) {i o a st:Int} {ahead w:List Int} {ts:List Tok} (hts:ts.length≤100000) (hfew:fewO ts) (h1:ahead.length≤8) :
  machine_Encoder_join fu (ts,i,o,N1,R1,N2,R2,ahead,N3,R3,w,a,st)=some ((joinF rs ahead ts).1,i,o,N1,R1,N2,R2,(joinF rs ahead ts).2,N3,R3,w,a,st):=by
 unfold machine_Encoder_join
 try dsimp only
 obtain ⟨v,e1,e2⟩:=loop_n (f:=machine_Encoder_join_L0 fu) (n:=ts.length)
  (I:=fun k x=>x=((joinF rs ahead (ts.take k)).1++ts.drop k,((ts.length:Int),(k:Int),i,o,N1,R1,N2,R2,(joinF rs ahead (ts.take k)).2,N3,R3,w,a,st)))
  (R:=fun v=>v=((joinF rs ahead ts).1,i,o,N1,R1,N2,R2,(joinF rs ahead ts).2,N3,R3,w,a,st))
  (by
   rintro k x hk rfl
   left
   unfold machine_Encoder_join_L0
   try dsimp only
   have hl:(joinF rs ahead (ts.take k)).1.length=k:=by rw [joinF_len];simp;omega
   have hget:((joinF rs ahead (ts.take k)).1++ts.drop k)[k]? = some ts[k]:=by
    rw [List.getElem?_append_right (by omega),hl]
    simp
   have hfk:=joinF_few (rs:=rs) (ts.take k) ahead (fun x hx=>hfew x (List.mem_of_mem_take hx)) h1
   have hset:∀y:Tok,((joinF rs ahead (ts.take k)).1++ts.drop k).set k y=(joinF rs ahead (ts.take k)).1++y :: ts.drop (k+1):=fun y=>by
    rw [List.set_append_right _ _ (by omega),hl,Nat.sub_self,List.drop_eq_getElem_cons hk,List.set_cons_zero]
   have hget2:∀y:Tok,((joinF rs ahead (ts.take k)).1++y :: ts.drop (k+1))[k]? = some y:=fun y=>by
    rw [List.getElem?_append_right (by omega),hl]
    simp
   have heta:∀y:Tok,((y.1,y.2.1,y.2.2.1,y.2.2.2):Tok)=y:=fun y=>rfl
   simp only [dlt,decide_eq_true hk,cond_true,nthI_nat,hget,bind_some',Int.toNat_natCast,join_eq (i:=i) (o:=o) (N2:=N2) (R1:=R1) (R2:=R2) hf hS hT (by omega:(joinF rs ahead (ts.take k)).2.length≤1000) (by have:=hfew _ (List.getElem_mem hk);omega:ts[k].2.2.1.length≤1000),heta,hset,hget2,
    w64_succ hk (show ts.length<9223372036854775808 by omega)]
   have hsn:ts.take (k+1)=ts.take k++[ts[k]]:=List.take_succ_eq_append_getElem hk
   have hj:=joinF_append rs (ts.take k) [ts[k]] ahead
   rw [←hsn] at hj
   simp only [joinF] at hj
   rw [hj]
   unfold aheadT
   by_cases h0:(joinT rs (joinF rs ahead (ts.take k)).2 ts[k]).2.2.2=0
   ·have:((joinT rs (joinF rs ahead (ts.take k)).2 ts[k]).2.2.2 == 0)=true:=by simpa using h0
    simp only [this,cond_true,h0,if_true]
    exact ⟨_,rfl,by simp⟩
   ·have:((joinT rs (joinF rs ahead (ts.take k)).2 ts[k]).2.2.2 == 0)=false:=by simpa using h0
    simp only [this,cond_false,h0,if_false]
    exact ⟨_,rfl,by simp⟩)
  (by
   rintro x rfl
   unfold machine_Encoder_join_L0
   try dsimp only
   simp only [dlt,decide_eq_false (Nat.lt_irrefl ts.length),cond_false,List.take_length,List.drop_length,List.append_nil]
   exact ⟨_,rfl,rfl⟩)
  fu 0 (ts,(ts.length:Int),(0:Int),i,o,N1,R1,N2,R2,ahead,N3,R3,w,a,st) (by omega) (by unfold Fu at hf;omega) (by simp [joinF])
 rw [e1,e2]
end Go.AM.M
namespace Go.AM.M
open Go.AM
variable {fu:Nat}
theorem enc_put_eq (hf:Fu fu) {rs ws:List Rule} (hS:Sides rs) (hW:Sides ws) {N1 N2 N3:List Node} {R1 R2:List Rule} (hT:TrieOk N1 rs) (hT3:TrieOk N3 ws) {i o a st u:Int} {ahead w:List Int} (hw:w.length≤10000) (ha:0≤a) (ha2:a≤100000000000) (h1:ahead.length≤8) :
  ∃r st',machine_Encoder_Put fu (u,i,o,N1,R1,N2,R2,ahead,N3,outsOf ws,w,a,st)=some ((joinF rs ahead r.1).1,i,o,N1,R1,N2,R2,(joinF rs ahead r.1).2,N3,outsOf ws,r.2.1,r.2.2,st')∧r=takeF ws false (w.length+1) a (w++[u]):=by
 unfold machine_Encoder_Put
 try dsimp only
 obtain ⟨r,st',e1,e2⟩:=match_put_eq hf hW hT3 (u:=u) (a:=a) (st:=st) (w:=w) (by omega) ha ha2
 have hP:=takeF_put (rs:=ws) (w.length+1) a (w++[u]) (by simp)
 rw [←e2] at hP
 have hl:=hP.len
 simp only [List.length_append,List.length_singleton] at hl
 refine ⟨r,st',?_,e2⟩
 simp only [e1,bind_some']
 rw [enc_join_eq hf hS hT (by omega) (by rw [e2];exact takeF_few hW _ _ _ _) h1]
 rfl
theorem enc_end_eq (hf:Fu fu) {rs ws:List Rule} (hS:Sides rs) (hW:Sides ws) {N1 N2 N3:List Node} {R1 R2:List Rule} (hT:TrieOk N1 rs) (hT3:TrieOk N3 ws) {i o a st:Int} {ahead w:List Int} (hw:w.length≤10000) (ha:0≤a) (ha2:a≤100000000000) (h1:ahead.length≤8) :
  ∃st',machine_Encoder_End fu (i,o,N1,R1,N2,R2,ahead,N3,outsOf ws,w,a,st)=some ((joinF rs ahead (toksA ws a w)).1,i,o,N1,R1,N2,R2,(joinF rs ahead (toksA ws a w)).2,N3,outsOf ws,([]:List Int),(a+(w.length:Int),st')):=by
 unfold machine_Encoder_End
 try dsimp only
 obtain ⟨st',e1⟩:=match_end_eq hf hW hT3 (a:=a) (st:=st) (w:=w) (by omega) ha ha2
 refine ⟨st',?_⟩
 simp only [e1,bind_some']
 have:=toksA_len (rs:=ws) w a
 rw [enc_join_eq hf hS hT (by omega) (toksA_few hW _ _) h1]
 rfl
theorem joinB_iff {rs:List Rule} {ahead us:List Int}:joinB rs ahead us=true↔ahead≠[]∧∃r∈rs,ahead.length<r.1.length∧r.1.length≤(ahead++us).length∧r.1=(ahead++us).take r.1.length:=by
 unfold joinB
 rw [decide_eq_true_iff]
 refine and_congr_right fun hne=>⟨fun h=>?_,?_⟩
 ·obtain ⟨r,hr,e⟩:=anyIn_iff.1 (lngN_has (rs:=rs) (us:=ahead++us) (ahead++us).length (by unfold nn at h;omega))
  have hl:r.1.length=nn rs (ahead++us):=by
   have:=congrArg List.length e
   rw [List.length_take] at this
   have h2:=nn_le rs (ahead++us)
   unfold nn at h2 ⊢
   omega
  exact ⟨r,hr,by omega,by have:=nn_le rs (ahead++us);omega,by rw [hl];exact e⟩
 ·rintro ⟨r,hr,h1,h2,h3⟩
  have:=lngN_max (rs:=rs) (us:=ahead++us) (n:=r.1.length) (by omega) (anyIn_iff.2 ⟨r,hr,h3⟩) (ahead++us).length h2
  unfold nn
  omega
theorem table_eq (hf:Fu fu) {rs:List Rule} (hR:Right rs) (hc:closedP rs):∃N1 N2,table_Of fu rs=some (.inr ((maxIn rs:Int),(maxIn (turn rs):Int),N1,outsOf rs,N2,outsOf (turn rs),(0:Int)))∧TrieOk N1 rs∧TrieOk N2 (turn rs):=by
 obtain ⟨N1,e1,t1⟩:=trie_eq hf hR
 have hT:=turn_right hR.toSides
 obtain ⟨N2,e2,t2⟩:=trie_eq hf hT
 refine ⟨N1,N2,?_,t1,t2⟩
 unfold table_Of
 try dsimp only
 simp only [e1,bind_some',bne_self_eq_false,cond_false,tclosed_eq hf hR.toSides hc,Bool.not_true,turn_eq hf hR.toSides,longest_eq hf (small_512 hR.len),longest_eq hf (small_512 hT.len),e2]
end Go.AM.M
namespace Go.AM.M
open Go.AM
def FU64:Nat:=18446744073709551616
theorem fu64:Fu FU64:=Nat.le_refl _
theorem dec_eq {fu:Nat} {i o:Int} {N1 N2:List Node} {R1 R2:List Rule}:machine_Decode fu (i,o,N1,R1,N2,R2)=some (N1,R1,([]:List Int),(0:Int),(0:Int)):=rfl
theorem enc_eq {fu:Nat} {i o:Int} {N1 N2:List Node} {R1 R2:List Rule}:machine_Encode fu (i,o,N1,R1,N2,R2)=some (N2,R2,([]:List Int),(0:Int),(0:Int),i,o,N1,R1,N2,R2,([]:List Int)):=rfl
theorem open_max {rs:List Rule} {w:List Int} (h:w=[]∨openB rs w=true):(w.length:Int)<max 1 (maxIn rs:Int):=by
 rcases h with rfl | h
 ·simp;omega
 ·unfold openB at h
  rw [List.any_eq_true] at h
  obtain ⟨r,hr,e⟩:=h
  simp only [decide_eq_true_eq] at e
  have:=maxIn_le r hr
  omega
end Go.AM.M
namespace Go.AM.M
open Go.AM
set_option maxRecDepth 100000
def ascR:List Rule:=[([0],[0]),([1],[1]),([2],[2]),([3],[3]),([4],[4]),([5],[5]),([6],[6]),([7],[7]),([8],[8]),([9],[9]),([10],[10]),([11],[11]),([12],[12]),([13],[13]),([14],[14]),([15],[15]),([16],[16]),([17],[17]),([18],[18]),([19],[19]),([20],[20]),([21],[21]),([22],[22]),([23],[23]),([24],[24]),([25],[25]),([26],[26]),([27],[27]),([28],[28]),([29],[29]),([30],[30]),([31],[31]),([32],[32]),([33],[33]),([34],[34]),([35],[35]),([36],[36]),([37],[37]),([38],[38]),([39],[39]),([40],[40]),([41],[41]),([42],[42]),([43],[43]),([44],[44]),([45],[45]),([46],[46]),([47],[47]),([48],[48]),([49],[49]),([50],[50]),([51],[51]),([52],[52]),([53],[53]),([54],[54]),([55],[55]),([56],[56]),([57],[57]),([58],[58]),([59],[59]),([60],[60]),([61],[61]),([62],[62]),([63],[63]),([64],[64]),([65],[65]),([66],[66]),([67],[67]),([68],[68]),([69],[69]),([70],[70]),([71],[71]),([72],[72]),([73],[73]),([74],[74]),([75],[75]),([76],[76]),([77],[77]),([78],[78]),([79],[79]),([80],[80]),([81],[81]),([82],[82]),([83],[83]),([84],[84]),([85],[85]),([86],[86]),([87],[87]),([88],[88]),([89],[89]),([90],[90]),([91],[91]),([92],[92]),([93],[93]),([94],[94]),([95],[95]),([96],[96]),([97],[97]),([98],[98]),([99],[99]),([100],[100]),([101],[101]),([102],[102]),([103],[103]),([104],[104]),([105],[105]),([106],[106]),([107],[107]),([108],[108]),([109],[109]),([110],[110]),([111],[111]),([112],[112]),([113],[113]),([114],[114]),([115],[115]),([116],[116]),([117],[117]),([118],[118]),([119],[119]),([120],[120]),([121],[121]),([122],[122]),([123],[123]),([124],[124]),([125],[125]),([126],[126]),([127],[127])]
def visR:List Rule:=[([0],[0]),([1],[1]),([2],[7858]),([3],[3]),([4],[4]),([5],[7860]),([6],[7850]),([7],[7]),([8],[8]),([9],[9]),([10],[10]),([11],[11]),([12],[12]),([13],[13]),([14],[14]),([15],[15]),([16],[16]),([17],[17]),([18],[18]),([19],[19]),([20],[7926]),([21],[21]),([22],[22]),([23],[23]),([24],[24]),([25],[7928]),([26],[26]),([27],[27]),([28],[28]),([29],[29]),([30],[7924]),([31],[31]),([32],[32]),([33],[33]),([34],[34]),([35],[35]),([36],[36]),([37],[37]),([38],[38]),([39],[39]),([40],[40]),([41],[41]),([42],[42]),([43],[43]),([44],[44]),([45],[45]),([46],[46]),([47],[47]),([48],[48]),([49],[49]),([50],[50]),([51],[51]),([52],[52]),([53],[53]),([54],[54]),([55],[55]),([56],[56]),([57],[57]),([58],[58]),([59],[59]),([60],[60]),([61],[61]),([62],[62]),([63],[63]),([64],[64]),([65],[65]),([66],[66]),([67],[67]),([68],[68]),([69],[69]),([70],[70]),([71],[71]),([72],[72]),([73],[73]),([74],[74]),([75],[75]),([76],[76]),([77],[77]),([78],[78]),([79],[79]),([80],[80]),([81],[81]),([82],[82]),([83],[83]),([84],[84]),([85],[85]),([86],[86]),([87],[87]),([88],[88]),([89],[89]),([90],[90]),([91],[91]),([92],[92]),([93],[93]),([94],[94]),([95],[95]),([96],[96]),([97],[97]),([98],[98]),([99],[99]),([100],[100]),([101],[101]),([102],[102]),([103],[103]),([104],[104]),([105],[105]),([106],[106]),([107],[107]),([108],[108]),([109],[109]),([110],[110]),([111],[111]),([112],[112]),([113],[113]),([114],[114]),([115],[115]),([116],[116]),([117],[117]),([118],[118]),([119],[119]),([120],[120]),([121],[121]),([122],[122]),([123],[123]),([124],[124]),([125],[125]),([126],[126]),([127],[127]),([128],[7840]),([129],[7854]),([130],[7856]),([131],[7862]),([132],[7844]),([133],[7846]),([134],[7848]),([135],[7852]),([136],[7868]),([137],[7864]),([138],[7870]),([139],[7872]),([140],[7874]),([141],[7876]),([142],[7878]),([143],[7888]),([144],[7890]),([145],[7892]),([146],[7894]),([147],[7896]),([148],[7906]),([149],[7898]),([150],[7900]),([151],[7902]),([152],[7882]),([153],[7886]),([154],[7884]),([155],[7880]),([156],[7910]),([157],[360]),([158],[7908]),([159],[7922]),([160],[213]),([161],[7855]),([162],[7857]),([163],[7863]),([164],[7845]),([165],[7847]),([166],[7849]),([167],[7853]),([168],[7869]),([169],[7865]),([170],[7871]),([171],[7873]),([172],[7875]),([173],[7877]),([174],[7879]),([175],[7889]),([176],[7891]),([177],[7893]),([178],[7895]),([179],[7904]),([180],[416]),([181],[7897]),([182],[7901]),([183],[7903]),([184],[7883]),([185],[7920]),([186],[7912]),([187],[7914]),([188],[7916]),([189],[417]),([190],[7899]),([191],[431]),([192],[192]),([193],[193]),([194],[194]),([195],[195]),([196],[7842]),([197],[258]),([198],[7859]),([199],[7861]),([200],[200]),([201],[201]),([202],[202]),([203],[7866]),([204],[204]),([205],[205]),([206],[296]),([207],[7923]),([208],[272]),([209],[7913]),([210],[210]),([211],[211]),([212],[212]),([213],[7841]),([214],[7927]),([215],[7915]),([216],[7917]),([217],[217]),([218],[218]),([219],[7929]),([220],[7925]),([221],[221]),([222],[7905]),([223],[432]),([224],[224]),([225],[225]),([226],[226]),([227],[227]),([228],[7843]),([229],[259]),([230],[7919]),([231],[7851]),([232],[232]),([233],[233]),([234],[234]),([235],[7867]),([236],[236]),([237],[237]),([238],[297]),([239],[7881]),([240],[273]),([241],[7921]),([242],[242]),([243],[243]),([244],[244]),([245],[245]),([246],[7887]),([247],[7885]),([248],[7909]),([249],[249]),([250],[250]),([251],[361]),([252],[7911]),([253],[253]),([254],[7907]),([255],[7918])]
def tcvR:List Rule:=[([0],[0]),([1],[1]),([2],[2]),([3],[3]),([4],[4]),([5],[5]),([6],[6]),([7],[7]),([8],[8]),([9],[9]),([10],[10]),([11],[11]),([12],[12]),([13],[13]),([14],[14]),([15],[15]),([16],[16]),([17],[17]),([18],[18]),([19],[19]),([20],[20]),([21],[21]),([22],[22]),([23],[23]),([24],[24]),([25],[25]),([26],[26]),([27],[27]),([28],[28]),([29],[29]),([30],[30]),([31],[31]),([32],[32]),([33],[33]),([34],[34]),([35],[35]),([36],[36]),([37],[37]),([38],[38]),([39],[39]),([40],[40]),([41],[41]),([42],[42]),([43],[43]),([44],[44]),([45],[45]),([46],[46]),([47],[47]),([48],[48]),([49],[49]),([50],[50]),([51],[51]),([52],[52]),([53],[53]),([54],[54]),([55],[55]),([56],[56]),([57],[57]),([58],[58]),([59],[59]),([60],[60]),([61],[61]),([62],[62]),([63],[63]),([64],[64]),([65],[65]),([66],[66]),([67],[67]),([68],[68]),([69],[69]),([70],[70]),([71],[71]),([72],[72]),([73],[73]),([74],[74]),([75],[75]),([76],[76]),([77],[77]),([78],[78]),([79],[79]),([80],[80]),([81],[81]),([82],[82]),([83],[83]),([84],[84]),([85],[85]),([86],[86]),([87],[87]),([88],[88]),([89],[89]),([90],[90]),([91],[91]),([92],[92]),([93],[93]),([94],[94]),([95],[95]),([96],[96]),([97],[97]),([98],[98]),([99],[99]),([100],[100]),([101],[101]),([102],[102]),([103],[103]),([104],[104]),([105],[105]),([106],[106]),([107],[107]),([108],[108]),([109],[109]),([110],[110]),([111],[111]),([112],[112]),([113],[113]),([114],[114]),([115],[115]),([116],[116]),([117],[117]),([118],[118]),([119],[119]),([120],[120]),([121],[121]),([122],[122]),([123],[123]),([124],[124]),([125],[125]),([126],[126]),([127],[127]),([161],[258]),([162],[194]),([163],[202]),([164],[212]),([165],[416]),([166],[431]),([167],[272]),([168],[259]),([169],[226]),([170],[234]),([171],[244]),([172],[417]),([173],[432]),([174],[273]),([181],[224]),([182],[7843]),([183],[227]),([184],[225]),([185],[7841]),([187],[7857]),([188],[7859]),([189],[7861]),([190],[7855]),([198],[7863]),([199],[7847]),([200],[7849]),([201],[7851]),([202],[7845]),([203],[7853]),([204],[232]),([206],[7867]),([207],[7869]),([208],[233]),([209],[7865]),([210],[7873]),([211],[7875]),([212],[7877]),([213],[7871]),([214],[7879]),([215],[236]),([216],[7881]),([220],[297]),([221],[237]),([222],[7883]),([223],[242]),([225],[7887]),([226],[245]),([227],[243]),([228],[7885]),([229],[7891]),([230],[7893]),([231],[7895]),([232],[7889]),([233],[7897]),([234],[7901]),([235],[7903]),([236],[7905]),([237],[7899]),([238],[7907]),([239],[249]),([241],[7911]),([242],[361]),([243],[250]),([244],[7909]),([245],[7915]),([246],[7917]),([247],[7919]),([248],[7913]),([249],[7921]),([250],[7923]),([251],[7927]),([252],[7929]),([253],[253]),([254],[7925])]
def vniR:List Rule:=[([97],[97]),([97,248],[224]),([97,249],[225]),([97,251],[7843]),([97,245],[227]),([97,239],[7841]),([97,234],[259]),([97,232],[7857]),([97,233],[7855]),([97,250],[7859]),([97,252],[7861]),([97,235],[7863]),([97,226],[226]),([97,224],[7847]),([97,225],[7845]),([97,229],[7849]),([97,227],[7851]),([97,228],[7853]),([101],[101]),([101,248],[232]),([101,249],[233]),([101,251],[7867]),([101,245],[7869]),([101,239],[7865]),([101,226],[234]),([101,224],[7873]),([101,225],[7871]),([101,229],[7875]),([101,227],[7877]),([101,228],[7879]),([105],[105]),([236],[236]),([237],[237]),([230],[7881]),([243],[297]),([242],[7883]),([111],[111]),([111,248],[242]),([111,249],[243]),([111,251],[7887]),([111,245],[245]),([111,239],[7885]),([111,226],[244]),([111,224],[7891]),([111,225],[7889]),([111,229],[7893]),([111,227],[7895]),([111,228],[7897]),([244],[417]),([244,248],[7901]),([244,249],[7899]),([244,251],[7903]),([244,245],[7905]),([244,239],[7907]),([117],[117]),([117,248],[249]),([117,249],[250]),([117,251],[7911]),([117,245],[361]),([117,239],[7909]),([246],[432]),([246,248],[7915]),([246,249],[7913]),([246,251],[7917]),([246,245],[7919]),([246,239],[7921]),([121],[121]),([121,248],[7923]),([121,249],[253]),([121,251],[7927]),([121,245],[7929]),([238],[7925]),([100],[100]),([241],[273]),([65],[65]),([65,216],[192]),([65,217],[193]),([65,219],[7842]),([65,213],[195]),([65,207],[7840]),([65,202],[258]),([65,200],[7856]),([65,201],[7854]),([65,218],[7858]),([65,220],[7860]),([65,203],[7862]),([65,194],[194]),([65,192],[7846]),([65,193],[7844]),([65,197],[7848]),([65,195],[7850]),([65,196],[7852]),([69],[69]),([69,216],[200]),([69,217],[201]),([69,219],[7866]),([69,213],[7868]),([69,207],[7864]),([69,194],[202]),([69,192],[7872]),([69,193],[7870]),([69,197],[7874]),([69,195],[7876]),([69,196],[7878]),([73],[73]),([204],[204]),([205],[205]),([198],[7880]),([211],[296]),([210],[7882]),([79],[79]),([79,216],[210]),([79,217],[211]),([79,219],[7886]),([79,213],[213]),([79,207],[7884]),([79,194],[212]),([79,192],[7890]),([79,193],[7888]),([79,197],[7892]),([79,195],[7894]),([79,196],[7896]),([212],[416]),([212,216],[7900]),([212,217],[7898]),([212,219],[7902]),([212,213],[7904]),([212,207],[7906]),([85],[85]),([85,216],[217]),([85,217],[218]),([85,219],[7910]),([85,213],[360]),([85,207],[7908]),([214],[431]),([214,216],[7914]),([214,217],[7912]),([214,219],[7916]),([214,213],[7918]),([214,207],[7920]),([89],[89]),([89,216],[7922]),([89,217],[221]),([89,219],[7926]),([89,213],[7928]),([206],[7924]),([68],[68]),([209],[272]),([0],[0]),([1],[1]),([2],[2]),([3],[3]),([4],[4]),([5],[5]),([6],[6]),([7],[7]),([8],[8]),([9],[9]),([10],[10]),([11],[11]),([12],[12]),([13],[13]),([14],[14]),([15],[15]),([16],[16]),([17],[17]),([18],[18]),([19],[19]),([20],[20]),([21],[21]),([22],[22]),([23],[23]),([24],[24]),([25],[25]),([26],[26]),([27],[27]),([28],[28]),([29],[29]),([30],[30]),([31],[31]),([32],[32]),([33],[33]),([34],[34]),([35],[35]),([36],[36]),([37],[37]),([38],[38]),([39],[39]),([40],[40]),([41],[41]),([42],[42]),([43],[43]),([44],[44]),([45],[45]),([46],[46]),([47],[47]),([48],[48]),([49],[49]),([50],[50]),([51],[51]),([52],[52]),([53],[53]),([54],[54]),([55],[55]),([56],[56]),([57],[57]),([58],[58]),([59],[59]),([60],[60]),([61],[61]),([62],[62]),([63],[63]),([64],[64]),([66],[66]),([67],[67]),([70],[70]),([71],[71]),([72],[72]),([74],[74]),([75],[75]),([76],[76]),([77],[77]),([78],[78]),([80],[80]),([81],[81]),([82],[82]),([83],[83]),([84],[84]),([86],[86]),([87],[87]),([88],[88]),([90],[90]),([91],[91]),([92],[92]),([93],[93]),([94],[94]),([95],[95]),([96],[96]),([98],[98]),([99],[99]),([102],[102]),([103],[103]),([104],[104]),([106],[106]),([107],[107]),([108],[108]),([109],[109]),([110],[110]),([112],[112]),([113],[113]),([114],[114]),([115],[115]),([116],[116]),([118],[118]),([119],[119]),([120],[120]),([122],[122]),([123],[123]),([124],[124]),([125],[125]),([126],[126]),([127],[127])]
def tisR:List Rule:=[([0],[0]),([1],[1]),([2],[2]),([3],[3]),([4],[4]),([5],[5]),([6],[6]),([7],[7]),([8],[8]),([9],[9]),([10],[10]),([11],[11]),([12],[12]),([13],[13]),([14],[14]),([15],[15]),([16],[16]),([17],[17]),([18],[18]),([19],[19]),([20],[20]),([21],[21]),([22],[22]),([23],[23]),([24],[24]),([25],[25]),([26],[26]),([27],[27]),([28],[28]),([29],[29]),([30],[30]),([31],[31]),([32],[32]),([33],[33]),([34],[34]),([35],[35]),([36],[36]),([37],[37]),([38],[38]),([39],[39]),([40],[40]),([41],[41]),([42],[42]),([43],[43]),([44],[44]),([45],[45]),([46],[46]),([47],[47]),([48],[48]),([49],[49]),([50],[50]),([51],[51]),([52],[52]),([53],[53]),([54],[54]),([55],[55]),([56],[56]),([57],[57]),([58],[58]),([59],[59]),([60],[60]),([61],[61]),([62],[62]),([63],[63]),([64],[64]),([65],[65]),([66],[66]),([67],[67]),([68],[68]),([69],[69]),([70],[70]),([71],[71]),([72],[72]),([73],[73]),([74],[74]),([75],[75]),([76],[76]),([77],[77]),([78],[78]),([79],[79]),([80],[80]),([81],[81]),([82],[82]),([83],[83]),([84],[84]),([85],[85]),([86],[86]),([87],[87]),([88],[88]),([89],[89]),([90],[90]),([91],[91]),([92],[92]),([93],[93]),([94],[94]),([95],[95]),([96],[96]),([97],[97]),([98],[98]),([99],[99]),([100],[100]),([101],[101]),([102],[102]),([103],[103]),([104],[104]),([105],[105]),([106],[106]),([107],[107]),([108],[108]),([109],[109]),([110],[110]),([111],[111]),([112],[112]),([113],[113]),([114],[114]),([115],[115]),([116],[116]),([117],[117]),([118],[118]),([119],[119]),([120],[120]),([121],[121]),([122],[122]),([123],[123]),([124],[124]),([125],[125]),([126],[126]),([127],[127]),([161],[3585]),([162],[3586]),([163],[3587]),([164],[3588]),([165],[3589]),([166],[3590]),([167],[3591]),([168],[3592]),([169],[3593]),([170],[3594]),([171],[3595]),([172],[3596]),([173],[3597]),([174],[3598]),([175],[3599]),([176],[3600]),([177],[3601]),([178],[3602]),([179],[3603]),([180],[3604]),([181],[3605]),([182],[3606]),([183],[3607]),([184],[3608]),([185],[3609]),([186],[3610]),([187],[3611]),([188],[3612]),([189],[3613]),([190],[3614]),([191],[3615]),([192],[3616]),([193],[3617]),([194],[3618]),([195],[3619]),([196],[3620]),([197],[3621]),([198],[3622]),([199],[3623]),([200],[3624]),([201],[3625]),([202],[3626]),([203],[3627]),([204],[3628]),([205],[3629]),([206],[3630]),([207],[3631]),([208],[3632]),([209],[3633]),([210],[3634]),([211],[3635]),([212],[3636]),([213],[3637]),([214],[3638]),([215],[3639]),([216],[3640]),([217],[3641]),([218],[3642]),([223],[3647]),([224],[3648]),([225],[3649]),([226],[3650]),([227],[3651]),([228],[3652]),([229],[3653]),([230],[3654]),([231],[3655]),([232],[3656]),([233],[3657]),([234],[3658]),([235],[3659]),([236],[3660]),([237],[3661]),([238],[3662]),([239],[3663]),([240],[3664]),([241],[3665]),([242],[3666]),([243],[3667]),([244],[3668]),([245],[3669]),([246],[3670]),([247],[3671]),([248],[3672]),([249],[3673]),([250],[3674]),([251],[3675])]
def tscR:List Rule:=[([0],[0]),([1],[1]),([2],[2]),([3],[3]),([4],[4]),([5],[5]),([6],[6]),([7],[7]),([8],[8]),([9],[9]),([10],[10]),([11],[11]),([12],[12]),([13],[13]),([14],[14]),([15],[15]),([16],[16]),([17],[17]),([18],[18]),([19],[19]),([20],[20]),([21],[21]),([22],[22]),([23],[23]),([24],[24]),([25],[25]),([26],[26]),([27],[27]),([28],[28]),([29],[29]),([30],[30]),([31],[31]),([32],[32]),([33],[33]),([34],[34]),([35],[35]),([36],[36]),([37],[37]),([38],[38]),([39],[39]),([40],[40]),([41],[41]),([42],[42]),([43],[43]),([44],[44]),([45],[45]),([46],[46]),([47],[47]),([48],[48]),([49],[49]),([50],[50]),([51],[51]),([52],[52]),([53],[53]),([54],[54]),([55],[55]),([56],[56]),([57],[57]),([58],[58]),([59],[59]),([60],[60]),([61],[61]),([62],[62]),([63],[63]),([64],[64]),([65],[65]),([66],[66]),([67],[67]),([68],[68]),([69],[69]),([70],[70]),([71],[71]),([72],[72]),([73],[73]),([74],[74]),([75],[75]),([76],[76]),([77],[77]),([78],[78]),([79],[79]),([80],[80]),([81],[81]),([82],[82]),([83],[83]),([84],[84]),([85],[85]),([86],[86]),([87],[87]),([88],[88]),([89],[89]),([90],[90]),([91],[91]),([92],[92]),([93],[93]),([94],[94]),([95],[95]),([96],[96]),([97],[97]),([98],[98]),([99],[99]),([100],[100]),([101],[101]),([102],[102]),([103],[103]),([104],[104]),([105],[105]),([106],[106]),([107],[107]),([108],[108]),([109],[109]),([110],[110]),([111],[111]),([112],[112]),([113],[113]),([114],[114]),([115],[115]),([116],[116]),([117],[117]),([118],[118]),([119],[119]),([120],[120]),([121],[121]),([122],[122]),([123],[123]),([124],[124]),([125],[125]),([126],[126]),([127],[127]),([145],[2949]),([146],[2950]),([147],[2951]),([148],[2952]),([149],[2953]),([150],[2954]),([151],[2958]),([152],[2959]),([153],[2960]),([154],[2962]),([155],[2963]),([156],[2964]),([157],[2947]),([166],[3014]),([167],[3015]),([168],[3016]),([169],[3021]),([170],[3006]),([171],[3007]),([172],[3008]),([173],[3009]),([174],[3010]),([175],[3031]),([176],[2965]),([208],[2965,3021]),([166,176],[2965,3014]),([167,176],[2965,3015]),([168,176],[2965,3016]),([166,176,170],[2965,3018]),([167,176,170],[2965,3019]),([166,176,175],[2965,3020]),([177],[2969]),([209],[2969,3021]),([166,177],[2969,3014]),([167,177],[2969,3015]),([168,177],[2969,3016]),([166,177,170],[2969,3018]),([167,177,170],[2969,3019]),([166,177,175],[2969,3020]),([178],[2970]),([210],[2970,3021]),([166,178],[2970,3014]),([167,178],[2970,3015]),([168,178],[2970,3016]),([166,178,170],[2970,3018]),([167,178,170],[2970,3019]),([166,178,175],[2970,3020]),([179],[2974]),([211],[2974,3021]),([166,179],[2974,3014]),([167,179],[2974,3015]),([168,179],[2974,3016]),([166,179,170],[2974,3018]),([167,179,170],[2974,3019]),([166,179,175],[2974,3020]),([180],[2975]),([212],[2975,3021]),([166,180],[2975,3014]),([167,180],[2975,3015]),([168,180],[2975,3016]),([166,180,170],[2975,3018]),([167,180,170],[2975,3019]),([166,180,175],[2975,3020]),([181],[2979]),([213],[2979,3021]),([166,181],[2979,3014]),([167,181],[2979,3015]),([168,181],[2979,3016]),([166,181,170],[2979,3018]),([167,181,170],[2979,3019]),([166,181,175],[2979,3020]),([182],[2980]),([214],[2980,3021]),([166,182],[2980,3014]),([167,182],[2980,3015]),([168,182],[2980,3016]),([166,182,170],[2980,3018]),([167,182,170],[2980,3019]),([166,182,175],[2980,3020]),([183],[2984]),([215],[2984,3021]),([166,183],[2984,3014]),([167,183],[2984,3015]),([168,183],[2984,3016]),([166,183,170],[2984,3018]),([167,183,170],[2984,3019]),([166,183,175],[2984,3020]),([184],[2986]),([216],[2986,3021]),([166,184],[2986,3014]),([167,184],[2986,3015]),([168,184],[2986,3016]),([166,184,170],[2986,3018]),([167,184,170],[2986,3019]),([166,184,175],[2986,3020]),([185],[2990]),([217],[2990,3021]),([166,185],[2990,3014]),([167,185],[2990,3015]),([168,185],[2990,3016]),([166,185,170],[2990,3018]),([167,185,170],[2990,3019]),([166,185,175],[2990,3020]),([186],[2991]),([218],[2991,3021]),([166,186],[2991,3014]),([167,186],[2991,3015]),([168,186],[2991,3016]),([166,186,170],[2991,3018]),([167,186,170],[2991,3019]),([166,186,175],[2991,3020]),([187],[2992]),([219],[2992,3021]),([166,187],[2992,3014]),([167,187],[2992,3015]),([168,187],[2992,3016]),([166,187,170],[2992,3018]),([167,187,170],[2992,3019]),([166,187,175],[2992,3020]),([188],[2994]),([220],[2994,3021]),([166,188],[2994,3014]),([167,188],[2994,3015]),([168,188],[2994,3016]),([166,188,170],[2994,3018]),([167,188,170],[2994,3019]),([166,188,175],[2994,3020]),([189],[2997]),([221],[2997,3021]),([166,189],[2997,3014]),([167,189],[2997,3015]),([168,189],[2997,3016]),([166,189,170],[2997,3018]),([167,189,170],[2997,3019]),([166,189,175],[2997,3020]),([190],[2996]),([222],[2996,3021]),([166,190],[2996,3014]),([167,190],[2996,3015]),([168,190],[2996,3016]),([166,190,170],[2996,3018]),([167,190,170],[2996,3019]),([166,190,175],[2996,3020]),([191],[2995]),([223],[2995,3021]),([166,191],[2995,3014]),([167,191],[2995,3015]),([168,191],[2995,3016]),([166,191,170],[2995,3018]),([167,191,170],[2995,3019]),([166,191,175],[2995,3020]),([192],[2993]),([224],[2993,3021]),([166,192],[2993,3014]),([167,192],[2993,3015]),([168,192],[2993,3016]),([166,192,170],[2993,3018]),([167,192,170],[2993,3019]),([166,192,175],[2993,3020]),([193],[2985]),([225],[2985,3021]),([166,193],[2985,3014]),([167,193],[2985,3015]),([168,193],[2985,3016]),([166,193,170],[2985,3018]),([167,193,170],[2985,3019]),([166,193,175],[2985,3020]),([194],[2972]),([226],[2972,3021]),([166,194],[2972,3014]),([167,194],[2972,3015]),([168,194],[2972,3016]),([166,194,170],[2972,3018]),([167,194,170],[2972,3019]),([166,194,175],[2972,3020]),([195],[2999]),([227],[2999,3021]),([166,195],[2999,3014]),([167,195],[2999,3015]),([168,195],[2999,3016]),([166,195,170],[2999,3018]),([167,195,170],[2999,3019]),([166,195,175],[2999,3020]),([196],[3000]),([228],[3000,3021]),([166,196],[3000,3014]),([167,196],[3000,3015]),([168,196],[3000,3016]),([166,196,170],[3000,3018]),([167,196,170],[3000,3019]),([166,196,175],[3000,3020]),([197],[3001]),([229],[3001,3021]),([166,197],[3001,3014]),([167,197],[3001,3015]),([168,197],[3001,3016]),([166,197,170],[3001,3018]),([167,197,170],[3001,3019]),([166,197,175],[3001,3020])]
def ascN:ByteArray:=bs [97,115,99,105,105]
theorem rules_asc:codec_rules FU64 ascN=some (.inr ascR):=by kernel_rfl
def visN:ByteArray:=bs [118,105,115,99,105,105]
theorem rules_vis:codec_rules FU64 visN=some (.inr visR):=by kernel_rfl
def tcvN:ByteArray:=bs [116,99,118,110,51]
theorem rules_tcv:codec_rules FU64 tcvN=some (.inr tcvR):=by kernel_rfl
def vniN:ByteArray:=bs [118,110,105]
theorem rules_vni:codec_rules FU64 vniN=some (.inr vniR):=by kernel_rfl
def tisN:ByteArray:=bs [116,105,115,45,54,50,48]
theorem rules_tis:codec_rules FU64 tisN=some (.inr tisR):=by kernel_rfl
def tscN:ByteArray:=bs [116,115,99,105,105]
theorem rules_tsc:codec_rules FU64 tscN=some (.inr tscR):=by kernel_rfl
def isR:List Rule:=[
 ([0],[8192]),
 ([1],[8193]),
 ([2],[8194]),
 ([3],[8195]),
 ([4],[8196]),
 ([5],[8197]),
 ([6],[8198]),
 ([7],[8199]),
 ([8],[8200]),
 ([9],[8201]),
 ([10],[8202]),
 ([11],[8203]),
 ([12],[8204]),
 ([13],[8205]),
 ([14],[8206]),
 ([15],[8207]),
 ([16],[8208]),
 ([17],[8209]),
 ([18],[8210]),
 ([19],[8211]),
 ([20],[8212]),
 ([21],[8213]),
 ([22],[8214]),
 ([23],[8215]),
 ([24],[8216]),
 ([25],[8217]),
 ([26],[8218]),
 ([27],[8219]),
 ([28],[8220]),
 ([29],[8221]),
 ([30],[8222]),
 ([31],[8223]),
 ([32],[8224]),
 ([33],[8225]),
 ([34],[8226]),
 ([35],[8227]),
 ([36],[8228]),
 ([37],[8229]),
 ([38],[8230]),
 ([39],[8231]),
 ([40],[8232]),
 ([41],[8233]),
 ([42],[8234]),
 ([43],[8235]),
 ([44],[8236]),
 ([45],[8237]),
 ([46],[8238]),
 ([47],[8239]),
 ([48],[8240]),
 ([49],[8241]),
 ([50],[8242]),
 ([51],[8243]),
 ([52],[8244]),
 ([53],[8245]),
 ([54],[8246]),
 ([55],[8247]),
 ([56],[8248]),
 ([57],[8249]),
 ([58],[8250]),
 ([59],[8251]),
 ([60],[8252]),
 ([61],[8253]),
 ([62],[8254]),
 ([63],[8255]),
 ([64],[8256]),
 ([65],[8257]),
 ([66],[8258]),
 ([67],[8259]),
 ([68],[8260]),
 ([69],[8261]),
 ([70],[8262]),
 ([71],[8263]),
 ([72],[8264]),
 ([73],[8265]),
 ([74],[8266]),
 ([75],[8267]),
 ([76],[8268]),
 ([77],[8269]),
 ([78],[8270]),
 ([79],[8271]),
 ([80],[8272]),
 ([81],[8273]),
 ([82],[8274]),
 ([83],[8275]),
 ([84],[8276]),
 ([85],[8277]),
 ([86],[8278]),
 ([87],[8279]),
 ([88],[8280]),
 ([89],[8281]),
 ([90],[8282]),
 ([91],[8283]),
 ([92],[8284]),
 ([93],[8285]),
 ([94],[8286]),
 ([95],[8287]),
 ([96],[8288]),
 ([97],[8289]),
 ([98],[8290]),
 ([99],[8291]),
 ([100],[8292]),
 ([101],[8293]),
 ([102],[8294]),
 ([103],[8295]),
 ([104],[8296]),
 ([105],[8297]),
 ([106],[8298]),
 ([107],[8299]),
 ([108],[8300]),
 ([109],[8301]),
 ([110],[8302]),
 ([111],[8303]),
 ([112],[8304]),
 ([113],[8305]),
 ([114],[8306]),
 ([115],[8307]),
 ([116],[8308]),
 ([117],[8309]),
 ([118],[8310]),
 ([119],[8311]),
 ([120],[8312]),
 ([121],[8313]),
 ([122],[8314]),
 ([123],[8315]),
 ([124],[8316]),
 ([125],[8317]),
 ([126],[8318]),
 ([127],[8319]),
 ([161],[1]),
 ([162],[2]),
 ([163],[3]),
 ([164],[5]),
 ([165],[6]),
 ([166],[7]),
 ([167],[8]),
 ([168],[9]),
 ([169],[10]),
 ([170],[11]),
 ([171],[14]),
 ([172],[15]),
 ([173],[16]),
 ([174],[13]),
 ([175],[18]),
 ([176],[19]),
 ([177],[20]),
 ([178],[17]),
 ([179],[21]),
 ([180],[22]),
 ([181],[23]),
 ([182],[24]),
 ([183],[25]),
 ([184],[26]),
 ([185],[27]),
 ([186],[28]),
 ([187],[29]),
 ([188],[30]),
 ([189],[31]),
 ([190],[32]),
 ([191],[33]),
 ([192],[34]),
 ([193],[35]),
 ([194],[36]),
 ([195],[37]),
 ([196],[38]),
 ([197],[39]),
 ([198],[40]),
 ([199],[41]),
 ([200],[42]),
 ([201],[43]),
 ([202],[44]),
 ([203],[45]),
 ([204],[46]),
 ([205],[47]),
 ([206],[95]),
 ([207],[48]),
 ([208],[49]),
 ([209],[50]),
 ([210],[51]),
 ([211],[52]),
 ([212],[53]),
 ([213],[54]),
 ([214],[55]),
 ([215],[56]),
 ([216],[57]),
 ([218],[62]),
 ([219],[63]),
 ([220],[64]),
 ([221],[65]),
 ([222],[66]),
 ([223],[67]),
 ([224],[70]),
 ([225],[71]),
 ([226],[72]),
 ([227],[69]),
 ([228],[74]),
 ([229],[75]),
 ([230],[76]),
 ([231],[73]),
 ([232],[77]),
 ([233],[60]),
 ([241],[102]),
 ([242],[103]),
 ([243],[104]),
 ([244],[105]),
 ([245],[106]),
 ([246],[107]),
 ([247],[108]),
 ([248],[109]),
 ([249],[110]),
 ([250],[111]),
 ([161,233],[80]),
 ([166,233],[12]),
 ([167,233],[97]),
 ([170,233],[96]),
 ([179,233],[88]),
 ([180,233],[89]),
 ([181,233],[90]),
 ([186,233],[91]),
 ([191,233],[92]),
 ([192,233],[93]),
 ([201,233],[94]),
 ([219,233],[98]),
 ([220,233],[99]),
 ([223,233],[68]),
 ([239,66],[4096]),
 ([239,67],[4097]),
 ([239,75],[4098]),
 ([239,74],[4099]),
 ([239,71],[4100]),
 ([239,68],[4101]),
 ([239,69],[4102]),
 ([239,72],[4103]),
 ([239,73],[4104]),
 ([217],[16397]),
 ([234],[10596]),
 ([234,233],[61]),
 ([232,232],[77,16396]),
 ([232,233],[77,16397]),
 ([240,184],[82]),
 ([240,191],[112])]
theorem indic_is:indic_Rules FU64 ()=some isR:=by kernel_rfl
def sidesB (rs:List Rule):Bool:=decide (rs.length≤512) && rs.all fun r=>sideB r.1 && sideB r.2
def diffB:List Rule→Bool
 | []=>true
 | r :: rs=>(rs.all fun x=>decide (r.1≠x.1)) && diffB rs
def closedB (rs:List Rule):Bool:=rs.all fun r=>(List.range r.1.length).all fun n=>decide (n=0) || okN rs r.1 n
theorem diffB_ok:∀{rs:List Rule},diffB rs=true→rs.Pairwise fun a b=>a.1≠b.1
 | [],_=>List.Pairwise.nil
 | r :: rs,h=>by
  simp only [diffB,Bool.and_eq_true,List.all_eq_true,decide_eq_true_eq] at h
  exact List.Pairwise.cons (fun x hx=>h.1 x hx) (diffB_ok h.2)
theorem right_of {rs:List Rule} (h1:sidesB rs=true) (h2:diffB rs=true):Right rs:=by
 simp only [sidesB,Bool.and_eq_true,decide_eq_true_eq,List.all_eq_true] at h1
 exact { len:=h1.1,side:=fun r hr=>h1.2 r hr,diff:=diffB_ok h2 }
theorem closed_of {rs:List Rule} (h:closedB rs=true):closedP rs:=by
 intro r hr n h1 h2
 simp only [closedB,List.all_eq_true,List.mem_range,Bool.or_eq_true,decide_eq_true_eq] at h
 rcases h r hr n h2 with h | h
 ·omega
 ·exact h
theorem isR_right:Right isR:=right_of (by kernel_rfl) (by kernel_rfl)
theorem isR_closed:closedP isR:=closed_of (by kernel_rfl)
theorem isR_max:maxIn isR=2:=by kernel_rfl
theorem isW_max:maxIn (turn isR)=2:=by kernel_rfl
theorem iscii_all_of {rs:List Rule} (h:indic_Rules FU64 ()=some rs) (hR:Right rs) (hc:closedP rs):∃N1 N2,iscii_all FU64 ()=some ((maxIn rs:Int),(maxIn (turn rs):Int),N1,outsOf rs,N2,outsOf (turn rs))∧TrieOk N1 rs∧TrieOk N2 (turn rs):=by
 obtain ⟨N1,N2,e,t1,t2⟩:=table_eq fu64 hR hc
 exact ⟨N1,N2,by unfold iscii_all;rw [h];simp only [bind_some',e],t1,t2⟩
theorem iscii_all_eq:∃N1 N2,iscii_all FU64 ()=some ((maxIn isR:Int),(maxIn (turn isR):Int),N1,outsOf isR,N2,outsOf (turn isR))∧TrieOk N1 isR∧TrieOk N2 (turn isR):=
 iscii_all_of indic_is isR_right isR_closed
end Go.AM.M
namespace Go.AM.M
open Go.AM
def mu1 (p:List Int×Int) (u:Int):List Int×Int:=
 if u≥8192 then (p.1++[w64 (u - 8192)],p.2) else if u≥4096 then (p.1,w64 (u - 4096)) else (p.1++[w64 (w64 (2304+w64 (128*p.2))+u)],p.2)
def muU (sc:Int) (us:List Int):List Int×Int:=us.foldl mu1 ([],sc)
def meanT:Int→List Tok→List Tok×Int
 | sc,[]=>([],sc)
 | sc,t :: ts=>((t.1,t.2.1,(muU sc t.2.2.1).1,t.2.2.2) :: (meanT (muU sc t.2.2.1).2 ts).1,(meanT (muU sc t.2.2.1).2 ts).2)
theorem meanT_append:∀(sc:Int) (a b:List Tok),meanT sc (a++b)=((meanT sc a).1++(meanT (meanT sc a).2 b).1,(meanT (meanT sc a).2 b).2)
 | sc,[],b=>rfl
 | sc,t :: a,b=>by simp only [List.cons_append,meanT,meanT_append _ a b]
theorem meanT_len:∀(sc:Int) (a:List Tok),(meanT sc a).1.length=a.length
 | sc,[]=>rfl
 | sc,t :: a=>by simp only [meanT,List.length_cons,meanT_len _ a]
theorem mu1_len (p:List Int×Int) (u:Int):(mu1 p u).1.length≤p.1.length+1:=by
 unfold mu1;split
 ·simp
 ·split <;> simp
theorem muU_snoc (sc:Int) (us:List Int) (u:Int):muU sc (us++[u])=mu1 (muU sc us) u:=by simp [muU]
theorem muU_len (sc:Int) (us:List Int):(muU sc us).1.length≤us.length:=by
 induction us using snocInd with
 | nil=>simp [muU]
 | snoc l a ih=>
  rw [muU_snoc]
  have:=mu1_len (muU sc l) a
  simp only [List.length_append,List.length_singleton];omega
theorem meanT_few:∀(sc:Int) (a:List Tok),fewO a→fewO (meanT sc a).1
 | sc,[],_=>by intro x hx;cases hx
 | sc,t :: a,h=>by
  intro x hx
  simp only [meanT] at hx
  rcases List.mem_cons.1 hx with rfl | hx
  ·have:=muU_len sc t.2.2.1
   have:=h t (by simp)
   show (muU sc t.2.2.1).1.length≤8
   omega
  ·exact meanT_few _ a (fun y hy=>h y (List.mem_cons_of_mem _ hy)) x hx
theorem fit8 {n m:Nat} (h:n≤1000000) (h2:m≤1000000):decide ((n+m)*(8:Nat)≤(2:Nat) ^ (46:Nat))=true:=by
 have:(2:Nat) ^ 46=70368744177664:=by decide
 rw [this,decide_eq_true_eq];omega
theorem fit48 {n m:Nat} (h:n≤1000000) (h2:m≤1000000):decide ((n+m)*(48:Nat)≤(2:Nat) ^ (46:Nat))=true:=by
 have:(2:Nat) ^ 46=70368744177664:=by decide
 rw [this,decide_eq_true_eq];omega
theorem indic_Scalar_eq (fu:Nat) (sc u:Int):indic_Scalar fu (sc,u)=some (w64 (w64 (2304+w64 (128*sc))+u)):=rfl
theorem mid_get {a b:List Tok} {t:Tok} {k:Nat} (h:a.length=k):(a++t :: b)[k]? = some t:=by subst h;simp
theorem mid_set {a b:List Tok} {t u:Tok} {k:Nat} (h:a.length=k):(a++t :: b).set k u=(a++[u])++b:=by subst h;simp
theorem mean_eq {ts:List Tok} {sc:Int} {N:List Node} {R:List Rule} {w:List Int} {a st:Int} (h1:ts.length≤100000) (h2:fewO ts) :
  iscii_Decoder_mean FU64 (ts,sc,N,R,w,a,st)=some ((meanT sc ts).1,(meanT sc ts).2,N,R,w,a,st):=by
 unfold iscii_Decoder_mean
 try dsimp only
 obtain ⟨v,k1,k2⟩:=loop_n (f:=iscii_Decoder_mean_L1 FU64) (n:=ts.length)
  (I:=fun k x=>x=((meanT sc (ts.take k)).1++ts.drop k,((ts.length:Int),(k:Int),(meanT sc (ts.take k)).2,N,R,w,a,st)))
  (R:=fun v=>v=((meanT sc ts).1,(meanT sc ts).2,N,R,w,a,st))
  (by
   rintro k x hk rfl
   left
   unfold iscii_Decoder_mean_L1
   try dsimp only
   have hl:(meanT sc (ts.take k)).1.length=k:=by rw [meanT_len];simp;omega
   have hd:ts.drop k=ts[k] :: ts.drop (k+1):=List.drop_eq_getElem_cons hk
   have hg:((meanT sc (ts.take k)).1++ts.drop k)[k]? = some ts[k]:=by rw [hd];exact mid_get hl
   simp only [dlt,decide_eq_true hk,cond_true,nthI_nat,Int.toNat_natCast,hg,bind_some']
   have hf:=h2 ts[k] (List.getElem_mem hk)
   have hs:meanT sc (ts.take (k+1))=((meanT sc (ts.take k)).1++[(ts[k].1,ts[k].2.1,(muU (meanT sc (ts.take k)).2 ts[k].2.2.1).1,ts[k].2.2.2)],(muU (meanT sc (ts.take k)).2 ts[k].2.2.1).2):=by
    rw [List.take_succ_eq_append_getElem hk,meanT_append];rfl
   have:=loop_st (f:=iscii_Decoder_mean_L0 FU64) (m:=ts[k].2.2.1.length) (fu:=FU64)
    (fun j=>((meanT sc (ts.take k)).1++ts.drop k,((k:Int),(muU (meanT sc (ts.take k)).2 (ts[k].2.2.1.take j)).1,(ts.length:Int),(k:Int),ts[k].2.2.1,(ts[k].2.2.1.length:Int),(j:Int),(muU (meanT sc (ts.take k)).2 (ts[k].2.2.1.take j)).2,N,R,w,a,st,ts[k].1,ts[k].2.1,ts[k].2.2.1,ts[k].2.2.2)))
    (r:=.inl ((meanT sc (ts.take (k+1))).1++ts.drop (k+1),((ts.length:Int),((k+1:Nat):Int),(meanT sc (ts.take (k+1))).2,N,R,w,a,st)))
    (by
     intro j hj
     unfold iscii_Decoder_mean_L0
     try dsimp only
     have hm:=muU_len (meanT sc (ts.take k)).2 (ts[k].2.2.1.take j)
     rw [List.length_take] at hm
     have hsn:muU (meanT sc (ts.take k)).2 (ts[k].2.2.1.take (j+1))=mu1 (muU (meanT sc (ts.take k)).2 (ts[k].2.2.1.take j)) ts[k].2.2.1[j]:=by
      rw [List.take_succ_eq_append_getElem hj,muU_snoc]
     simp only [dlt,decide_eq_true hj,cond_true,nthI_get hj,bind_some',indic_Scalar_eq,List.length_singleton,fit8 (show (muU (meanT sc (ts.take k)).2 (ts[k].2.2.1.take j)).1.length≤1000000 by omega) (show 1≤1000000 by omega),w64_succ hj (show ts[k].2.2.1.length<9223372036854775808 by omega),hsn]
     unfold mu1
     by_cases c1:ts[k].2.2.1[j]≥8192
     ·rw [decide_eq_true c1,cond_true,if_pos c1]
     ·rw [decide_eq_false c1,cond_false,if_neg c1]
      by_cases c2:ts[k].2.2.1[j]≥4096
      ·rw [decide_eq_true c2,cond_true,if_pos c2]
      ·rw [decide_eq_false c2,cond_false,if_neg c2])
    (by
     unfold iscii_Decoder_mean_L0
     try dsimp only
     simp only [dlt,decide_eq_false (Nat.lt_irrefl ts[k].2.2.1.length),cond_false,nthI_nat,Int.toNat_natCast,hg,bind_some',List.take_length,Option.map_some,w64_succ hk (show ts.length<9223372036854775808 by omega),hs]
     rw [hd,mid_set hl])
    (by unfold FU64;omega)
   exact ⟨_,this,rfl⟩)
  (by
   rintro x rfl
   unfold iscii_Decoder_mean_L1
   try dsimp only
   simp only [dlt,decide_eq_false (Nat.lt_irrefl ts.length),cond_false,List.take_length,List.drop_length,List.append_nil]
   exact ⟨_,rfl,rfl⟩)
  FU64 0 (ts,(ts.length:Int),(0:Int),sc,N,R,w,a,st) (by omega) (by show ts.length<0+FU64;unfold FU64;omega) (by simp [meanT])
 rw [k2] at k1
 exact k1
end Go.AM.M
namespace Go.AM.M
open Go.AM
def okS (s:Int):Bool:=decide (2304≤s∧s<3456∧s≠2404)
def scalB (s:Int):Bool:=decide (0≤s∧s≤1114111∧(s<55296∨s>57343))
def scrS (s:Int):Int:=(s - 2304) / 128
def unitS (s:Int):Int:=if okS s=true then s % 128 else if scalB s=true then w64 (8192+s) else -1
def codesL:List Int:=[66,67,75,74,71,68,69,72,73]
def codeS (k:Int):Int:=(codesL[k.toNat]?).getD 0
theorem okS_r {s:Int} (h:okS s=true):2304≤s∧s<3456:=by unfold okS at h;rw [decide_eq_true_eq] at h;omega
theorem okS_scal {s:Int} (h:okS s=true):scalB s=true:=by have:=okS_r h;unfold scalB;rw [decide_eq_true_eq];omega
theorem scrS_r {s:Int} (h:okS s=true):0≤scrS s∧scrS s<9:=by have:=okS_r h;unfold scrS;omega
theorem tdiv_scr {s:Int} (h:2304≤s∧s<3456):w64 (Int.tdiv (w64 (s - 2304)) 128)=scrS s:=by
 rw [w64_id (n:=s - 2304) (by omega) (by omega),Int.tdiv_eq_ediv_of_nonneg (by omega)]
 unfold scrS;exact w64_id (by omega) (by omega)
theorem tmod_plc {s:Int} (h:2304≤s∧s<3456):Int.tmod (w64 (s - 2304)) 128=s % 128:=by
 rw [w64_id (by omega) (by omega),Int.tmod_eq_emod_of_nonneg (by omega)];omega
theorem indic_Of_eq (fu:Nat) (s:Int):indic_Of fu s=some (if okS s=true then (scrS s,(s % 128,true)) else (0,0,false)):=by
 unfold indic_Of okS
 try dsimp only
 by_cases h1:s<2304
 ·rw [decide_eq_true h1,cond_true,if_neg (by rw [decide_eq_true_eq];omega)]
 ·rw [decide_eq_false h1,cond_false]
  by_cases h2:s≥3456
  ·rw [decide_eq_true h2,cond_true,if_neg (by rw [decide_eq_true_eq];omega)]
  ·rw [decide_eq_false h2,cond_false]
   by_cases h3:s=2404
   ·rw [beq_iff_eq.2 h3,cond_true,if_neg (by rw [decide_eq_true_eq];omega)]
   ·rw [beq_eq_false_iff_ne.2 h3,cond_false,if_pos (by rw [decide_eq_true_eq];omega),tdiv_scr (by omega),tmod_plc (by omega)]
theorem utf_Scalar_eq (fu:Nat) (s:Int):utf_Scalar fu s=some (scalB s):=by
 unfold utf_Scalar scalB
 try dsimp only
 by_cases h1:s≥0
 ·rw [decide_eq_true h1,cond_true]
  by_cases h2:s≤1114111
  ·rw [decide_eq_true h2,cond_true]
   by_cases h3:s<55296
   ·rw [decide_eq_true h3,cond_true,decide_eq_true (by omega)]
   ·rw [decide_eq_false h3,cond_false]
    congr 1
    rw [decide_eq_decide];omega
  ·rw [decide_eq_false h2,cond_false,decide_eq_false (by omega)]
 ·rw [decide_eq_false h1,cond_false,decide_eq_false (by omega)]
theorem codes_get {k:Int} (h0:0≤k) (h9:k<9):nthI codesL k=some (codeS k)∧codesL[k.toNat]? = some (codeS k):=by
 have h:k=0∨k=1∨k=2∨k=3∨k=4∨k=5∨k=6∨k=7∨k=8:=by omega
 rcases h with rfl | rfl | rfl | rfl | rfl | rfl | rfl | rfl | rfl <;> exact ⟨rfl,rfl⟩
theorem indic_Code_eq (fu:Nat) {k:Int} (h0:0≤k) (h9:k<9):indic_Code fu k=some (codeS k,true):=by
 unfold indic_Code indic_code
 try dsimp only
 have:=(codes_get h0 h9).1
 unfold codesL at this
 rw [decide_eq_false (by omega),cond_false,decide_eq_false (by omega),cond_false,this]
 rfl
structure ES where
 out:List Tok
 sc:Int
 frm:Int
 us:List Int
def part (rs:List Rule) (frm:Int) (us:List Int):List Tok:=(joinF rs [] (toksA (turn rs) frm us)).1
def swT (k c:Int):Tok:=(k,(0:Int),[(239:Int),c],(0:Int))
def esStep (rs:List Rule) (k:Int) (e:ES) (s:Int):ES:=
 if okS s=true∧scrS s≠e.sc then ⟨e.out++part rs e.frm e.us++[swT k (codeS (scrS s))],scrS s,k,[unitS s]⟩ else ⟨e.out,e.sc,e.frm,e.us++[unitS s]⟩
def esRun (rs:List Rule):Int→ES→List Int→ES
 | _,e,[]=>e
 | k,e,s :: ss=>esRun rs (k+1) (esStep rs k e s) ss
def esOut (rs:List Rule) (e:ES):List Tok:=e.out++part rs e.frm e.us
def es0:ES:=⟨[],0,0,[]⟩
theorem esRun_snoc (rs:List Rule):∀(k:Int) (e:ES) (ss:List Int) (s:Int),esRun rs k e (ss++[s])=esStep rs (k+(ss.length:Int)) (esRun rs k e ss) s
 | k,e,[],s=>by simp [esRun]
 | k,e,x :: ss,s=>by
  simp only [List.cons_append,esRun,esRun_snoc rs _ _ ss s,List.length_cons]
  congr 1;omega
structure ERel (rs:List Rule) (k:Nat) (e:ES) (out:List Tok) (ahead w:List Int) (a:Int) (raw:List Tok):Prop where
 o:out=e.out++(joinF rs [] raw).1
 ah:ahead=(joinF rs [] raw).2
 fw:fewO raw
 all:∀rest,raw++toksA (turn rs) a (w++rest)=toksA (turn rs) e.frm (e.us++rest)
 at':a+(w.length:Int)=(k:Int)
 len:e.out.length+raw.length+w.length≤2*k
 a0:0≤a
 op:w=[]∨openB (turn rs) w=true
 sc:0≤e.sc∧e.sc<9
 fwo:fewO e.out
 frm:e.frm+(e.us.length:Int)=(k:Int)
 wk:w.length≤k
theorem ERel.zero (rs:List Rule):ERel rs 0 es0 [] [] [] 0 []:=
 ⟨rfl,rfl,(fun x hx=>by cases hx),fun rest=>rfl,rfl,Nat.le_refl _,Int.le_refl _,.inl rfl,⟨Int.le_refl _,by decide⟩,(fun x hx=>by cases hx),rfl,Nat.le_refl _⟩
variable {rs:List Rule} {N1 N2 N3:List Node} {R1 R2:List Rule}
theorem ERel.put {k:Nat} {e:ES} {out:List Tok} {ahead w:List Int} {a:Int} {raw:List Tok} (hW:Sides (turn rs)) (h:ERel rs k e out ahead w a raw) (u:Int) {r:List Tok×(List Int×Int)} (hr:r=takeF (turn rs) false (w.length+1) a (w++[u])) :
  ERel rs (k+1) ⟨e.out,e.sc,e.frm,e.us++[u]⟩ (out++(joinF rs ahead r.1).1) (joinF rs ahead r.1).2 r.2.1 r.2.2 (raw++r.1):=by
 have hP:=takeF_put (rs:=turn rs) (w.length+1) a (w++[u]) (by simp)
 rw [←hr] at hP
 obtain ⟨p1,p2,p3,p4,p5⟩:=hP
 simp only [List.length_append,List.length_singleton] at p3 p4
 have hja:=joinF_append rs raw r.1 []
 rw [←h.ah] at hja
 refine ⟨?_,?_,?_,fun rest=>?_,?_,?_,?_,p2,h.sc,h.fwo,?_,?_⟩
 ·rw [hja,h.o,List.append_assoc]
 ·rw [hja]
 ·intro x hx
  rw [List.mem_append] at hx
  rcases hx with hx | hx
  ·exact h.fw x hx
  ·rw [hr] at hx;exact takeF_few hW _ _ _ _ x hx
 ·rw [List.append_assoc,←p1 rest,List.append_assoc,h.all,List.append_assoc]
 ·have:=h.at';omega
 ·have:=h.len;simp only [List.length_append];omega
 ·have:=h.a0;have:=h.at';omega
 ·have:=h.frm;simp only [List.length_append,List.length_singleton];omega
 ·have:=h.wk;omega
theorem ERel.fin {k:Nat} {e:ES} {out:List Tok} {ahead w:List Int} {a:Int} {raw:List Tok} (h:ERel rs k e out ahead w a raw) :
  out++(joinF rs ahead (toksA (turn rs) a w)).1=esOut rs e:=by
 have hja:=joinF_append rs raw (toksA (turn rs) a w) []
 rw [←h.ah] at hja
 have:=h.all []
 simp only [List.append_nil] at this
 rw [this] at hja
 unfold esOut part
 rw [hja,h.o,List.append_assoc]
theorem part_few (hS:Sides rs) (hW:Sides (turn rs)) (frm:Int) (us:List Int):fewO (part rs frm us):=(joinF_few _ [] (toksA_few hW us frm) (by simp)).1
theorem ERel.sw {k:Nat} {e:ES} {out:List Tok} {ahead w:List Int} {a:Int} {raw:List Tok} (hS:Sides rs) (hW:Sides (turn rs)) (h:ERel rs k e out ahead w a raw) (c sc:Int) (hc:0≤sc∧sc<9) :
  ∀u r,r=takeF (turn rs) false (([]:List Int).length+1) (a+(w.length:Int)) ([]++[u])→
  ERel rs (k+1) ⟨e.out++part rs e.frm e.us++[swT k c],sc,k,[u]⟩ (out++((joinF rs ahead (toksA (turn rs) a w)).1++[swT k c]++(joinF rs [] r.1).1)) (joinF rs [] r.1).2 r.2.1 r.2.2 r.1:=by
 intro u r hr
 have hP:=takeF_put (rs:=turn rs) (([]:List Int).length+1) (a+(w.length:Int)) ([]++[u]) (by simp)
 rw [←hr] at hP
 obtain ⟨p1,p2,p3,p4,p5⟩:=hP
 simp only [List.length_append,List.length_singleton,List.length_nil] at p3 p4
 have hf:=h.fin
 have hl:=h.len
 have hwk:=h.wk
 have hat:=h.at'
 have ha0:=h.a0
 have htl:=toksA_len (rs:=turn rs) w a
 have hpl:(part rs e.frm e.us).length≤raw.length+w.length:=by
  unfold part
  have:=h.all []
  simp only [List.append_nil] at this
  rw [joinF_len,←this,List.length_append];omega
 refine ⟨?_,rfl,?_,fun rest=>?_,?_,?_,?_,p2,hc,?_,?_,?_⟩
 ·rw [←List.append_assoc,←List.append_assoc,hf];unfold esOut;rfl
 ·intro x hx;rw [hr] at hx;exact takeF_few hW _ _ _ _ x hx
 ·rw [←p1 rest,hat];rfl
 ·omega
 ·simp only [List.length_append,List.length_singleton];omega
 ·omega
 ·intro x hx
  simp only [List.mem_append,List.mem_singleton] at hx
  rcases hx with (hx | hx) | rfl
  ·exact h.fwo x hx
  ·exact part_few hS hW _ _ x hx
  ·show [(239:Int),c].length≤8;simp
 ·simp
 ·omega
theorem apart_eq {fu:Nat} {i o a st:Int} {ahead w:List Int} {R3:List Rule}:machine_Encoder_Apart fu (i,o,N1,R1,N2,R2,ahead,N3,R3,w,a,st)=some (i,o,N1,R1,N2,R2,([]:List Int),N3,R3,w,a,st):=rfl
end Go.AM.M
namespace Go.AM.M
open Go.AM
set_option maxRecDepth 100000
def keyL (l:List Int):Nat:=l.foldl (fun a u=>a*4194304+(u.toNat+1)) 0
def diffK:List Nat→Bool
 | []=>true
 | x :: r=>(r.all fun y=>!Nat.beq x y) && diffK r
theorem diffK_ok:∀{rs:List Rule},diffK (rs.map fun r=>keyL r.1)=true→rs.Pairwise fun a b=>a.1≠b.1
 | [],_=>List.Pairwise.nil
 | r :: rs,h=>by
  simp only [List.map_cons,diffK,Bool.and_eq_true,List.all_eq_true] at h
  refine List.Pairwise.cons (fun x hx e=>?_) (diffK_ok h.2)
  have h1:=h.1 _ (List.mem_map.2 ⟨x,hx,rfl⟩)
  rw [e] at h1
  simp at h1
def ascL:List Int:=[97,98,99,120,121,122,65,66,67,48,49,57,32,46,44]
def hdB (rs:List Rule):Bool:=rs.all fun r=>r.1.all fun u=>decide (0≤u) && decide (u<256)
def hasB (rs:List Rule) (c:Int):Bool:=rs.any fun r=>decide (r.1=[c]) && decide (r.2=[c])
def tabB (rs:List Rule):Bool:=
 sidesB rs && (diffK (rs.map fun r=>keyL r.1) && (closedB rs && ((rs.all fun r=>decide (r.1.length≤3) && decide (r.2.length≤3)) && ((rs.all fun r=>r.1.all fun u=>decide (0≤u) && decide (u<256)) &&
 ((rs.all fun r=>r.2.all scalB) && ((ascL.all fun c=>hasB rs c) && (rs.all fun r=>r.1.tail.all fun u=>decide (128≤u))))))))
structure Tab (rs:List Rule):Prop where
 right:Right rs
 closed:closedP rs
 in3:∀r∈rs,r.1.length≤3∧r.2.length≤3
 byte:∀r∈rs,∀u∈r.1,0≤u∧u<256
 scal:∀r∈rs,∀u∈r.2,scalB u=true
 asc:∀c∈ascL,([c],[c])∈rs
 tail:∀r∈rs,∀u∈r.1.tail,128≤u
theorem sidesB_of {rs:List Rule} (h:sidesB rs=true):Sides rs:=by
 simp only [sidesB,Bool.and_eq_true,decide_eq_true_eq,List.all_eq_true] at h
 exact ⟨h.1,fun r hr=>h.2 r hr⟩
theorem tab_of {rs:List Rule} (h:tabB rs=true):Tab rs:=by
 simp only [tabB,Bool.and_eq_true] at h
 obtain ⟨h1,h2,h3,h4,h5,h6,h7,h8⟩:=h
 simp only [List.all_eq_true,Bool.and_eq_true,decide_eq_true_eq] at h4 h5 h6 h7 h8
 refine ⟨⟨sidesB_of h1,diffK_ok h2⟩,closed_of h3,h4,h5,h6,fun c hc=>?_,h8⟩
 have:=h7 c hc
 simp only [hasB,List.any_eq_true,Bool.and_eq_true,decide_eq_true_eq] at this
 obtain ⟨r,hr,e1,e2⟩:=this
 have:r=([c],[c]):=Prod.ext e1 e2
 rw [←this];exact hr
theorem tabA:Tab ascR:=tab_of (by kernel_rfl)
theorem tabV:Tab visR:=tab_of (by kernel_rfl)
theorem tabT:Tab tcvR:=tab_of (by kernel_rfl)
theorem tabN:Tab vniR:=tab_of (by kernel_rfl)
theorem tabH:Tab tisR:=tab_of (by kernel_rfl)
theorem tabS:Tab tscR:=tab_of (by kernel_rfl)
def tabR (n:Nat):List Rule:=
 match n with
 | 1=>ascR
 | 2=>visR
 | 3=>tcvR
 | 4=>vniR
 | 5=>tisR
 | _=>tscR
theorem tab_all (n:Nat):Tab (tabR n):=by
 unfold tabR
 split
 ·exact tabA
 ·exact tabV
 ·exact tabT
 ·exact tabN
 ·exact tabH
 ·exact tabS
theorem maxIn3 {rs:List Rule} (h:Tab rs):maxIn rs≤3:=maxIn_bound fun r hr=>(h.in3 r hr).1
theorem maxTurn3 {rs:List Rule} (h:Tab rs):maxIn (turn rs)≤3:=maxIn_bound fun r hr=>(h.in3 _ (turn_mem r hr)).2
end Go.AM.M
namespace Go.AM.M
open Go.AM
structure DRel (rs:List Rule) (us:List Int) (out:List Tok) (sc a:Int) (w:List Int) (raw:List Tok):Prop where
 o:out=(meanT 0 raw).1
 s:sc=(meanT 0 raw).2
 fw:fewO raw
 all:∀rest,raw++toksA rs a (w++rest)=toksA rs 0 (us++rest)
 at':a+(w.length:Int)=(us.length:Int)
 len:raw.length+w.length≤us.length
 a0:0≤a
 op:w=[]∨openB rs w=true
theorem DRel.zero (rs:List Rule):DRel rs [] [] 0 0 [] []:=⟨rfl,rfl,(fun x hx=>by cases hx),fun rest=>rfl,rfl,Nat.le_refl _,Int.le_refl _,.inl rfl⟩
variable {rs:List Rule} {N:List Node}
def flat (ts:List Tok):List Int:=ts.flatMap (·.2.2.1)
theorem flat_len {ts:List Tok} (h:fewO ts):(flat ts).length≤8*ts.length:=by
 induction ts with
 | nil=>simp [flat]
 | cons t ts ih=>
  have h1:=h t (by simp)
  have h2:=ih (fun x hx=>h x (List.mem_cons_of_mem _ hx))
  have:flat (t :: ts)=t.2.2.1++flat ts:=by simp [flat]
  rw [this];simp only [List.length_append,List.length_cons];omega
theorem fewO_append {a b:List Tok} (h1:fewO a) (h2:fewO b):fewO (a++b):=fun x hx=>by
 rw [List.mem_append] at hx
 rcases hx with hx | hx
 ·exact h1 x hx
 ·exact h2 x hx
theorem iscii_Encode_of {i o:Int} {N1 N2:List Node} {R1 R2:List Rule} (h:iscii_all FU64 ()=some (i,o,N1,R1,N2,R2)):iscii_Encode FU64 ()=some (N2,R2,([]:List Int),(0:Int),(0:Int),i,o,N1,R1,N2,R2,([]:List Int),(0:Int),(0:Int),(0:Int)):=by
 unfold iscii_Encode;rw [h];rfl
 try dsimp only
theorem iscii_Decode_of {i o:Int} {N1 N2:List Node} {R1 R2:List Rule} (h:iscii_all FU64 ()=some (i,o,N1,R1,N2,R2)):iscii_Decode FU64 ()=some (N1,R1,([]:List Int),(0:Int),(0:Int),(0:Int)):=by
 unfold iscii_Decode;rw [h];rfl
 try dsimp only
end Go.AM.M
namespace Go.AM.M
open Go.AM
theorem upto60 {l:List Int}:∃m:Nat,(if (60:Int)<(l.length:Int) then (60:Int) else (l.length:Int))=(m:Int)∧m≤60∧m≤l.length:=by
 split
 ·exact ⟨60,rfl,by omega,by omega⟩
 ·exact ⟨l.length,rfl,by omega,by omega⟩
def isU8 (l:List Int):Prop:=∀x∈l,0≤x∧x<256
theorem pick_get {l:List Int} {k:Int} (h0:0≤k) (h1:k<(l.length:Int)):∃x,nthI l k=some x∧l[k.toNat]? = some x∧x∈l:=by
 have hk:k.toNat<l.length:=by omega
 have e:(k.toNat:Int)=k:=by omega
 have:=nthI_get hk
 rw [e] at this
 exact ⟨l[k.toNat],this,List.getElem?_eq_getElem hk,List.getElem_mem hk⟩
theorem isU8_of {a:(Sh.sl (.int .u8)).den} (h:wfD (.sl (.int .u8)) a):isU8 a:=fun x hx=>by
 have h1:0≤x∧x<256:=by
  have h1:(Lit.int .u8 x).wf=true:=h.2 x hx
  unfold Lit.wf at h1
  simp only [Bool.and_eq_true,decide_eq_true_eq] at h1
  have h2:(0:Int)≤x∧x≤255:=h1
  omega
 exact h1
def u8 (s:Int):List Int:=
 if s<128 then [s] else if s<2048 then [192+s / 64,128+s % 64] else if s<65536 then [224+s / 4096,128+s / 64 % 64,128+s % 64]
 else [240+s / 262144,128+s / 4096 % 64,128+s / 64 % 64,128+s % 64]
def leadP (c:Int):Nat×(Int×Int×Int):=
 if c<128 then (1,c,128,191) else if c<194 then (0,0,128,191) else if c>244 then (0,0,128,191) else if c<224 then (2,(c % 32,(128,191)))
 else if c=224 then (3,0,160,191) else if c=237 then (3,13,128,159) else if c<240 then (3,(c % 16,(128,191)))
 else if c=240 then (4,0,144,191) else if c=244 then (4,4,128,143) else (4,(c % 8,(128,191)))
def contP:Nat→Int→Int→Int→Int→List Int→Int×(Int×Int)
 | 0,k,s,_,_,_=>(s,k,0)
 | _+1,k,_,_,_,[]=>(0,k,2)
 | n+1,k,s,lo,hi,c :: r=>if c<lo∨hi<c then (0,k,1) else contP n (k+1) (s*64+c % 64) 128 191 r
def oneP:List Int→Int×(Int×Int)
 | []=>(0,0,2)
 | b :: r=>if (leadP b).1=0 then (0,1,1) else contP ((leadP b).1 - 1) 1 (leadP b).2.1 (leadP b).2.2.1 (leadP b).2.2.2 r
theorem p3 {a b c a' b' c':Int} (h1:a=a') (h2:b=b') (h3:c=c'):(a,b,c)=(a',b',c'):=by subst h1;subst h2;subst h3;rfl
theorem p4 {n m:Nat} {a b:Int} {c:Int×Int} (h1:n=m) (h2:a=b):(n,a,c)=(m,b,c):=by subst h1;subst h2;rfl
theorem scalB_iff {s:Int}:scalB s=true↔0≤s∧s≤1114111∧(s<55296∨s>57343):=by unfold scalB;simp
theorem u8_len {s:Int}:1≤(u8 s).length∧(u8 s).length≤4:=by unfold u8;split <;> (try split) <;> (try split) <;> simp
theorem u8_isU8 {s:Int} (h:scalB s=true):isU8 (u8 s):=by
 rw [scalB_iff] at h
 intro x hx
 unfold u8 at hx
 split at hx
 ·simp only [List.mem_singleton] at hx;omega
 ·split at hx
  ·simp only [List.mem_cons,List.not_mem_nil,or_false] at hx;omega
  ·split at hx
   ·simp only [List.mem_cons,List.not_mem_nil,or_false] at hx;omega
   ·simp only [List.mem_cons,List.not_mem_nil,or_false] at hx;omega
theorem lead_le (c:Int):(leadP c).1≤4:=by
 unfold leadP
 repeat' split
 all_goals simp
theorem contP_ext {r:List Int}:∀(n:Nat) (k s lo hi:Int) (b:List Int),(contP n k s lo hi b).2.2≠2→contP n k s lo hi (b++r)=contP n k s lo hi b
 | 0,_,_,_,_,_,_=>by simp [contP]
 | n+1,_,_,_,_,[],h=>absurd rfl h
 | n+1,k,s,lo,hi,c :: b,h=>by
  simp only [List.cons_append,contP] at h ⊢
  split
  ·rfl
  ·rename_i h1
   rw [if_neg h1] at h
   exact contP_ext n _ _ _ _ b h
theorem oneP_ext {b r:List Int} (h:(oneP b).2.2≠2):oneP (b++r)=oneP b:=by
 cases b with
 | nil=>exact absurd rfl h
 | cons c b=>
  simp only [List.cons_append,oneP] at h ⊢
  split
  ·rfl
  ·rename_i h1
   rw [if_neg h1] at h
   exact contP_ext _ _ _ _ _ b h
theorem contP_len:∀(n:Nat) (k s lo hi:Int) (b:List Int),k≤(contP n k s lo hi b).2.1∧(contP n k s lo hi b).2.1≤k+b.length∧(contP n k s lo hi b).2.1≤k+n∧((contP n k s lo hi b).2.2=2→(contP n k s lo hi b).2.1=k+b.length∧b.length<n∧(contP n k s lo hi b).1=0)∧
  (0≤(contP n k s lo hi b).2.2∧(contP n k s lo hi b).2.2≤2)
 | 0,_,_,_,_,_=>by simp [contP];omega
 | n+1,_,_,_,_,[]=>by simp [contP];omega
 | n+1,k,s,lo,hi,c :: b=>by
  simp only [contP]
  split
  ·simp;omega
  ·obtain ⟨h1,h2,h3,h4,h5⟩:=contP_len n (k+1) (s*64+c % 64) 128 191 b
   simp only [List.length_cons]
   refine ⟨by omega,by omega,by omega,fun h=>?_,h5⟩
   obtain ⟨h6,h7,h8⟩:=h4 h
   exact ⟨by omega,by omega,h8⟩
theorem oneP_len {b:List Int} (h:b≠[]):1≤(oneP b).2.1∧(oneP b).2.1≤b.length∧(oneP b).2.1≤4∧((oneP b).2.2=2→(oneP b).2.1=b.length∧b.length≤3∧(oneP b).1=0)∧(0≤(oneP b).2.2∧(oneP b).2.2≤2):=by
 cases b with
 | nil=>exact absurd rfl h
 | cons c b=>
  simp only [oneP]
  split
  ·simp;omega
  ·rename_i h0
   obtain ⟨h1,h2,h3,h4,h5⟩:=contP_len ((leadP c).1 - 1) 1 (leadP c).2.1 (leadP c).2.2.1 (leadP c).2.2.2 b
   have:=lead_le c
   simp only [List.length_cons]
   refine ⟨by omega,by omega,by omega,fun h=>?_,h5⟩
   obtain ⟨h6,h7,h8⟩:=h4 h
   exact ⟨by omega,by omega,h8⟩
theorem oneP_of {c:Int} {r:List Int} {n:Nat} {s lo hi:Int} (h:leadP c=(n+1,(s,lo,hi))):oneP (c :: r)=contP n 1 s lo hi r:=by
 simp only [oneP,h]
 rw [if_neg (by omega)]
 rfl
theorem one_u8 {s:Int} (h:scalB s=true):oneP (u8 s)=(s,((u8 s).length:Int),0):=by
 rw [scalB_iff] at h
 unfold u8
 split
 ·rename_i h1
  rw [oneP_of (n:=0) (s:=s) (lo:=128) (hi:=191) (by unfold leadP;rw [if_pos h1])]
  simp [contP]
 ·split
  ·rename_i h0 h1
   rw [oneP_of (n:=1) (s:=(192+s / 64) % 32) (lo:=128) (hi:=191) (by unfold leadP;rw [if_neg (show ¬(192+s / 64<128) by omega),if_neg (show ¬(192+s / 64<194) by omega),if_neg (show ¬(192+s / 64>244) by omega),if_pos (show 192+s / 64<224 by omega)])]
   simp only [contP]
   rw [if_neg (by omega)]
   exact p3 (by omega) (by simp) rfl
  ·split
   ·rename_i h0 h1 h2
    have hl:∃lo hi,leadP (224+s / 4096)=(3,(s / 4096,(lo,hi)))∧lo≤128+s / 64 % 64∧128+s / 64 % 64≤hi:=by
     unfold leadP
     rw [if_neg (show ¬(224+s / 4096<128) by omega),if_neg (show ¬(224+s / 4096<194) by omega),if_neg (show ¬(224+s / 4096>244) by omega),if_neg (show ¬(224+s / 4096<224) by omega)]
     by_cases e1:224+s / 4096=224
     ·rw [if_pos e1];exact ⟨160,191,p4 rfl (by omega),by omega,by omega⟩
     ·rw [if_neg e1]
      by_cases e2:224+s / 4096=237
      ·rw [if_pos e2];exact ⟨128,159,p4 rfl (by omega),by omega,by omega⟩
      ·rw [if_neg e2,if_pos (by omega)];exact ⟨128,191,p4 rfl (by omega),by omega,by omega⟩
    obtain ⟨lo,hi,e,l1,l2⟩:=hl
    rw [oneP_of (n:=2) e]
    simp only [contP]
    rw [if_neg (by omega),if_neg (by omega)]
    exact p3 (by omega) (by simp) rfl
   ·rename_i h0 h1 h2
    have hl:∃lo hi,leadP (240+s / 262144)=(4,(s / 262144,(lo,hi)))∧lo≤128+s / 4096 % 64∧128+s / 4096 % 64≤hi:=by
     unfold leadP
     rw [if_neg (show ¬(240+s / 262144<128) by omega),if_neg (show ¬(240+s / 262144<194) by omega),if_neg (show ¬(240+s / 262144>244) by omega),if_neg (show ¬(240+s / 262144<224) by omega),if_neg (show ¬(240+s / 262144=224) by omega),
      if_neg (show ¬(240+s / 262144=237) by omega),if_neg (show ¬(240+s / 262144<240) by omega)]
     by_cases e1:240+s / 262144=240
     ·rw [if_pos e1];exact ⟨144,191,p4 rfl (by omega),by omega,by omega⟩
     ·rw [if_neg e1]
      by_cases e2:240+s / 262144=244
      ·rw [if_pos e2];exact ⟨128,143,p4 rfl (by omega),by omega,by omega⟩
      ·rw [if_neg e2];exact ⟨128,191,p4 rfl (by omega),by omega,by omega⟩
    obtain ⟨lo,hi,e,l1,l2⟩:=hl
    rw [oneP_of e]
    simp only [contP]
    rw [if_neg (by omega),if_neg (by omega),if_neg (by omega)]
    exact p3 (by omega) (by simp) rfl
theorem one_u8_ext {s:Int} (h:scalB s=true) (r:List Int):oneP (u8 s++r)=(s,((u8 s).length:Int),0):=by
 rw [oneP_ext (by rw [one_u8 h];simp),one_u8 h]
end Go.AM.M
namespace Go.AM.M
open Go.AM
variable {fu:Nat}
theorem byte_ex {b:Int} (h0:0≤b) (h1:b<256):∃k:Fin 256,b=(k.val:Int):=⟨⟨b.toNat,by omega⟩,by simp;omega⟩
theorem k31:∀b:Fin 256,w64 (w8 (((BitVec.ofInt 8 (b.val:Int)) &&& (BitVec.ofInt 8 (31:Int))).toNat:Int))=(b.val:Int) % 32:=by decide +kernel
theorem k15:∀b:Fin 256,w64 (w8 (((BitVec.ofInt 8 (b.val:Int)) &&& (BitVec.ofInt 8 (15:Int))).toNat:Int))=(b.val:Int) % 16:=by decide +kernel
theorem k7:∀b:Fin 256,w64 (w8 (((BitVec.ofInt 8 (b.val:Int)) &&& (BitVec.ofInt 8 (7:Int))).toNat:Int))=(b.val:Int) % 8:=by decide +kernel
theorem k63:∀b:Fin 256,w64 (w8 (((BitVec.ofInt 8 (b.val:Int)) &&& (BitVec.ofInt 8 (63:Int))).toNat:Int))=(b.val:Int) % 64:=by decide +kernel
theorem a31 {b:Int} (h0:0≤b) (h1:b<256):w64 (w8 (((BitVec.ofInt 8 b) &&& (BitVec.ofInt 8 (31:Int))).toNat:Int))=b % 32:=by obtain ⟨k,rfl⟩:=byte_ex h0 h1;exact k31 k
theorem a15 {b:Int} (h0:0≤b) (h1:b<256):w64 (w8 (((BitVec.ofInt 8 b) &&& (BitVec.ofInt 8 (15:Int))).toNat:Int))=b % 16:=by obtain ⟨k,rfl⟩:=byte_ex h0 h1;exact k15 k
theorem a7 {b:Int} (h0:0≤b) (h1:b<256):w64 (w8 (((BitVec.ofInt 8 b) &&& (BitVec.ofInt 8 (7:Int))).toNat:Int))=b % 8:=by obtain ⟨k,rfl⟩:=byte_ex h0 h1;exact k7 k
theorem a63 {b:Int} (h0:0≤b) (h1:b<256):w64 (w8 (((BitVec.ofInt 8 b) &&& (BitVec.ofInt 8 (63:Int))).toNat:Int))=b % 64:=by obtain ⟨k,rfl⟩:=byte_ex h0 h1;exact k63 k
theorem w8_id {n:Int} (h0:0≤n) (h1:n<256):w8 n=n:=by unfold w8;rw [IntKind.wrap_u8];omega
theorem w8_r (n:Int):0≤w8 n∧w8 n<256:=by unfold w8;rw [IntKind.wrap_u8];omega
theorem ofInt64 {n:Nat} (h:n<18446744073709551616):(BitVec.ofInt 64 (n:Int)).toNat=n:=by
 rw [BitVec.toNat_ofInt];omega
theorem or64 {a b:Int} (h0:0≤a) (h1:a<16777216) (h2:0≤b) (h3:b<64):w64 (((BitVec.ofInt 64 (w64 (a*2 ^ min (Int.toNat 6) 64))) ||| (BitVec.ofInt 64 b)).toNat:Int)=a*64+b:=by
 obtain ⟨x,rfl⟩:=Int.eq_ofNat_of_zero_le h0
 obtain ⟨y,rfl⟩:=Int.eq_ofNat_of_zero_le h2
 have e:w64 ((x:Int)*2 ^ min (Int.toNat 6) 64)=((x*64:Nat):Int):=by
  rw [show (2:Int) ^ min (Int.toNat 6) 64=64 from rfl,w64_id (by omega) (by omega)];omega
 rw [e,BitVec.toNat_or,ofInt64 (by omega),ofInt64 (by omega)]
 have:=Nat.two_pow_add_eq_or_of_lt (i:=6) (b:=y) (by omega) x
 rw [show x*64=2 ^ 6*x by omega,←this,w64_id (by omega) (by omega)]
 omega
theorem and63 (x:Int):(((BitVec.ofInt 64 x) &&& (BitVec.ofInt 64 (63:Int))).toNat:Int)=x % 64:=by
 rw [BitVec.toNat_and,show (BitVec.ofInt 64 (63:Int)).toNat=2 ^ 6 - 1 from rfl,Nat.and_two_pow_sub_one_eq_mod,BitVec.toNat_ofInt]
 omega
theorem orK {m:Nat} {c b:Int} (hc:(BitVec.ofInt 64 c).toNat=2 ^ m*(c.toNat / 2 ^ m)) (h0:0≤c) (h2:0≤b) (h3:b<2 ^ m) (hm:m≤7) (hcc:c<256):(((BitVec.ofInt 64 c) ||| (BitVec.ofInt 64 b)).toNat:Int)=c+b:=by
 obtain ⟨y,rfl⟩:=Int.eq_ofNat_of_zero_le h2
 have hy:y<2 ^ m:=by exact_mod_cast h3
 have h7:2 ^ m≤2 ^ 7:=Nat.pow_le_pow_right (by omega) hm
 have hcn:(BitVec.ofInt 64 c).toNat=c.toNat:=by rw [BitVec.toNat_ofInt];omega
 rw [BitVec.toNat_or,ofInt64 (by omega),hc,←Nat.two_pow_add_eq_or_of_lt hy]
 rw [←hc,hcn];omega
theorem or128 {b:Int} (h2:0≤b) (h3:b<64):(((BitVec.ofInt 64 (128:Int)) ||| (BitVec.ofInt 64 b)).toNat:Int)=128+b:=orK (m:=6) rfl (by omega) h2 (by simpa using h3) (by omega) (by omega)
theorem or192 {b:Int} (h2:0≤b) (h3:b<32):(((BitVec.ofInt 64 (192:Int)) ||| (BitVec.ofInt 64 b)).toNat:Int)=192+b:=orK (m:=5) rfl (by omega) h2 (by simpa using h3) (by omega) (by omega)
theorem or224 {b:Int} (h2:0≤b) (h3:b<16):(((BitVec.ofInt 64 (224:Int)) ||| (BitVec.ofInt 64 b)).toNat:Int)=224+b:=orK (m:=4) rfl (by omega) h2 (by simpa using h3) (by omega) (by omega)
theorem or240 {b:Int} (h2:0≤b) (h3:b<8):(((BitVec.ofInt 64 (240:Int)) ||| (BitVec.ofInt 64 b)).toNat:Int)=240+b:=orK (m:=3) rfl (by omega) h2 (by simpa using h3) (by omega) (by omega)
theorem lead_eq {c:Int} (h0:0≤c) (h1:c<256):utf_lead fu c=some (((leadP c).1:Int),(leadP c).2):=by
 unfold utf_lead leadP
 try dsimp only
 rw [a31 h0 h1,a15 h0 h1,a7 h0 h1,w64_id (n:=c) (by omega) (by omega)]
 by_cases c1:c<128
 ·simp [c1]
 by_cases c2:c<194
 ·simp [c1,c2]
 by_cases c3:c>244
 ·have:244<c:=c3
  simp [c1,c2,this]
 have c3':¬244<c:=c3
 by_cases c4:c<224
 ·simp [c1,c2,c3',c4]
 by_cases c5:c=224
 ·subst c5;simp
 by_cases c6:c=237
 ·subst c6;simp
 have b5:(c == 224)=false:=by simp [c5]
 have b6:(c == 237)=false:=by simp [c6]
 by_cases c7:c<240
 ·simp [c1,c2,c3',c4,b5,b6,c5,c6,c7]
 by_cases c8:c=240
 ·subst c8;simp
 by_cases c9:c=244
 ·subst c9;simp
 have b8:(c == 240)=false:=by simp [c8]
 have b9:(c == 244)=false:=by simp [c9]
 simp [c1,c2,c3',c4,b5,b6,b8,b9,c5,c6,c7,c8,c9]
theorem lead_bits (c:Int) (h0:0≤c):0≤(leadP c).2.1∧(leadP c).2.1<256:=by
 unfold leadP
 by_cases c1:c<128
 ·simp only [if_pos c1];omega
 simp only [if_neg c1]
 repeat' split
 all_goals first | exact ⟨by omega,by omega⟩ | (simp only [];omega)
theorem w2:w64 ((1:Int)+1)=2:=by decide +kernel
theorem w3:w64 ((2:Int)+1)=3:=by decide +kernel
theorem w4:w64 ((3:Int)+1)=4:=by decide +kernel
theorem nth0 (b:Int) (r:List Int):nthI (b :: r) 0=some b:=rfl
theorem nth1 (a b:Int) (r:List Int):nthI (a :: b :: r) 1=some b:=rfl
theorem nth2 (a b c:Int) (r:List Int):nthI (a :: b :: c :: r) 2=some c:=rfl
theorem nth3 (a b c d:Int) (r:List Int):nthI (a :: b :: c :: d :: r) 3=some d:=rfl
theorem beq_f {a b:Int} (h:a≠b):(a == b)=false:=by simp [h]
theorem beq_t {a b:Int} (h:a=b):(a == b)=true:=by simp [h]
theorem one_eq {b:List Int} (hb:isU8 b):utf_One fu b=some (oneP b):=by
 unfold utf_One
 cases b with
 | nil=>rfl
 | cons c0 r=>
  have h0:=hb c0 (by simp)
  dsimp only
  rw [beq_f (by simp only [List.length_cons];omega),cond_false,nth0,bind_some',lead_eq h0.1 h0.2,bind_some']
  obtain ⟨g1,g2⟩:=lead_bits c0 h0.1
  have g3:=lead_le c0
  simp only [oneP]
  generalize leadP c0=L at g1 g2 g3 ⊢
  obtain ⟨n,s,lo,hi⟩:=L
  dsimp only at g1 g2 g3 ⊢
  rw [w2,w3,w4]
  have hn:n=0∨n=1∨n=2∨n=3∨n=4:=by omega
  by_cases n0:n=0
  ·subst n0;rw [beq_t (by simp),cond_true,if_pos rfl]
  rw [if_neg n0,beq_f (show (n:Int)≠0 by omega),cond_false]
  by_cases n1:n=1
  ·subst n1;rw [beq_t (by simp),cond_true];rfl
  rw [beq_f (show (1:Int)≠(n:Int) by omega),cond_false]
  obtain ⟨m,rfl⟩:∃m,n=m+2:=⟨n - 2,by omega⟩
  rw [show m+2 - 1=m+1 from rfl]
  cases r with
  | nil=>rw [beq_t (by simp),cond_true];rfl
  | cons c1 r=>
   have h1:=hb c1 (by simp)
   rw [beq_f (show (1:Int)≠(((c0 :: c1 :: r).length:Nat):Int) by simp only [List.length_cons];omega),cond_false,nth1]
   simp only [bind_some',contP]
   by_cases l1:c1<lo
   ·rw [decide_eq_true l1,cond_true,if_pos (.inl l1)]
   rw [decide_eq_false l1,cond_false]
   by_cases l2:c1>hi
   ·rw [decide_eq_true l2,cond_true,if_pos (.inr l2)]
   rw [decide_eq_false l2,cond_false,if_neg (by omega),a63 h1.1 h1.2,or64 (by omega) (by omega) (by omega) (by omega)]
   by_cases m0:m=0
   ·subst m0;rw [beq_t (by simp),cond_true];rfl
   rw [beq_f (show (2:Int)≠((m+2:Nat):Int) by omega),cond_false]
   obtain ⟨m,rfl⟩:∃q,m=q+1:=⟨m - 1,by omega⟩
   cases r with
   | nil=>rw [beq_t (by simp),cond_true];rfl
   | cons c2 r=>
    have h2:=hb c2 (by simp)
    rw [beq_f (show (2:Int)≠(((c0 :: c1 :: c2 :: r).length:Nat):Int) by simp only [List.length_cons];omega),cond_false,nth2]
    simp only [bind_some',contP]
    by_cases l1:c2<128
    ·rw [decide_eq_true l1,cond_true,if_pos (.inl l1)];rfl
    rw [decide_eq_false l1,cond_false]
    by_cases l2:c2>191
    ·rw [decide_eq_true l2,cond_true,if_pos (.inr l2)];rfl
    rw [decide_eq_false l2,cond_false,if_neg (by omega),a63 h2.1 h2.2,or64 (by omega) (by omega) (by omega) (by omega)]
    by_cases m0:m=0
    ·subst m0;rw [beq_t (by simp),cond_true];rfl
    rw [beq_f (show (3:Int)≠((m+1+2:Nat):Int) by omega),cond_false]
    obtain ⟨m,rfl⟩:∃q,m=q+1:=⟨m - 1,by omega⟩
    obtain rfl:m=0:=by omega
    cases r with
    | nil=>rw [beq_t (by simp),cond_true];rfl
    | cons c3 r=>
     have h3:=hb c3 (by simp)
     rw [beq_f (show (3:Int)≠(((c0 :: c1 :: c2 :: c3 :: r).length:Nat):Int) by simp only [List.length_cons];omega),cond_false,nth3]
     simp only [bind_some',contP]
     by_cases l1:c3<128
     ·rw [decide_eq_true l1,cond_true,if_pos (.inl l1)];rfl
     rw [decide_eq_false l1,cond_false]
     by_cases l2:c3>191
     ·rw [decide_eq_true l2,cond_true,if_pos (.inr l2)];rfl
     rw [decide_eq_false l2,cond_false,if_neg (by omega),a63 h3.1 h3.2,or64 (by omega) (by omega) (by omega) (by omega)]
     rfl
theorem fdiv_pos {a:Int} {k:Nat} (h:0≤a):Int.fdiv a ((2:Int) ^ k)=a / 2 ^ k:=by
 rw [Int.fdiv_eq_ediv_of_nonneg _ (Int.le_of_lt (Int.pow_pos (by omega)))]
theorem size_eq {s:Int} (h:scalB s=true):utf_Size fu s=some ((u8 s).length:Int):=by
 unfold utf_Size u8
 try dsimp only
 rw [utf_Scalar_eq,bind_some',h]
 simp only [Bool.not_true,cond_false]
 by_cases c1:s<128
 ·simp [c1]
 by_cases c2:s<2048
 ·simp [c1,c2]
 by_cases c3:s<65536
 ·simp [c1,c2,c3]
 ·simp [c1,c2,c3]
end Go.AM.M
namespace Go.AM.M
open Go.AM
variable {fu:Nat}
theorem eqS_dec (a b:ByteArray):eqS a b=decide (a=b):=by
 obtain ⟨x⟩:=a
 obtain ⟨y⟩:=b
 show (x == y)=_
 by_cases h:x=y
 ·subst h;simp
 ·have:¬(ByteArray.mk x=ByteArray.mk y):=fun e=>h (ByteArray.mk.inj e)
  simp [h]
end Go.AM.M
namespace Go.AM.M
open Go.AM
variable {fu:Nat}
theorem u8_size {s:Int}:(u8 s).length=if s<128 then 1 else if s<2048 then 2 else if s<65536 then 3 else 4:=by
 unfold u8
 repeat' split
 all_goals rfl
end Go.AM.M
namespace Go.AM.M
open Go.AM
variable {fu:Nat}
theorem isU8_drop {l:List Int} (h:isU8 l) (n:Nat):isU8 (l.drop n):=fun x hx=>h x (List.mem_of_mem_drop hx)
end Go.AM.M
namespace Go.AM.M
open Go.AM
variable {fu:Nat}
def uadv (b:List Int):Nat:=(oneP b).2.1.toNat
def utok (a:Int) (b:List Int):Tok:=(a,(oneP b).2.1,(if (oneP b).2.2=0 then [(oneP b).1] else []),(oneP b).2.2)
def utoks:Nat→Int→List Int→List Tok
 | 0,_,_=>[]
 | f+1,a,b=>if b=[] then [] else utok a b :: utoks f (a+(uadv b:Int)) (b.drop (uadv b))
def utoksA (a:Int) (b:List Int):List Tok:=utoks b.length a b
theorem uadv_pos {b:List Int} (h:b≠[]):1≤uadv b∧uadv b≤b.length∧uadv b≤4∧(oneP b).2.1=(uadv b:Int):=by
 have:=oneP_len h
 unfold uadv
 omega
theorem utoks_fuel:∀(f:Nat) (a:Int) (b:List Int),b.length≤f→utoks f a b=utoksA a b:=by
 have key:∀(n:Nat) (b:List Int),b.length≤n→∀(f:Nat) (a:Int),b.length≤f→utoks f a b=utoksA a b:=by
  intro n
  induction n with
  | zero=>
   intro b hb f a _
   have:b=[]:=List.length_eq_zero_iff.1 (by omega)
   subst this
   cases f <;> simp [utoks,utoksA]
  | succ n ih=>
   intro b hb f a hf
   by_cases h:b=[]
   ·subst h;cases f <;> simp [utoks,utoksA]
   ·obtain ⟨h1,h2,_⟩:=uadv_pos h
    obtain ⟨f,rfl⟩:∃q,f=q+1:=⟨f - 1,by omega⟩
    have hl:b.length=(b.length - 1)+1:=by omega
    unfold utoksA
    rw [hl]
    simp only [utoks,if_neg h]
    rw [ih _ (by simp;omega) f _ (by simp;omega),ih _ (by simp;omega) (b.length - 1) _ (by simp;omega)]
 exact fun f a b h=>key b.length b (Nat.le_refl _) f a h
theorem utoksA_nil (a:Int):utoksA a []=[]:=rfl
theorem utoksA_cons {a:Int} {b:List Int} (h:b≠[]):utoksA a b=utok a b :: utoksA (a+(uadv b:Int)) (b.drop (uadv b)):=by
 obtain ⟨h1,h2,_⟩:=uadv_pos h
 have hl:b.length=(b.length - 1)+1:=by omega
 conv=>lhs;unfold utoksA
 rw [hl]
 simp only [utoks,if_neg h]
 rw [utoks_fuel _ _ _ (by simp;omega)]
theorem utok_ind {P:List Int→Prop} (h0:P []) (h1:∀b,b≠[]→P (b.drop (uadv b))→P b) (b:List Int):P b:=by
 have:∀n (b:List Int),b.length≤n→P b:=by
  intro n
  induction n with
  | zero=>intro b hb;have:b=[]:=List.length_eq_zero_iff.1 (by omega);subst this;exact h0
  | succ n ih=>
   intro b hb
   by_cases h:b=[]
   ·subst h;exact h0
   ·have:=uadv_pos h
    exact h1 b h (ih _ (by simp;omega))
 exact this b.length b (Nat.le_refl _)
theorem utoksA_len:∀(b:List Int) (a:Int),(utoksA a b).length≤b.length:=by
 intro b
 induction b using utok_ind with
 | h0=>intro a;simp [utoksA_nil]
 | h1 b h ih=>
  intro a
  rw [utoksA_cons h]
  have:=uadv_pos h
  have:=ih (a+(uadv b:Int))
  simp only [List.length_cons,List.length_drop] at this ⊢
  omega
theorem utok_few (a:Int) (b:List Int):(utok a b).2.2.1.length≤8:=by
 unfold utok
 dsimp only
 split <;> simp
theorem utoksA_few:∀(b:List Int) (a:Int),fewO (utoksA a b):=by
 intro b
 induction b using utok_ind with
 | h0=>intro a x hx;cases hx
 | h1 b h ih=>
  intro a x hx
  rw [utoksA_cons h,List.mem_cons] at hx
  rcases hx with rfl | hx
  ·exact utok_few a b
  ·exact ih _ x hx
theorem fit48' {n:Nat} (h:n≤1000000) (x:Tok):decide ((n + [x].length)*(48:Nat)≤(2:Nat) ^ (46:Nat))=true:=by
 rw [decide_eq_true_eq];simp only [List.length_singleton];omega
def takeU:Nat→Int→List Int→List Tok×(List Int×Int)
 | 0,a,w=>([],w,a)
 | f+1,a,w=>if w=[] then ([],[],a) else if (oneP w).2.2=2 then ([],w,a) else
    (utok a w :: (takeU f (a+(uadv w:Int)) (w.drop (uadv w))).1,(takeU f (a+(uadv w:Int)) (w.drop (uadv w))).2)
structure UPut (a:Int) (w:List Int) (r:List Tok×(List Int×Int)):Prop where
 all:∀rest,utoksA a (w++rest)=r.1++utoksA r.2.2 (r.2.1++rest)
 op:r.2.1=[]∨(oneP r.2.1).2.2=2
 at':r.2.2+(r.2.1.length:Int)=a+(w.length:Int)
 len:r.1.length+r.2.1.length≤w.length
 suf:r.2.1 <:+ w
 few:fewO r.1
theorem utok_more {a:Int} {w rest:List Int} (h:(oneP w).2.2≠2):utok a (w++rest)=utok a w∧uadv (w++rest)=uadv w:=by
 unfold utok uadv
 rw [oneP_ext h]
 exact ⟨rfl,rfl⟩
theorem takeU_put:∀(n:Nat) (a:Int) (w:List Int),w.length≤n→UPut a w (takeU n a w)
 | 0,a,w,h=>by
  have:w=[]:=List.length_eq_zero_iff.1 (by omega)
  subst this
  exact ⟨fun rest=>rfl,.inl rfl,rfl,by simp [takeU],List.suffix_rfl,fun x hx=>by cases hx⟩
 | n+1,a,w,h=>by
  unfold takeU
  by_cases h0:w=[]
  ·subst h0
   rw [if_pos rfl]
   exact ⟨fun rest=>rfl,.inl rfl,rfl,by simp,List.suffix_rfl,fun x hx=>by cases hx⟩
  rw [if_neg h0]
  by_cases h1:(oneP w).2.2=2
  ·rw [if_pos h1]
   exact ⟨fun rest=>rfl,.inr h1,rfl,by simp,List.suffix_rfl,fun x hx=>by cases hx⟩
  rw [if_neg h1]
  obtain ⟨u1,u2,u3,u4⟩:=uadv_pos h0
  obtain ⟨i1,i2,i3,i4,i5,i6⟩:=takeU_put n (a+(uadv w:Int)) (w.drop (uadv w)) (by simp;omega)
  simp only [List.length_drop] at i3 i4
  refine ⟨fun rest=>?_,i2,?_,?_,i5.trans (List.drop_suffix _ _),?_⟩
  ·obtain ⟨m1,m2⟩:=utok_more (a:=a) (rest:=rest) h1
   rw [utoksA_cons (by simp [h0]),m1,m2,List.drop_append_of_le_length u2]
   simp only [List.cons_append]
   rw [i1 rest]
  ·simp only;omega
  ·simp only [List.length_cons];omega
  ·intro x hx
   simp only [List.mem_cons] at hx
   rcases hx with rfl | hx
   ·exact utok_few a w
   ·exact i6 x hx
theorem take_eq {s n e a:Int} {w:List Int} {k:Nat} (hn:n=(k:Int)) (hk:k≤w.length) (hw:w.length≤1000000) (h0:0≤a) (h1:a≤1000000000000) :
  carry_Reader_take fu (s,n,e,w,a)=some (a,n,(if e=0 then [s] else []),e,(w.drop k,a+n)):=by
 subst hn
 unfold carry_Reader_take
 dsimp only
 have hfit:decide ((w.drop k).length*1≤2 ^ 46)=true:=by rw [decide_eq_true_eq];simp;omega
 rw [sliceI_from hk]
 simp only [bind_some']
 rw [hfit,w64_id (n:=a+(k:Int)) (by omega) (by omega)]
 simp only [cond_true]
 by_cases he:e=0
 ·subst he;rfl
 ·rw [beq_f he,cond_false,if_neg he]
theorem put_loop:∀(n:Nat) (w:List Int) (g:Nat) (out:List Tok) (a:Int),isU8 w→w.length≤n→n<g→n+out.length≤1000000→0≤a→a+w.length≤1000000000000→
  loopM (carry_Reader_Put_L0 fu) g (out,w,a)=some (out++(takeU n a w).1,((takeU n a w).2.1,(takeU n a w).2.2))
 | 0,w,g,out,a,_,h,hg,ho,_,_=>by
  have:w=[]:=List.length_eq_zero_iff.1 (by omega)
  subst this
  obtain ⟨g,rfl⟩:∃q,g=q+1:=⟨g - 1,by omega⟩
  rw [loopM_succ]
  unfold carry_Reader_Put_L0
  simp [takeU]
 | n+1,w,g,out,a,hb,h,hg,ho,ha,ha2=>by
  obtain ⟨g,rfl⟩:∃q,g=q+1:=⟨g - 1,by omega⟩
  rw [loopM_succ]
  by_cases h0:w=[]
  ·subst h0
   unfold carry_Reader_Put_L0
   simp [takeU]
  have hw:0<w.length:=List.length_pos_iff.2 h0
  obtain ⟨u1,u2,u3,u4⟩:=uadv_pos h0
  by_cases h1:(oneP w).2.2=2
  ·have e:carry_Reader_Put_L0 fu (out,w,a)=some (.inr (out,w,a)):=by
    unfold carry_Reader_Put_L0
    dsimp only
    rw [decide_eq_true (show ((w.length:Int)>0) by omega),cond_true,one_eq hb,bind_some',beq_t h1,cond_true]
   rw [e]
   unfold takeU
   rw [if_neg h0,if_pos h1,List.append_nil]
  ·have e:carry_Reader_Put_L0 fu (out,w,a)=some (.inl (out++[utok a w],(w.drop (uadv w),a+(uadv w:Int)))):=by
    unfold carry_Reader_Put_L0
    dsimp only
    rw [decide_eq_true (show ((w.length:Int)>0) by omega),cond_true,one_eq hb,bind_some',beq_f h1,cond_false,take_eq u4 u2 (by omega) ha (by omega),bind_some',fit48' (by omega),cond_true,u4]
    unfold utok
    rw [u4]
   rw [e]
   unfold takeU
   rw [if_neg h0,if_neg h1]
   have:=put_loop n (w.drop (uadv w)) g (out++[utok a w]) (a+(uadv w:Int)) (isU8_drop hb _) (by simp;omega) (by omega) (by simp;omega) (by omega) (by simp;omega)
   simp only [this,List.append_assoc,List.singleton_append]
theorem bput_eq (hf:Fu fu) {u a:Int} {w:List Int} (hb:isU8 w) (hw:w.length≤1000) (ha:0≤a) (ha2:a≤100000000000) :
  ∃r,codec_bytes_Put fu (u,w,a)=some (r.1,r.2.1,r.2.2)∧r=takeU (w.length+1) a (w++[w8 u])∧isU8 (w++[w8 u]):=by
 have hb2:isU8 (w++[w8 u]):=fun x hx=>by
  rw [List.mem_append,List.mem_singleton] at hx
  rcases hx with hx | rfl
  ·exact hb x hx
  ·exact w8_r u
 refine ⟨_,?_,rfl,hb2⟩
 unfold codec_bytes_Put carry_Reader_Put
 dsimp only
 have hfit:decide ((w.length + [w8 u].length)*1≤2 ^ 46)=true:=by rw [decide_eq_true_eq];simp;omega
 rw [hfit,cond_true,put_loop (w.length+1) (w++[w8 u]) fu [] a hb2 (by simp) (by unfold Fu at hf;omega) (by simp;omega) ha (by simp;omega)]
 rfl
theorem utoks_short {a:Int} {w:List Int} (h:w=[]∨(oneP w).2.2=2):utoksA a w=if w=[] then [] else [(a,(w.length:Int),[],2)]:=by
 by_cases h0:w=[]
 ·subst h0;rfl
 ·rw [if_neg h0]
  have h:=h.resolve_left h0
  obtain ⟨_,_,_,h4,_⟩:=oneP_len h0
  obtain ⟨h5,h6,h7⟩:=h4 h
  have:uadv w=w.length:=by unfold uadv;omega
  rw [utoksA_cons h0,this,List.drop_length,utoksA_nil]
  unfold utok
  rw [h5,h,if_neg (by omega)]
theorem bend_eq {a:Int} {w:List Int} (h:w=[]∨(oneP w).2.2=2) (ha:0≤a) (ha2:a≤100000000000) :
  carry_Reader_End fu (w,a)=some (utoksA a w,(([]:List Int),a+(w.length:Int))):=by
 unfold carry_Reader_End
 dsimp only
 rw [utoks_short h]
 by_cases h0:w=[]
 ·subst h0;simp
 ·rw [if_neg h0,beq_f (by have:=List.length_pos_iff.2 h0;omega),cond_false]
  have hl:=((oneP_len h0).2.2.2.1 (h.resolve_left h0)).2.1
  rw [take_eq (k:=w.length) rfl (Nat.le_refl _) (by omega) ha (by omega),bind_some']
  simp
theorem w8w64 {n:Int} (h0:0≤n) (h1:n<256):w8 (w64 n)=n:=by rw [w64_id (by omega) (by omega),w8_id h0 h1]
theorem uput_eq {s:Int} (h:scalB s=true):utf_Put_nil fu (([]:List Bool),s)=some (u8 s):=by
 have hs:=scalB_iff.1 h
 unfold utf_Put_nil
 dsimp only
 rw [size_eq h,bind_some',u8_size]
 have p6:Int.fdiv s (2 ^ min (Int.toNat 6) 64)=s / 64:=fdiv_pos (k:=6) hs.1
 have p12:Int.fdiv s (2 ^ min (Int.toNat 12) 64)=s / 4096:=fdiv_pos (k:=12) hs.1
 have p18:Int.fdiv s (2 ^ min (Int.toNat 18) 64)=s / 262144:=fdiv_pos (k:=18) hs.1
 rw [p6,p12,p18,and63,and63,and63]
 unfold u8
 have i64:∀x:Int,w64 (x % 64)=x % 64:=fun x=>w64_id (by omega) (by omega)
 have i128:∀x:Int,w8 (w64 (((BitVec.ofInt 64 (128:Int)) ||| (BitVec.ofInt 64 (w64 (x % 64)))).toNat:Int))=128+x % 64:=fun x=>by rw [i64,or128 (by omega) (by omega),w8w64 (by omega) (by omega)]
 rw [i128,i128,i128]
 by_cases c1:s<128
 ·rw [if_pos c1,if_pos c1,beq_t (by rfl),cond_true,w8_id (by omega) (by omega)];rfl
 rw [if_neg c1,if_neg c1]
 by_cases c2:s<2048
 ·rw [if_pos c2,if_pos c2,beq_f (by decide),cond_false,beq_t (by rfl),cond_true,or192 (by omega) (by omega),w8w64 (by omega) (by omega)];rfl
 rw [if_neg c2,if_neg c2]
 by_cases c3:s<65536
 ·rw [if_pos c3,if_pos c3,beq_f (by decide),cond_false,beq_f (by decide),cond_false,beq_t (by rfl),cond_true,or224 (by omega) (by omega),w8w64 (by omega) (by omega)];rfl
 ·rw [if_neg c3,if_neg c3,beq_f (by decide),cond_false,beq_f (by decide),cond_false,beq_f (by decide),cond_false,beq_t (by rfl),cond_true,or240 (by omega) (by omega),w8w64 (by omega) (by omega)];rfl
def stok (at' s:Int):Tok:=(at',1,(if scalB s=true then u8 s else []),(if scalB s=true then 0 else 3))
theorem sput_eq (hf:Fu fu) {s a:Int} (h0:0≤a) (h1:a≤1000000000000):codec_scalars_Put fu (s,a)=some ([stok a s],a+1):=by
 have hfu:18446744073709551616≤fu:=hf
 unfold codec_scalars_Put stok
 dsimp only
 rw [utf_Scalar_eq,bind_some',w64_id (n:=a+1) (by omega) (by omega)]
 cases h:scalB s with
 | false=>simp
 | true=>
  rw [cond_true,uput_eq h,bind_some']
  have hl:=u8_len (s:=s)
  have hb:=u8_isU8 h
  have:=loop_st (f:=codec_scalars_Put_L0 fu) (fun k=>(u8 s,((u8 s).length:Int),(k:Int),a,a,(1:Int),(u8 s).take k,(0:Int))) (m:=(u8 s).length) (fu:=fu) (r:=([(a,1,u8 s,0)],a+1)) (fun k hk=>by
    unfold codec_scalars_Put_L0
    dsimp only
    have hx:=hb (u8 s)[k] (List.getElem_mem hk)
    have hfit:decide ((((u8 s).take k).length + [w64 (u8 s)[k]].length)*8≤2 ^ 46)=true:=by rw [decide_eq_true_eq];simp;omega
    rw [decide_eq_true (by omega),cond_true,nthI_get hk,bind_some',Int.toNat_natCast,List.getElem?_eq_getElem hk,bind_some',hfit,cond_true,w64_id (n:=(u8 s)[k]) (by omega) (by omega),w64_succ hk (by omega),List.take_succ_eq_append_getElem hk]) (by
    unfold codec_scalars_Put_L0
    dsimp only
    rw [decide_eq_false (by omega),cond_false,List.take_length,w64_id (n:=a+1) (by omega) (by omega)]) (by omega)
  simp only [List.take_zero] at this
  simpa using this
end Go.AM.M
namespace Go.AM.M
open Go.AM
variable {fu:Nat}
def cat (ts:List Tok):List Int:=ts.flatMap fun x=>x.2.2.1
theorem cat_append (a b:List Tok):cat (a++b)=cat a++cat b:=by simp [cat]
theorem cat_cons (x:Tok) (b:List Tok):cat (x :: b)=x.2.2.1++cat b:=by simp [cat]
def okT (ts:List Tok):Prop:=∀x∈ts,x.2.2.2=0
theorem outI_of {rs:List Rule} (hR:Right rs) {r:Rule} (hr:r∈rs):outI rs (fnd rs r.1)=r.2:=by
 have h:¬fnd rs r.1<0:=fun h=>fnd_neg.1 h r hr rfl
 obtain ⟨k,hk,e1,e2⟩:=fnd_get (fnd_ge h)
 obtain ⟨j,hj,e3⟩:=List.getElem_of_mem hr
 have:k=j:=by
  rcases Nat.lt_trichotomy k j with h | h | h
  ·exact absurd (e2.trans (by rw [e3])) (List.pairwise_iff_getElem.1 hR.diff k j hk hj h)
  ·exact h
  ·exact absurd ((by rw [e3]:rs[j].1=r.1).trans e2.symm) (List.pairwise_iff_getElem.1 hR.diff j k hj hk h)
 subst this
 unfold outI
 rw [e1]
 simp [hk,e3]
theorem both_in {rs:List Rule} (hR:Right rs) (hc:closedP rs):∀(us:List Int) (a:Int) (ahead:List Int),okT (joinF rs ahead (toksA (turn rs) a us)).1→
  (∀b,cat (toksA rs b (cat (toksA (turn rs) a us)))=us)∧(us≠[]→∃I rest,cat (toksA (turn rs) a us)=I++rest∧I≠[]∧joinB rs ahead I=false):=by
 intro us
 induction us using toks_ind (rs:=turn rs) with
 | h0=>intro a ahead _;exact ⟨fun b=>rfl,fun h=>absurd rfl h⟩
 | h1 us hne ih=>
  intro a ahead hok
  rw [toksA_cons hne] at hok ⊢
  simp only [joinF] at hok
  have hx:(joinT rs ahead (tok (turn rs) a us)).2.2.2=0:=hok _ (by simp)
  have hx0:(tok (turn rs) a us).2.2.2=0∧joinB rs ahead (tok (turn rs) a us).2.2.1=false:=by
   unfold joinT at hx
   by_cases h1:(tok (turn rs) a us).2.2.2=0∧joinB rs ahead (tok (turn rs) a us).2.2.1=true
   ·rw [if_pos h1] at hx;cases hx
   ·rw [if_neg h1] at hx
    refine ⟨hx,?_⟩
    rw [Bool.eq_false_iff]
    exact fun h2=>h1 ⟨hx,h2⟩
  have hah:aheadT rs ahead (tok (turn rs) a us)=(tok (turn rs) a us).2.2.1:=by unfold aheadT;rw [if_pos hx]
  rw [hah] at hok
  obtain ⟨ih1,ih2⟩:=ih (a+(adv (turn rs) us:Int)) _ (fun x hx=>hok x (List.mem_cons_of_mem _ hx))
  have hn:nn (turn rs) us≠0:=fun h0=>by
   have:=hx0.1
   unfold tok at this
   rw [if_pos h0] at this
   cases this
  have hadv:adv (turn rs) us=nn (turn rs) us:=by unfold adv;omega
  obtain ⟨t,ht,et⟩:=anyIn_iff.1 (lngN_has (rs:=turn rs) (us:=us) us.length (by unfold nn at hn;omega))
  have hT:=turn_right hR.toSides
  have hI:(tok (turn rs) a us).2.2.1=t.2:=by
   unfold tok
   rw [if_neg hn]
   show outI (turn rs) (fnd (turn rs) (us.take (lngN (turn rs) us us.length)))=t.2
   rw [←et,outI_of hT ht]
  have hmem:=turn_mem t ht
  have hside:=hR.side _ hmem
  have hIl:0<t.2.length∧t.2.length≤8:=sideB_len hside.1
  rw [hI] at hx0 hok ih2
  rw [cat_cons,hI]
  generalize hB:cat (toksA (turn rs) (a+(adv (turn rs) us:Int)) (us.drop (adv (turn rs) us)))=B' at ih1 ih2 ⊢
  have hIne:t.2≠[]:=List.length_pos_iff.1 hIl.1
  have hno:∀r∈rs,r.1≠(t.2++B').take (t.2.length+1)∨B'=[]:=by
   intro r hr
   by_cases hB0:B'=[]
   ·exact .inr hB0
   ·left
    intro e
    have hus':us.drop (adv (turn rs) us)≠[]:=fun h0=>by rw [h0,toksA_nil] at hB;exact hB0 hB.symm
    obtain ⟨I2,rest2,e2,hI2,hj⟩:=ih2 hus'
    have:joinB rs t.2 I2=true:=by
     rw [joinB_iff]
     have hI2l:0<I2.length:=List.length_pos_iff.2 hI2
     have hrl:r.1.length=t.2.length+1:=by
      rw [e,e2];simp;omega
     refine ⟨hIne,r,hr,by omega,by simp;omega,?_⟩
     rw [hrl,e,e2,←List.append_assoc,List.take_append_of_le_length (by simp;omega)]
    rw [hj] at this;cases this
  have hnn:nn rs (t.2++B')=t.2.length:=by
   unfold nn
   refine lngN_eq (by simp) (.inr (anyIn_iff.2 ⟨(t.2,t.1),hmem,by simp⟩)) fun k hk hk2=>?_
   rw [Bool.eq_false_iff]
   intro hcn
   obtain ⟨r,hr,e⟩:=anyIn_iff.1 hcn
   have hB0:B'≠[]:=fun h0=>by rw [h0] at hk2;simp at hk2;omega
   have hrl:r.1.length=k:=by rw [e];simp;simp at hk2;omega
   rcases Nat.lt_or_ge (t.2.length+1) k with h1 | h1
   ·have hok2:=hc r hr (t.2.length+1) (by omega) (by omega)
    unfold okN at hok2
    have hne1:decide (t.2.length+1=1)=false:=by rw [decide_eq_false_iff_not];omega
    rw [hne1,Bool.false_and,Bool.or_false,List.any_eq_true] at hok2
    obtain ⟨r2,hr2,e2⟩:=hok2
    simp only [decide_eq_true_eq] at e2
    rcases hno r2 hr2 with h | h
    ·apply h
     rw [e2,e,List.take_take];congr 1;omega
    ·exact hB0 h
   ·have:k=t.2.length+1:=by omega
    subst this
    rcases hno r hr with h | h
    ·exact h e
    ·exact hB0 h
  refine ⟨fun b=>?_,fun _=>⟨t.2,B',rfl,hIne,hx0.2⟩⟩
  have hne2:t.2++B'≠[]:=by simp [hIne]
  rw [toksA_cons hne2,cat_cons]
  have hadv2:adv rs (t.2++B')=t.2.length:=by unfold adv;rw [hnn];omega
  have hout:(tok rs b (t.2++B')).2.2.1=t.1:=by
   unfold tok
   rw [hnn,if_neg (by omega)]
   show outI rs (fnd rs ((t.2++B').take t.2.length))=t.1
   rw [List.take_left]
   exact outI_of hR hmem
  rw [hadv2,hout,List.drop_left,ih1,hadv,et]
  exact List.take_append_drop _ _
end Go.AM.M
namespace Go.AM.M
open Go.AM
theorem cat_pos {rs:List Rule}:∀(us:List Int) (a b:Int),cat (toksA rs a us)=cat (toksA rs b us):=by
 intro us
 induction us using toks_ind (rs:=rs) with
 | h0=>intro a b;rfl
 | h1 us hne ih=>
  intro a b
  rw [toksA_cons hne,toksA_cons hne,cat_cons,cat_cons,ih _ (b+(adv rs us:Int))]
  congr 1
  unfold tok
  split <;> rfl
theorem toks_split {rs:List Rule} {z:Int} (hz:∀r∈rs,∀n,0<n→n<r.1.length→r.1[n]?≠some z) (Z:List Int):∀(us:List Int) (a b:Int),cat (toksA rs a (us++z :: Z))=cat (toksA rs a us)++cat (toksA rs b (z :: Z)):=by
 intro us
 induction us using toks_ind (rs:=rs) with
 | h0=>intro a b;rw [List.nil_append,toksA_nil];exact cat_pos _ _ _
 | h1 us hne ih=>
  intro a b
  have hl:0<us.length:=List.length_pos_iff.2 hne
  have hnn:nn rs (us++z :: Z)=nn rs us:=by
   unfold nn
   have hle:=lngN_le (rs:=rs) (us:=us) us.length
   have htk:(us++z :: Z).take (lngN rs us us.length)=us.take (lngN rs us us.length):=List.take_append_of_le_length hle
   refine lngN_eq (by simp;omega) ?_ fun k hk hk2=>?_
   ·by_cases h0:lngN rs us us.length=0
    ·exact .inl h0
    ·right
     rw [htk]
     exact lngN_has us.length (by omega)
   ·rw [Bool.eq_false_iff]
    intro hc
    rcases Nat.lt_or_ge us.length k with h | h
    ·obtain ⟨r,hr,e⟩:=anyIn_iff.1 hc
     have hrl:r.1.length=k:=by rw [e];simp at hk2 ⊢;omega
     refine hz r hr us.length hl (by omega) ?_
     rw [e,List.getElem?_take_of_lt h,List.getElem?_append_right (Nat.le_refl _)]
     simp
    ·have:=lngN_max (rs:=rs) (us:=us) (n:=k) (by omega) (by rw [List.take_append_of_le_length h] at hc;exact hc) us.length h
     omega
  have hadv:adv rs (us++z :: Z)=adv rs us:=by unfold adv;rw [hnn]
  have hle:=adv_le (rs:=rs) hne
  have htok:(tok rs a (us++z :: Z)).2.2.1=(tok rs a us).2.2.1:=by
   unfold tok
   rw [hnn,List.take_append_of_le_length (nn_le rs us)]
  rw [toksA_cons (by simp),toksA_cons hne,cat_cons,cat_cons,hadv,htok,List.drop_append_of_le_length hle,List.append_assoc]
  congr 1
  exact ih _ b
theorem toks_rule {rs:List Rule} (hR:Right rs) {r:Rule} (hr:r∈rs) (hm:∀q∈rs,r.1 <+: q.1→q.1.length≤r.1.length) (Z:List Int) (a:Int):cat (toksA rs a (r.1++Z))=r.2++cat (toksA rs 0 Z):=by
 have hI:=sideB_len (hR.side r hr).1
 have hne:r.1++Z≠[]:=by
  intro h
  have:=congrArg List.length h
  simp at this
  rw [this.1] at hI;simp at hI
 have hnn:nn rs (r.1++Z)=r.1.length:=by
  unfold nn
  refine lngN_eq (by simp) (.inr (anyIn_iff.2 ⟨r,hr,by simp⟩)) fun k hk hk2=>?_
  rw [Bool.eq_false_iff]
  intro hc
  obtain ⟨q,hq,e⟩:=anyIn_iff.1 hc
  have hql:q.1.length=k:=by rw [e];simp at hk2 ⊢;omega
  have hp:r.1=q.1.take r.1.length:=by
   rw [e,List.take_take,Nat.min_eq_left (by omega)];simp
  have:=hm q hq (by rw [hp];exact List.take_prefix _ _)
  omega
 have hadv:adv rs (r.1++Z)=r.1.length:=by unfold adv;omega
 rw [toksA_cons hne,cat_cons,hadv,List.drop_left,cat_pos Z _ 0]
 congr 1
 unfold tok
 rw [hnn,if_neg (by omega)]
 show outI rs (fnd rs ((r.1++Z).take r.1.length))=r.2
 rw [List.take_left]
 exact outI_of hR hr
theorem cat_ok {rs:List Rule}:∀(raw:List Tok) (ah:List Int),okT (joinF rs ah raw).1→cat (joinF rs ah raw).1=cat raw
 | [],_,_=>rfl
 | x :: raw,ah,hok=>by
  simp only [joinF] at hok ⊢
  rw [cat_cons,cat_cons,cat_ok raw _ (fun y hy=>hok y (List.mem_cons_of_mem _ hy))]
  have hx:(joinT rs ah x).2.2.2=0:=hok _ (by simp)
  congr 1
  unfold joinT at hx ⊢
  split
  ·rename_i h1;rw [if_pos h1] at hx;cases hx
  ·rfl
theorem part_ok {rs:List Rule} (hR:Right rs) (hc:closedP rs) {frm:Int} {us:List Int} (h:okT (part rs frm us)) (b:Int):cat (toksA rs b (cat (part rs frm us)))=us:=by
 have h2:=cat_ok _ _ h
 unfold part
 rw [h2]
 exact (both_in hR hc us frm [] h).1 b
def muF (p:List Int×Int) (us:List Int):List Int×Int:=us.foldl mu1 p
theorem muF_append (p:List Int×Int) (a b:List Int):muF p (a++b)=muF (muF p a) b:=by simp [muF]
theorem muU_muF (sc:Int) (us:List Int):muU sc us=muF ([],sc) us:=rfl
theorem muF_pre (p:List Int) (q:List Int) (sc:Int) (us:List Int):muF (p++q,sc) us=(p++(muF (q,sc) us).1,(muF (q,sc) us).2):=by
 induction us generalizing q sc with
 | nil=>rfl
 | cons u us ih=>
  have h:mu1 (p++q,sc) u=(p++(mu1 (q,sc) u).1,(mu1 (q,sc) u).2):=by
   unfold mu1
   split
   ·simp
   ·split <;> simp
  show muF (mu1 (p++q,sc) u) us=(p++(muF (mu1 (q,sc) u) us).1,(muF (mu1 (q,sc) u) us).2)
  rw [h]
  exact ih _ _
theorem mean_cat:∀(sc:Int) (ts:List Tok),(flat (meanT sc ts).1,(meanT sc ts).2)=muU sc (cat ts)
 | sc,[]=>rfl
 | sc,t :: ts=>by
  have ih:=mean_cat (muU sc t.2.2.1).2 ts
  rw [cat_cons,muU_muF,muF_append,←muU_muF]
  have e:muU sc t.2.2.1=((muU sc t.2.2.1).1++[],(muU sc t.2.2.1).2):=by simp
  rw [e,muF_pre,←muU_muF,←ih]
  simp [meanT,flat]
structure BK (rs:List Rule) (e:ES) (ss:List Int):Prop where
 sc:0≤e.sc∧e.sc<9
 J:okT e.out→∃pre,(∀Y,muF ([],0) (cat (toksA rs 0 (cat e.out++Y)))=muF (pre,e.sc) (cat (toksA rs 0 Y)))∧muF (pre,e.sc) e.us=(ss,e.sc)
theorem unit_mu {s sc:Int} (h0:97≤s) (h1:s≤8205) (h2:okS s=true→scrS s=sc) (p:List Int):mu1 (p,sc) (unitS s)=(p++[s],sc):=by
 cases hok:okS s with
 | true=>
  have hr:=okS_r hok
  have h2:=h2 hok
  have hu:unitS s=s % 128:=by unfold unitS;rw [hok];rfl
  rw [hu]
  unfold mu1
  rw [if_neg (by omega),if_neg (by omega)]
  have:w64 (w64 (2304+w64 (128*sc))+s % 128)=s:=by
   rw [←h2]
   unfold scrS
   rw [w64_id (n:=128*((s - 2304) / 128)) (by omega) (by omega),w64_id (n:=2304+128*((s - 2304) / 128)) (by omega) (by omega),w64_id (by omega) (by omega)]
   omega
  show (p++[w64 (w64 (2304+w64 (128*sc))+s % 128)],sc)=_
  rw [this]
 | false=>
  have hs:scalB s=true:=by unfold scalB;rw [decide_eq_true_eq];omega
  have hu:unitS s=8192+s:=by
   unfold unitS
   rw [hok,hs]
   show w64 (8192+s)=_
   exact w64_id (by omega) (by omega)
  rw [hu]
  unfold mu1
  rw [if_pos (by omega)]
  have:w64 (8192+s - 8192)=s:=by rw [w64_id (by omega) (by omega)];omega
  rw [this]
structure SwR (rs:List Rule):Prop where
 in_:∀r∈rs,∀n,0<n→n<r.1.length→r.1[n]?≠some 239
 two:∀r∈rs,r.1.length≤2
 sw:∀k,0≤k→k<9→([239,codeS k],[4096+k])∈rs
theorem BK.zero (rs:List Rule):BK rs es0 []:=⟨⟨Int.le_refl _,by decide⟩,fun _=>⟨[],fun Y=>rfl,rfl⟩⟩
theorem BK.step {rs:List Rule} (hR:Right rs) (hc:closedP rs) (hw:SwR rs) {e:ES} {ss:List Int} (h:BK rs e ss) (k s:Int) (h0:97≤s) (h1:s≤8205):BK rs (esStep rs k e s) (ss++[s]):=by
 unfold esStep
 split
 ·rename_i hcnd
  have h9:=scrS_r hcnd.1
  refine ⟨h9,fun hok=>?_⟩
  have hok':okT (e.out++part rs e.frm e.us++[swT k (codeS (scrS s))]):=hok
  have o1:okT e.out:=fun x hx=>hok' x (by simp [hx])
  have o2:okT (part rs e.frm e.us):=fun x hx=>hok' x (by simp [hx])
  obtain ⟨pre,j1,j2⟩:=h.J o1
  refine ⟨ss,fun Y=>?_,unit_mu h0 h1 (fun _=>rfl) ss⟩
  have hcat:cat (e.out++part rs e.frm e.us++[swT k (codeS (scrS s))])=cat e.out++(cat (part rs e.frm e.us)++[239,codeS (scrS s)]):=by
   rw [cat_append,cat_append,List.append_assoc];simp [cat,swT]
  show muF ([],0) (cat (toksA rs 0 (cat (e.out++part rs e.frm e.us++[swT k (codeS (scrS s))])++Y)))=_
  rw [hcat,List.append_assoc,j1,List.append_assoc]
  show muF (pre,e.sc) (cat (toksA rs 0 (cat (part rs e.frm e.us)++239 :: (codeS (scrS s) :: Y))))=_
  rw [toks_split hw.in_ (codeS (scrS s) :: Y) _ 0 0,part_ok hR hc o2,muF_append,j2]
  have:=toks_rule hR (hw.sw _ h9.1 h9.2) (fun q hq _=>hw.two q hq) Y 0
  rw [show (239:Int) :: (codeS (scrS s) :: Y)=[239,codeS (scrS s)]++Y from rfl,this,muF_append]
  congr 1
  show mu1 (ss,e.sc) (4096+scrS s)=_
  unfold mu1
  rw [if_neg (by omega),if_pos (by omega)]
  have:w64 (4096+scrS s - 4096)=scrS s:=by rw [w64_id (by omega) (by omega)];omega
  rw [this]
 ·rename_i hcnd
  refine ⟨h.sc,fun hok=>?_⟩
  obtain ⟨pre,j1,j2⟩:=h.J hok
  refine ⟨pre,j1,?_⟩
  show muF (pre,e.sc) (e.us++[unitS s])=_
  rw [muF_append,j2]
  refine unit_mu h0 h1 (fun ho=>?_) ss
  exact Classical.byContradiction fun hn=>hcnd ⟨ho,hn⟩
theorem BK.run {rs:List Rule} (hR:Right rs) (hc:closedP rs) (hw:SwR rs) (ss:List Int) (hu:∀s∈ss,97≤s∧s≤8205):BK rs (esRun rs 0 es0 ss) ss:=by
 induction ss using snocInd with
 | nil=>exact BK.zero rs
 | snoc l a ih=>
  rw [esRun_snoc]
  have:=hu a (by simp)
  exact (ih fun s hs=>hu s (by simp [hs])).step hR hc hw _ _ this.1 this.2
def swRB (rs:List Rule):Bool:=(rs.all fun r=>decide (r.1.length≤2) && !(r.1.tail.contains 239)) && (List.range 9).all fun k=>rs.any fun r=>decide (r=([239,codeS (k:Nat)],[4096+((k:Nat):Int)]))
theorem swR_of {rs:List Rule} (h:swRB rs=true):SwR rs:=by
 simp only [swRB,Bool.and_eq_true,List.all_eq_true,decide_eq_true_eq,Bool.not_eq_true',List.mem_range,List.any_eq_true] at h
 refine ⟨fun r hr n h0 h1 hn=>?_,fun r hr=>(h.1 r hr).1,fun k h0 h9=>?_⟩
 ·have h2:=(h.1 r hr).2
  cases hl:r.1 with
  | nil=>rw [hl] at h1;simp at h1
  | cons x xs=>
   rw [hl] at hn h2
   cases n with
   | zero=>omega
   | succ n=>
    rw [List.getElem?_cons_succ] at hn
    have:=List.mem_of_getElem? hn
    simp only [List.tail_cons] at h2
    rw [List.contains_iff_mem.2 this] at h2
    cases h2
 ·obtain ⟨r,hr,e⟩:=h.2 k.toNat (by omega)
  have hk:((k.toNat:Nat):Int)=k:=by omega
  rw [hk] at e
  rw [←e];exact hr
theorem isR_sw:SwR isR:=swR_of (by kernel_rfl)
structure Isc (rs:List Rule):Prop where
 right:Right rs
 closed:closedP rs
 max2:maxIn rs=2
 max2w:maxIn (turn rs)=2
 sw:SwR rs
theorem isc_ok:Isc isR:=⟨isR_right,isR_closed,isR_max,isW_max,isR_sw⟩
inductive PD where
 | tab (rs:List Rule) (w:List Int) (a:Int)
 | utf (w:List Int) (a:Int)
 | isc (rs:List Rule) (sc:Int) (w:List Int) (a:Int)
def PD.put (u:Int):PD→List Tok×PD
 | .tab rs w a=>((takeF rs false (w.length+1) a (w++[u])).1,.tab rs (takeF rs false (w.length+1) a (w++[u])).2.1 (takeF rs false (w.length+1) a (w++[u])).2.2)
 | .utf w a=>((takeU (w.length+1) a (w++[w8 u])).1,.utf (takeU (w.length+1) a (w++[w8 u])).2.1 (takeU (w.length+1) a (w++[w8 u])).2.2)
 | .isc rs sc w a=>((meanT sc (takeF rs false (w.length+1) a (w++[u])).1).1,.isc rs (meanT sc (takeF rs false (w.length+1) a (w++[u])).1).2 (takeF rs false (w.length+1) a (w++[u])).2.1 (takeF rs false (w.length+1) a (w++[u])).2.2)
def PD.fin:PD→List Tok×PD
 | .tab rs w a=>(toksA rs a w,.tab rs [] (a+(w.length:Int)))
 | .utf w a=>(utoksA a w,.utf [] (a+(w.length:Int)))
 | .isc rs sc w a=>((meanT sc (toksA rs a w)).1,.isc rs (meanT sc (toksA rs a w)).2 [] (a+(w.length:Int)))
def PD.held:PD→Nat
 | .tab _ w _=>w.length
 | .utf w _=>w.length
 | .isc _ _ w _=>w.length
abbrev DSt:=(List ND×List RL×List Int×Int×Int)⊕((List Int×Int)⊕(List ND×List RL×List Int×Int×Int×Int))
def PD.Ok (k:Nat):PD→Prop
 | .tab rs w a=>Tab rs∧(w=[]∨openB rs w=true)∧0≤a∧a+(w.length:Int)=(k:Int)
 | .utf w a=>isU8 w∧(w=[]∨(oneP w).2.2=2)∧0≤a∧a+(w.length:Int)=(k:Int)
 | .isc rs _ w a=>Isc rs∧(w=[]∨openB rs w=true)∧0≤a∧a+(w.length:Int)=(k:Int)
def PD.Rep:PD→DSt→Prop
 | .tab rs w a,x=>∃N st,x=.inl (N,outsOf rs,w,a,st)∧TrieOk N rs
 | .utf w a,x=>x=.inr (.inl (w,a))
 | .isc rs sc w a,x=>∃N st,x=.inr (.inr (N,outsOf rs,w,a,st,sc))∧TrieOk N rs
theorem PD.held3 {k:Nat} {p:PD} (h:p.Ok k):p.held≤3:=by
 cases p with
 | tab rs w a=>
  obtain ⟨h1,h2,_⟩:=h
  have h3:=open_max h2
  have h4:=maxIn3 h1
  show w.length≤3
  omega
 | utf w a=>
  obtain ⟨h1,h2,_⟩:=h
  show w.length≤3
  rcases h2 with rfl | h2
  ·simp
  ·by_cases h0:w=[]
   ·subst h0;simp
   ·exact ((oneP_len h0).2.2.2.1 h2).2.1
 | isc rs sc w a=>
  obtain ⟨h1,h2,_⟩:=h
  have h3:=open_max h2
  have h4:=h1.max2
  show w.length≤3
  omega
theorem PD.put_few {k:Nat} {p:PD} (h:p.Ok k) (u:Int):fewO (p.put u).1∧(p.put u).1.length+(p.put u).2.held≤p.held+1:=by
 cases p with
 | tab rs w a=>
  have hP:=takeF_put (rs:=rs) (w.length+1) a (w++[u]) (by simp)
  refine ⟨takeF_few h.1.right.toSides false _ _ _,?_⟩
  have:=hP.len
  simp only [List.length_append,List.length_singleton] at this
  exact this
 | utf w a=>
  have hP:=takeU_put (w.length+1) a (w++[w8 u]) (by simp)
  refine ⟨hP.few,?_⟩
  have:=hP.len
  simp only [List.length_append,List.length_singleton] at this
  exact this
 | isc rs sc w a=>
  have hP:=takeF_put (rs:=rs) (w.length+1) a (w++[u]) (by simp)
  refine ⟨meanT_few _ _ (takeF_few h.1.right.toSides false _ _ _),?_⟩
  have:=hP.len
  simp only [List.length_append,List.length_singleton] at this
  show (meanT sc _).1.length+_≤_
  rw [meanT_len]
  exact this
theorem PD.fin_few {k:Nat} {p:PD} (h:p.Ok k):fewO p.fin.1∧p.fin.1.length≤p.held:=by
 cases p with
 | tab rs w a=>exact ⟨toksA_few h.1.right.toSides w a,toksA_len w a⟩
 | utf w a=>exact ⟨utoksA_few w a,utoksA_len w a⟩
 | isc rs sc w a=>exact ⟨meanT_few _ _ (toksA_few h.1.right.toSides w a),by show (meanT sc _).1.length≤_;rw [meanT_len];exact toksA_len w a⟩
theorem isU8_suf {l m:List Int} (h:isU8 m) (hs:l <:+ m):isU8 l:=fun x hx=>h x (hs.subset hx)
theorem PD.put_ok {k:Nat} {p:PD} (h:p.Ok k) (u:Int):(p.put u).2.Ok (k+1):=by
 cases p with
 | tab rs w a=>
  have hP:=takeF_put (rs:=rs) (w.length+1) a (w++[u]) (by simp)
  have h3:=hP.at'
  have h4:=hP.suf.length_le
  obtain ⟨h1,h2,h5,h6⟩:=h
  simp only [List.length_append,List.length_singleton] at h3 h4
  exact ⟨h1,hP.op,by omega,by omega⟩
 | utf w a=>
  have hP:=takeU_put (w.length+1) a (w++[w8 u]) (by simp)
  have h3:=hP.at'
  have h4:=hP.suf.length_le
  obtain ⟨h1,h2,h5,h6⟩:=h
  simp only [List.length_append,List.length_singleton] at h3 h4
  refine ⟨isU8_suf ?_ hP.suf,hP.op,by omega,by omega⟩
  intro x hx
  rw [List.mem_append,List.mem_singleton] at hx
  rcases hx with hx | rfl
  ·exact h1 x hx
  ·exact w8_r u
 | isc rs sc w a=>
  have hP:=takeF_put (rs:=rs) (w.length+1) a (w++[u]) (by simp)
  have h3:=hP.at'
  have h4:=hP.suf.length_le
  obtain ⟨h1,h2,h5,h6⟩:=h
  simp only [List.length_append,List.length_singleton] at h3 h4
  exact ⟨h1,hP.op,by omega,by omega⟩
theorem PD.fin_ok {k:Nat} {p:PD} (h:p.Ok k):p.fin.2.Ok k∧p.fin.2.held=0:=by
 cases p with
 | tab rs w a=>obtain ⟨h1,h2,h5,h6⟩:=h;exact ⟨⟨h1,.inl rfl,by omega,by simp only [List.length_nil];omega⟩,rfl⟩
 | utf w a=>obtain ⟨h1,h2,h5,h6⟩:=h;exact ⟨⟨(fun x hx=>by cases hx),.inl rfl,by omega,by simp only [List.length_nil];omega⟩,rfl⟩
 | isc rs sc w a=>obtain ⟨h1,h2,h5,h6⟩:=h;exact ⟨⟨h1,.inl rfl,by omega,by simp only [List.length_nil];omega⟩,rfl⟩
theorem decPut_eq {k:Nat} {p:PD} {x:DSt} (h:p.Ok k) (hr:p.Rep x) (hk:k≤1000000000) (u:Int):∃x',ko_decPut FU64 x u=some ((p.put u).1,x')∧(p.put u).2.Rep x':=by
 have h3:=PD.held3 h
 cases p with
 | tab rs w a=>
  obtain ⟨N,st,rfl,hT⟩:=hr
  obtain ⟨h1,h2,h5,h6⟩:=h
  have h3:w.length≤3:=h3
  obtain ⟨r,st',e1,e2⟩:=match_put_eq fu64 h1.right.toSides hT (u:=u) (a:=a) (st:=st) (w:=w) (by omega) (by omega) (by omega)
  subst e2
  refine ⟨_,?_,N,st',rfl,hT⟩
  unfold ko_decPut
  dsimp only
  rw [e1,bind_some']
  rfl
 | utf w a=>
  obtain rfl:=hr
  obtain ⟨h1,h2,h5,h6⟩:=h
  have h3:w.length≤3:=h3
  obtain ⟨r,e1,e2,_⟩:=bput_eq fu64 h1 (u:=u) (a:=a) (by omega) (by omega) (by omega)
  subst e2
  refine ⟨_,?_,rfl⟩
  unfold ko_decPut
  dsimp only
  rw [e1,bind_some']
  rfl
 | isc rs sc w a=>
  obtain ⟨N,st,rfl,hT⟩:=hr
  obtain ⟨h1,h2,h5,h6⟩:=h
  have h3:w.length≤3:=h3
  obtain ⟨r,st',e1,e2⟩:=match_put_eq fu64 h1.right.toSides hT (u:=u) (a:=a) (st:=st) (w:=w) (by omega) (by omega) (by omega)
  have hP:=takeF_put (rs:=rs) (w.length+1) a (w++[u]) (by simp)
  have hF:=takeF_few h1.right.toSides false (w.length+1) a (w++[u])
  rw [←e2] at hP hF
  have h4:=hP.len
  simp only [List.length_append,List.length_singleton] at h4
  have e3:=mean_eq (ts:=r.1) (sc:=sc) (N:=N) (R:=outsOf rs) (w:=r.2.1) (a:=r.2.2) (st:=st') (by omega) hF
  subst e2
  refine ⟨_,?_,N,st',rfl,hT⟩
  unfold ko_decPut iscii_Decoder_Put
  dsimp only
  rw [e1,bind_some']
  dsimp only
  rw [e3,bind_some',bind_some']
  rfl
theorem decEnd_eq {k:Nat} {p:PD} {x:DSt} (h:p.Ok k) (hr:p.Rep x) (hk:k≤1000000000):∃x',ko_decEnd FU64 x ()=some (p.fin.1,x')∧p.fin.2.Rep x':=by
 have h3:=PD.held3 h
 cases p with
 | tab rs w a=>
  obtain ⟨N,st,rfl,hT⟩:=hr
  obtain ⟨h1,h2,h5,h6⟩:=h
  have h3:w.length≤3:=h3
  obtain ⟨st',e1⟩:=match_end_eq fu64 h1.right.toSides hT (a:=a) (st:=st) (w:=w) (by omega) (by omega) (by omega)
  refine ⟨_,?_,N,st',rfl,hT⟩
  unfold ko_decEnd
  dsimp only
  rw [e1,bind_some']
  rfl
 | utf w a=>
  obtain rfl:=hr
  obtain ⟨h1,h2,h5,h6⟩:=h
  refine ⟨_,?_,rfl⟩
  unfold ko_decEnd
  dsimp only
  rw [bend_eq h2 (by omega) (by omega),bind_some']
  rfl
 | isc rs sc w a=>
  obtain ⟨N,st,rfl,hT⟩:=hr
  obtain ⟨h1,h2,h5,h6⟩:=h
  have h3:w.length≤3:=h3
  obtain ⟨st',e1⟩:=match_end_eq fu64 h1.right.toSides hT (a:=a) (st:=st) (w:=w) (by omega) (by omega) (by omega)
  have hF:=toksA_few h1.right.toSides w a
  have htl:=toksA_len (rs:=rs) w a
  have e3:=mean_eq (ts:=toksA rs a w) (sc:=sc) (N:=N) (R:=outsOf rs) (w:=[]) (a:=a+(w.length:Int)) (st:=st') (by omega) hF
  refine ⟨_,?_,N,st',rfl,hT⟩
  unfold ko_decEnd iscii_Decoder_End
  dsimp only
  rw [e1,bind_some']
  dsimp only
  rw [e3,bind_some',bind_some']
  rfl
def PD.run (p:PD):List Int→List Tok×PD
 | []=>([],p)
 | u :: us=>((p.put u).1++(PD.run (p.put u).2 us).1,(PD.run (p.put u).2 us).2)
def PD.all (p:PD) (us:List Int):List Tok:=(p.run us).1++(p.run us).2.fin.1
theorem PD.run_ok:∀(us:List Int) {k:Nat} {p:PD},p.Ok k→(p.run us).2.Ok (k+us.length)
 | [],_,_,h=>h
 | u :: us,k,p,h=>by
  have:=PD.run_ok us (PD.put_ok h u)
  simp only [PD.run,List.length_cons]
  rw [show k+(us.length+1)=k+1+us.length by omega]
  exact this
theorem PD.run_few:∀(us:List Int) {k:Nat} {p:PD},p.Ok k→fewO (p.run us).1∧(p.run us).1.length+(p.run us).2.held≤p.held+us.length
 | [],_,_,h=>⟨(fun x hx=>by cases hx),by simp [PD.run]⟩
 | u :: us,k,p,h=>by
  obtain ⟨h1,h2⟩:=PD.put_few h u
  obtain ⟨h3,h4⟩:=PD.run_few us (PD.put_ok h u)
  simp only [PD.run]
  exact ⟨fewO_append h1 h3,by simp only [List.length_append,List.length_cons];omega⟩
theorem PD.all_few {us:List Int} {k:Nat} {p:PD} (h:p.Ok k):fewO (p.all us)∧(p.all us).length≤p.held+us.length:=by
 obtain ⟨h1,h2⟩:=PD.run_few us h
 obtain ⟨h3,h4⟩:=PD.fin_few (PD.run_ok us h)
 exact ⟨fewO_append h1 h3,by unfold PD.all;simp only [List.length_append];omega⟩
theorem PD.all_tab {rs:List Rule}:∀(us w:List Int) (a:Int),(PD.tab rs w a).all us=toksA rs a (w++us)
 | [],w,a=>by simp [PD.all,PD.run,PD.fin]
 | u :: us,w,a=>by
  have ih:=PD.all_tab (rs:=rs) us (takeF rs false (w.length+1) a (w++[u])).2.1 (takeF rs false (w.length+1) a (w++[u])).2.2
  have hP:=takeF_put (rs:=rs) (w.length+1) a (w++[u]) (by simp)
  have:=hP.all us
  rw [List.append_assoc,List.singleton_append] at this
  rw [this,←ih]
  simp only [PD.all,PD.run,PD.put,List.append_assoc]
theorem PD.all_utf:∀(us w:List Int) (a:Int),(PD.utf w a).all us=utoksA a (w++us.map w8)
 | [],w,a=>by simp [PD.all,PD.run,PD.fin]
 | u :: us,w,a=>by
  have ih:=PD.all_utf us (takeU (w.length+1) a (w++[w8 u])).2.1 (takeU (w.length+1) a (w++[w8 u])).2.2
  have hP:=takeU_put (w.length+1) a (w++[w8 u]) (by simp)
  have:=hP.all (us.map w8)
  rw [List.append_assoc,List.singleton_append] at this
  rw [List.map_cons,this,←ih]
  simp only [PD.all,PD.run,PD.put,List.append_assoc]
theorem PD.all_isc {rs:List Rule}:∀(us w:List Int) (a sc:Int),(PD.isc rs sc w a).all us=(meanT sc (toksA rs a (w++us))).1
 | [],w,a,sc=>by simp [PD.all,PD.run,PD.fin]
 | u :: us,w,a,sc=>by
  have ih:=PD.all_isc (rs:=rs) us (takeF rs false (w.length+1) a (w++[u])).2.1 (takeF rs false (w.length+1) a (w++[u])).2.2 (meanT sc (takeF rs false (w.length+1) a (w++[u])).1).2
  have hP:=takeF_put (rs:=rs) (w.length+1) a (w++[u]) (by simp)
  have:=hP.all us
  rw [List.append_assoc,List.singleton_append] at this
  rw [this,meanT_append,←ih]
  simp only [PD.all,PD.run,PD.put,List.append_assoc]
inductive PE where
 | tab (rs:List Rule) (ah w:List Int) (a:Int)
 | utf (a:Int)
 | isc (rs:List Rule) (sc:Int) (ah w:List Int) (a:Int)
def PE.putT (rs:List Rule) (ah w:List Int) (a u:Int):List Tok×(List Int×List Int×Int):=
 ((joinF rs ah (takeF (turn rs) false (w.length+1) a (w++[u])).1).1,(joinF rs ah (takeF (turn rs) false (w.length+1) a (w++[u])).1).2,(takeF (turn rs) false (w.length+1) a (w++[u])).2.1,(takeF (turn rs) false (w.length+1) a (w++[u])).2.2)
def PE.put (u:Int):PE→List Tok×PE
 | .tab rs ah w a=>((PE.putT rs ah w a u).1,.tab rs (PE.putT rs ah w a u).2.1 (PE.putT rs ah w a u).2.2.1 (PE.putT rs ah w a u).2.2.2)
 | .utf a=>([stok a u],.utf (a+1))
 | .isc rs sc ah w a=>if okS u=true∧scrS u≠sc then
   ((joinF rs ah (toksA (turn rs) a w)).1++[swT (a+(w.length:Int)) (codeS (scrS u))]++(PE.putT rs [] [] (a+(w.length:Int)) (unitS u)).1,
    .isc rs (scrS u) (PE.putT rs [] [] (a+(w.length:Int)) (unitS u)).2.1 (PE.putT rs [] [] (a+(w.length:Int)) (unitS u)).2.2.1 (PE.putT rs [] [] (a+(w.length:Int)) (unitS u)).2.2.2)
  else ((PE.putT rs ah w a (unitS u)).1,.isc rs sc (PE.putT rs ah w a (unitS u)).2.1 (PE.putT rs ah w a (unitS u)).2.2.1 (PE.putT rs ah w a (unitS u)).2.2.2)
def PE.fin:PE→List Tok×PE
 | .tab rs ah w a=>((joinF rs ah (toksA (turn rs) a w)).1,.tab rs (joinF rs ah (toksA (turn rs) a w)).2 [] (a+(w.length:Int)))
 | .utf a=>([],.utf a)
 | .isc rs sc ah w a=>((joinF rs ah (toksA (turn rs) a w)).1,.isc rs sc (joinF rs ah (toksA (turn rs) a w)).2 [] (a+(w.length:Int)))
def PE.held:PE→Nat
 | .tab _ _ w _=>w.length
 | .utf _=>0
 | .isc _ _ _ w _=>w.length
abbrev ESt:=(List ND×List RL×List Int×Int×Int×Int×Int×List ND×List RL×List ND×List RL×List Int)⊕(Int⊕(List ND×List RL×List Int×Int×Int×Int×Int×List ND×List RL×List ND×List RL×List Int×Int×Int×Int))
def PE.OkT (k:Nat) (rs:List Rule) (ah w:List Int) (a:Int):Prop:=(w=[]∨openB (turn rs) w=true)∧0≤a∧a+(w.length:Int)=(k:Int)∧ah.length≤8
def PE.Ok (k:Nat):PE→Prop
 | .tab rs ah w a=>Tab rs∧PE.OkT k rs ah w a
 | .utf a=>a=(k:Int)
 | .isc rs sc ah w a=>Isc rs∧PE.OkT k rs ah w a∧(0≤sc∧sc<9)
def PE.Rep (k:Nat):PE→ESt→Prop
 | .tab rs ah w a,x=>∃N3 N1 N2 R1 R2 st i o,x=.inl (N3,outsOf (turn rs),w,a,st,i,o,N1,R1,N2,R2,ah)∧TrieOk N1 rs∧TrieOk N3 (turn rs)
 | .utf a,x=>x=.inr (.inl a)
 | .isc rs sc ah w a,x=>∃N3 N1 N2 R1 R2 st i o b,x=.inr (.inr (N3,outsOf (turn rs),w,a,st,i,o,N1,R1,N2,R2,ah,sc,(k:Int),b))∧TrieOk N1 rs∧TrieOk N3 (turn rs)
theorem OkT.w3 {k:Nat} {rs:List Rule} {ah w:List Int} {a:Int} (h:PE.OkT k rs ah w a) (hm:maxIn (turn rs)≤3):w.length≤3:=by
 have:=open_max h.1
 omega
theorem OkT.put {k:Nat} {rs:List Rule} {ah w:List Int} {a:Int} (h:PE.OkT k rs ah w a) (hS:Sides rs) (u:Int) :
  PE.OkT (k+1) rs (PE.putT rs ah w a u).2.1 (PE.putT rs ah w a u).2.2.1 (PE.putT rs ah w a u).2.2.2∧fewO (PE.putT rs ah w a u).1∧(PE.putT rs ah w a u).1.length+(PE.putT rs ah w a u).2.2.1.length≤w.length+1:=by
 have hW:=(turn_right hS).toSides
 have hP:=takeF_put (rs:=turn rs) (w.length+1) a (w++[u]) (by simp)
 have hF:=takeF_few hW false (w.length+1) a (w++[u])
 have h3:=hP.at'
 have h4:=hP.len
 have h5:=hP.suf.length_le
 obtain ⟨h1,h2,h6,h7⟩:=h
 have hj:=joinF_few (rs:=rs) _ ah hF h7
 simp only [List.length_append,List.length_singleton] at h3 h4 h5
 refine ⟨⟨hP.op,?_,?_,hj.2⟩,hj.1,?_⟩
 ·show 0≤(takeF (turn rs) false (w.length+1) a (w++[u])).2.2
  omega
 ·show (takeF (turn rs) false (w.length+1) a (w++[u])).2.2+((takeF (turn rs) false (w.length+1) a (w++[u])).2.1.length:Int)=_
  omega
 ·show (joinF rs ah _).1.length+(takeF (turn rs) false (w.length+1) a (w++[u])).2.1.length≤_
  rw [joinF_len];exact h4
theorem OkT.fin {k:Nat} {rs:List Rule} {ah w:List Int} {a:Int} (h:PE.OkT k rs ah w a) (hS:Sides rs) :
  PE.OkT k rs (joinF rs ah (toksA (turn rs) a w)).2 [] (a+(w.length:Int))∧fewO (joinF rs ah (toksA (turn rs) a w)).1∧(joinF rs ah (toksA (turn rs) a w)).1.length≤w.length:=by
 have hW:=(turn_right hS).toSides
 obtain ⟨h1,h2,h6,h7⟩:=h
 have hj:=joinF_few (rs:=rs) _ ah (toksA_few hW w a) h7
 exact ⟨⟨.inl rfl,by omega,by simp only [List.length_nil];omega,hj.2⟩,hj.1,by rw [joinF_len];exact toksA_len w a⟩
theorem OkT.zero {k:Nat} {rs:List Rule}:PE.OkT k rs [] [] (k:Int):=⟨.inl rfl,by omega,by simp,by simp⟩
theorem PE.held3 {k:Nat} {p:PE} (h:p.Ok k):p.held≤3:=by
 cases p with
 | tab rs ah w a=>exact OkT.w3 h.2 (maxTurn3 h.1)
 | utf a=>exact Nat.zero_le _
 | isc rs sc ah w a=>exact OkT.w3 h.2.1 (by have:=h.1.max2w;omega)
theorem PE.at_k {k:Nat} {rs:List Rule} {ah w:List Int} {a:Int} (h:PE.OkT k rs ah w a):a+(w.length:Int)=(k:Int):=h.2.2.1
theorem swT_few (k c:Int):fewO [swT k c]:=fun x hx=>by
 simp only [List.mem_singleton] at hx
 subst hx
 simp [swT]
theorem PE.put_ok {k:Nat} {p:PE} (h:p.Ok k) (u:Int):(p.put u).2.Ok (k+1)∧fewO (p.put u).1∧(p.put u).1.length+(p.put u).2.held≤p.held+2:=by
 cases p with
 | tab rs ah w a=>
  obtain ⟨h1,h2,h3⟩:=OkT.put h.2 h.1.right.toSides u
  exact ⟨⟨h.1,h1⟩,h2,by show (PE.putT rs ah w a u).1.length+(PE.putT rs ah w a u).2.2.1.length≤w.length+2;omega⟩
 | utf a=>
  have h:a=(k:Int):=h
  refine ⟨by show a+1=((k+1:Nat):Int);omega,fun x hx=>?_,by simp [PE.put,PE.held]⟩
  have hx:x∈[stok a u]:=hx
  simp only [List.mem_singleton] at hx
  subst hx
  unfold stok
  dsimp only
  split
  ·have:=(u8_len (s:=u)).2;omega
  ·simp
 | isc rs sc ah w a=>
  obtain ⟨hI,hT,hs⟩:=h
  have hS:=hI.right.toSides
  by_cases hc:okS u=true∧scrS u≠sc
  ·have e:PE.put u (.isc rs sc ah w a)=_:=if_pos hc
   rw [e]
   obtain ⟨f1,f2,f3⟩:=OkT.fin hT hS
   rw [PE.at_k hT]
   obtain ⟨h1,h2,h3⟩:=OkT.put (OkT.zero (k:=k) (rs:=rs)) hS (unitS u)
   refine ⟨⟨hI,h1,scrS_r hc.1⟩,fewO_append (fewO_append f2 (swT_few _ _)) h2,?_⟩
   show ((joinF rs ah (toksA (turn rs) a w)).1++[swT (k:Int) (codeS (scrS u))]++(PE.putT rs [] [] (k:Int) (unitS u)).1).length+(PE.putT rs [] [] (k:Int) (unitS u)).2.2.1.length≤w.length+2
   simp only [List.length_nil] at h3
   simp only [List.length_append,List.length_singleton]
   omega
  ·have e:PE.put u (.isc rs sc ah w a)=_:=if_neg hc
   rw [e]
   obtain ⟨h1,h2,h3⟩:=OkT.put hT hS (unitS u)
   exact ⟨⟨hI,h1,hs⟩,h2,by show (PE.putT rs ah w a (unitS u)).1.length+(PE.putT rs ah w a (unitS u)).2.2.1.length≤w.length+2;omega⟩
theorem PE.fin_ok {k:Nat} {p:PE} (h:p.Ok k):p.fin.2.Ok k∧p.fin.2.held=0∧fewO p.fin.1∧p.fin.1.length≤p.held:=by
 cases p with
 | tab rs ah w a=>
  obtain ⟨f1,f2,f3⟩:=OkT.fin h.2 h.1.right.toSides
  exact ⟨⟨h.1,f1⟩,rfl,f2,f3⟩
 | utf a=>exact ⟨h,rfl,(fun x hx=>by cases hx),by simp [PE.fin]⟩
 | isc rs sc ah w a=>
  obtain ⟨hI,hT,hs⟩:=h
  obtain ⟨f1,f2,f3⟩:=OkT.fin hT hI.right.toSides
  exact ⟨⟨hI,f1,hs⟩,rfl,f2,f3⟩
theorem encPut_eq {k:Nat} {p:PE} {x:ESt} (h:p.Ok k) (hr:p.Rep k x) (hk:k≤1000000000) (u:Int):∃x',ko_encPut FU64 x u=some ((p.put u).1,x')∧(p.put u).2.Rep (k+1) x':=by
 have h3:=PE.held3 h
 cases p with
 | tab rs ah w a=>
  obtain ⟨N3,N1,N2,R1,R2,st,i,o,rfl,t1,t3⟩:=hr
  obtain ⟨hT,h2,h5,h6,h7⟩:=h
  have h3:w.length≤3:=h3
  have hS:=hT.right.toSides
  obtain ⟨r,st',e1,e2⟩:=enc_put_eq fu64 hS (turn_right hS).toSides t1 t3 (i:=i) (o:=o) (N2:=N2) (R1:=R1) (R2:=R2) (u:=u) (a:=a) (st:=st) (ahead:=ah) (w:=w) (by omega) (by omega) (by omega) h7
  subst e2
  refine ⟨_,?_,N3,N1,N2,R1,R2,st',i,o,rfl,t1,t3⟩
  unfold ko_encPut
  dsimp only
  rw [e1,bind_some']
  rfl
 | utf a=>
  obtain rfl:=hr
  have h:a=(k:Int):=h
  refine ⟨_,?_,rfl⟩
  unfold ko_encPut
  dsimp only
  rw [sput_eq fu64 (by omega) (by omega),bind_some']
  rfl
 | isc rs sc ah w a=>
  obtain ⟨N3,N1,N2,R1,R2,st,i,o,b,rfl,t1,t3⟩:=hr
  obtain ⟨hI,⟨h2,h5,h6,h7⟩,hsc9⟩:=h
  have h3:w.length≤3:=h3
  have hS:=hI.right.toSides
  have hW:=(turn_right hS).toSides
  have hw1:w64 ((k:Int)+1)=((k+1:Nat):Int):=w64_succ (Nat.lt_succ_self k) (by omega)
  have fin:∀{new:List Tok} {sc':Int} {ah' w':List Int} {a' st':Int},iscii_Encoder_Put FU64 (u,sc,(k:Int),b,i,o,N1,R1,N2,R2,ah,N3,outsOf (turn rs),w,a,st)=some (new,sc',((k+1:Nat):Int),b,i,o,N1,R1,N2,R2,ah',N3,outsOf (turn rs),w',a',st')→
    (PE.isc rs sc ah w a).put u=(new,.isc rs sc' ah' w' a')→∃x',ko_encPut FU64 (.inr (.inr (N3,outsOf (turn rs),w,a,st,i,o,N1,R1,N2,R2,ah,sc,(k:Int),b))) u=some (((PE.isc rs sc ah w a).put u).1,x')∧((PE.isc rs sc ah w a).put u).2.Rep (k+1) x':=by
   intro new sc' ah' w' a' st' he hp
   rw [hp]
   refine ⟨_,?_,N3,N1,N2,R1,R2,st',i,o,b,rfl,t1,t3⟩
   unfold ko_encPut
   dsimp only
   rw [he,bind_some']
  have key:∀v,v=unitS u→∃st',machine_Encoder_Put FU64 (v,i,o,N1,R1,N2,R2,ah,N3,outsOf (turn rs),w,a,st)=some ((PE.putT rs ah w a (unitS u)).1,i,o,N1,R1,N2,R2,(PE.putT rs ah w a (unitS u)).2.1,N3,outsOf (turn rs),(PE.putT rs ah w a (unitS u)).2.2.1,(PE.putT rs ah w a (unitS u)).2.2.2,st')∧(PE.putT rs ah w a (unitS u)).1.length≤1000000:=by
   intro v hv
   subst hv
   obtain ⟨r,st',e1,e2⟩:=enc_put_eq fu64 hS hW t1 t3 (i:=i) (o:=o) (N2:=N2) (R1:=R1) (R2:=R2) (u:=unitS u) (a:=a) (st:=st) (ahead:=ah) (w:=w) (by omega) (by omega) (by omega) h7
   subst e2
   have:=(OkT.put (k:=k) ⟨h2,h5,h6,h7⟩ hS (unitS u)).2.2
   exact ⟨st',e1,by omega⟩
  have same:¬(okS u=true∧scrS u≠sc)→(PE.isc rs sc ah w a).put u=((PE.putT rs ah w a (unitS u)).1,.isc rs sc (PE.putT rs ah w a (unitS u)).2.1 (PE.putT rs ah w a (unitS u)).2.2.1 (PE.putT rs ah w a (unitS u)).2.2.2):=fun hn=>if_neg hn
  cases hok:okS u with
  | false=>
   cases hsc:scalB u with
   | false=>
    obtain ⟨st',e1,hl⟩:=key (-1) (by unfold unitS;rw [hok,hsc];rfl)
    refine fin (st':=st') ?_ (same (by rw [hok];simp))
    unfold iscii_Encoder_Put
    dsimp only
    simp only [indic_Of_eq,utf_Scalar_eq,bind_some',hok,hsc,Bool.false_eq_true,if_false,cond_false,Bool.not_false,cond_true,e1,List.length_nil,fit48 (show 0≤1000000 by omega) hl,List.nil_append,hw1]
   | true=>
    obtain ⟨st',e1,hl⟩:=key (w64 (8192+u)) (by unfold unitS;rw [hok,hsc];rfl)
    refine fin (st':=st') ?_ (same (by rw [hok];simp))
    unfold iscii_Encoder_Put
    dsimp only
    simp only [indic_Of_eq,utf_Scalar_eq,bind_some',hok,hsc,Bool.false_eq_true,if_false,Bool.not_true,cond_false,Bool.not_false,cond_true,e1,List.length_nil,fit48 (show 0≤1000000 by omega) hl,List.nil_append,hw1]
  | true=>
   have hsc:=okS_scal hok
   have hu:u % 128=unitS u:=by unfold unitS;rw [hok];rfl
   by_cases hn:scrS u=sc
   ·obtain ⟨st',e1,hl⟩:=key (u % 128) hu
    refine fin (st':=st') ?_ (same (by rintro ⟨_,h2⟩;exact h2 hn))
    unfold iscii_Encoder_Put
    dsimp only
    simp only [indic_Of_eq,utf_Scalar_eq,bind_some',hok,hsc,if_true,cond_false,Bool.not_true,cond_true]
    rw [bne_eq_false_iff_eq.2 hn,cond_false]
    simp only [e1,bind_some',List.length_nil,fit48 (show 0≤1000000 by omega) hl,cond_true,List.nil_append,hw1]
   ·have hr9:=scrS_r hok
    obtain ⟨st',e1⟩:=enc_end_eq fu64 hS hW t1 t3 (i:=i) (o:=o) (N2:=N2) (R1:=R1) (R2:=R2) (a:=a) (st:=st) (ahead:=ah) (w:=w) (by omega) (by omega) (by omega) h7
    obtain ⟨r,st2,e3,e4⟩:=enc_put_eq fu64 hS hW t1 t3 (i:=i) (o:=o) (N2:=N2) (R1:=R1) (R2:=R2) (u:=u % 128) (a:=a+(w.length:Int)) (st:=st') (ahead:=[]) (w:=[]) (by simp) (by omega) (by omega) (by simp)
    subst e4
    have hl:=(OkT.put (OkT.zero (k:=k) (rs:=rs)) hS (unitS u)).2.2
    have htl:=toksA_len (rs:=turn rs) w a
    refine fin (st':=st2) ?_ (show (PE.isc rs sc ah w a).put u=_ from if_pos ⟨hok,hn⟩)
    unfold iscii_Encoder_Put
    dsimp only
    simp only [indic_Of_eq,utf_Scalar_eq,bind_some',hok,hsc,if_true,cond_false,Bool.not_true,cond_true]
    rw [bne_iff_ne.2 hn,cond_true,h6] at *
    simp only [List.length_nil] at hl
    simp only [e1,bind_some',indic_Code_eq FU64 hr9.1 hr9.2,apart_eq,e3,joinF_len,List.length_append,List.length_singleton]
    rw [fit48 (by omega) (by omega),cond_true]
    rw [show (takeF (turn rs) false (([]:List Int).length+1) (k:Int) ([]++[u % 128])).1.length=(PE.putT rs [] [] (k:Int) (unitS u)).1.length by rw [hu];show _=(joinF rs [] _).1.length;rw [joinF_len]]
    rw [fit48 (by omega) (by omega),cond_true,hw1,hu]
    rfl
theorem encEnd_eq {k:Nat} {p:PE} {x:ESt} (h:p.Ok k) (hr:p.Rep k x) (hk:k≤1000000000):∃x',ko_encEnd FU64 x ()=some (p.fin.1,x')∧p.fin.2.Rep k x':=by
 have h3:=PE.held3 h
 cases p with
 | tab rs ah w a=>
  obtain ⟨N3,N1,N2,R1,R2,st,i,o,rfl,t1,t3⟩:=hr
  obtain ⟨hT,h2,h5,h6,h7⟩:=h
  have h3:w.length≤3:=h3
  have hS:=hT.right.toSides
  obtain ⟨st',e1⟩:=enc_end_eq fu64 hS (turn_right hS).toSides t1 t3 (i:=i) (o:=o) (N2:=N2) (R1:=R1) (R2:=R2) (a:=a) (st:=st) (ahead:=ah) (w:=w) (by omega) (by omega) (by omega) h7
  refine ⟨_,?_,N3,N1,N2,R1,R2,st',i,o,rfl,t1,t3⟩
  unfold ko_encEnd
  dsimp only
  rw [e1,bind_some']
  rfl
 | utf a=>
  obtain rfl:=hr
  exact ⟨_,rfl,rfl⟩
 | isc rs sc ah w a=>
  obtain ⟨N3,N1,N2,R1,R2,st,i,o,b,rfl,t1,t3⟩:=hr
  obtain ⟨hI,⟨h2,h5,h6,h7⟩,hsc9⟩:=h
  have h3:w.length≤3:=h3
  have hS:=hI.right.toSides
  obtain ⟨st',e1⟩:=enc_end_eq fu64 hS (turn_right hS).toSides t1 t3 (i:=i) (o:=o) (N2:=N2) (R1:=R1) (R2:=R2) (a:=a) (st:=st) (ahead:=ah) (w:=w) (by omega) (by omega) (by omega) h7
  refine ⟨_,?_,N3,N1,N2,R1,R2,st',i,o,b,rfl,t1,t3⟩
  unfold ko_encEnd iscii_Encoder_End
  dsimp only
  rw [e1,bind_some',bind_some']
  rfl
def PE.run (p:PE):List Int→List Tok×PE
 | []=>([],p)
 | u :: us=>((p.put u).1++(PE.run (p.put u).2 us).1,(PE.run (p.put u).2 us).2)
def PE.all (p:PE) (us:List Int):List Tok:=(p.run us).1++(p.run us).2.fin.1
theorem PE.run_ok:∀(us:List Int) {k:Nat} {p:PE},p.Ok k→(p.run us).2.Ok (k+us.length)
 | [],_,_,h=>h
 | u :: us,k,p,h=>by
  have:=PE.run_ok us (PE.put_ok h u).1
  simp only [PE.run,List.length_cons]
  rw [show k+(us.length+1)=k+1+us.length by omega]
  exact this
theorem PE.run_few:∀(us:List Int) {k:Nat} {p:PE},p.Ok k→fewO (p.run us).1∧(p.run us).1.length+(p.run us).2.held≤p.held+2*us.length
 | [],_,_,h=>⟨(fun x hx=>by cases hx),by simp [PE.run]⟩
 | u :: us,k,p,h=>by
  obtain ⟨h0,h1,h2⟩:=PE.put_ok h u
  obtain ⟨h3,h4⟩:=PE.run_few us h0
  simp only [PE.run]
  exact ⟨fewO_append h1 h3,by simp only [List.length_append,List.length_cons];omega⟩
theorem PE.all_few {us:List Int} {k:Nat} {p:PE} (h:p.Ok k):fewO (p.all us)∧(p.all us).length≤p.held+2*us.length:=by
 obtain ⟨h1,h2⟩:=PE.run_few us h
 obtain ⟨_,_,h3,h4⟩:=PE.fin_ok (PE.run_ok us h)
 exact ⟨fewO_append h1 h3,by unfold PE.all;simp only [List.length_append];omega⟩
theorem PE.all_tab {rs:List Rule}:∀(us ah w:List Int) (a:Int),(PE.tab rs ah w a).all us=(joinF rs ah (toksA (turn rs) a (w++us))).1
 | [],ah,w,a=>by simp [PE.all,PE.run,PE.fin]
 | u :: us,ah,w,a=>by
  have ih:=PE.all_tab (rs:=rs) us (PE.putT rs ah w a u).2.1 (PE.putT rs ah w a u).2.2.1 (PE.putT rs ah w a u).2.2.2
  have hP:=takeF_put (rs:=turn rs) (w.length+1) a (w++[u]) (by simp)
  have:=hP.all us
  rw [List.append_assoc,List.singleton_append] at this
  rw [this,joinF_append]
  show (PE.putT rs ah w a u).1++_++_=(PE.putT rs ah w a u).1++_
  rw [List.append_assoc]
  exact congrArg _ ih
def stoks:Int→List Int→List Tok
 | _,[]=>[]
 | a,u :: us=>stok a u :: stoks (a+1) us
theorem PE.all_utf:∀(us:List Int) (a:Int),(PE.utf a).all us=stoks a us
 | [],a=>by simp [PE.all,PE.run,PE.fin,stoks]
 | u :: us,a=>by
  have ih:=PE.all_utf us (a+1)
  simp only [stoks,←ih]
  simp [PE.all,PE.run,PE.put]
theorem PE.all_isc0 {rs:List Rule} (hI:Isc rs):∀(ss:List Int) (k:Nat) (e:ES) (out raw:List Tok) (ah w:List Int) (a:Int),ERel rs k e out ah w a raw→out++(PE.isc rs e.sc ah w a).all ss=esOut rs (esRun rs k e ss)
 | [],k,e,out,raw,ah,w,a,h=>by
  have:=h.fin
  simp only [PE.all,PE.run,PE.fin,List.nil_append,esRun]
  exact this
 | s :: ss,k,e,out,raw,ah,w,a,h=>by
  have hS:=hI.right.toSides
  have hW:=(turn_right hS).toSides
  by_cases hc:okS s=true∧scrS s≠e.sc
  ·have hE:=h.sw hS hW (codeS (scrS s)) (scrS s) (scrS_r hc.1) (unitS s) _ rfl
   have he:esStep rs k e s=⟨e.out++part rs e.frm e.us++[swT k (codeS (scrS s))],scrS s,k,[unitS s]⟩:=by unfold esStep;rw [if_pos hc]
   have ih:=PE.all_isc0 hI ss (k+1) _ _ _ _ _ _ hE
   rw [←he] at ih
   have hp:(PE.isc rs e.sc ah w a).put s=_:=if_pos hc
   simp only [esRun]
   rw [show ((k:Int)+1)=((k+1:Nat):Int) by omega,←ih]
   simp only [PE.all,PE.run,hp,List.append_assoc,he]
   rw [h.at']
   rfl
  ·have hE:=h.put hW (unitS s) rfl
   have he:esStep rs k e s=⟨e.out,e.sc,e.frm,e.us++[unitS s]⟩:=by unfold esStep;rw [if_neg hc]
   have ih:=PE.all_isc0 hI ss (k+1) _ _ _ _ _ _ hE
   rw [←he] at ih
   have hp:(PE.isc rs e.sc ah w a).put s=_:=if_neg hc
   simp only [esRun]
   rw [show ((k:Int)+1)=((k+1:Nat):Int) by omega,←ih]
   simp only [PE.all,PE.run,hp,List.append_assoc,he]
   rfl
theorem PE.all_isc {rs:List Rule} (hI:Isc rs) (ss:List Int):(PE.isc rs 0 [] [] 0).all ss=esOut rs (esRun rs 0 es0 ss):=by
 have:=PE.all_isc0 hI ss 0 es0 [] [] [] [] 0 (ERel.zero rs)
 rw [List.nil_append] at this
 exact this
def PD.init (n:Nat):PD:=if n=0 then .utf [] 0 else if n=7 then .isc isR 0 [] 0 else .tab (tabR n) [] 0
def PE.init (n:Nat):PE:=if n=0 then .utf 0 else if n=7 then .isc isR 0 [] [] 0 else .tab (tabR n) [] [] 0
theorem PD.init_ok (n:Nat):(PD.init n).Ok 0∧(PD.init n).held=0:=by
 unfold PD.init
 by_cases h0:n=0
 ·rw [if_pos h0];exact ⟨⟨(fun x hx=>by cases hx),.inl rfl,by omega,rfl⟩,rfl⟩
 ·rw [if_neg h0]
  by_cases h7:n=7
  ·rw [if_pos h7];exact ⟨⟨isc_ok,.inl rfl,by omega,rfl⟩,rfl⟩
  ·rw [if_neg h7];exact ⟨⟨tab_all n,.inl rfl,by omega,rfl⟩,rfl⟩
theorem PE.init_ok (n:Nat):(PE.init n).Ok 0∧(PE.init n).held=0:=by
 unfold PE.init
 by_cases h0:n=0
 ·rw [if_pos h0];exact ⟨rfl,rfl⟩
 ·rw [if_neg h0]
  by_cases h7:n=7
  ·rw [if_pos h7];exact ⟨⟨isc_ok,OkT.zero (k:=0),by omega⟩,rfl⟩
  ·rw [if_neg h7];exact ⟨⟨tab_all n,OkT.zero (k:=0)⟩,rfl⟩
def utfN:ByteArray:=bs [117,116,102,45,56]
def iscN:ByteArray:=bs [105,115,99,105,105]
def nameN (n:Nat):ByteArray:=
 match n with
 | 0=>utfN
 | 1=>ascN
 | 2=>visN
 | 3=>tcvN
 | 4=>vniN
 | 5=>tisN
 | 6=>tscN
 | _=>iscN
theorem cases8 {P:Nat→Prop} (h:P 0∧P 1∧P 2∧P 3∧P 4∧P 5∧P 6∧P 7) {n:Nat} (hn:n<8):P n:=by
 have:n=0∨n=1∨n=2∨n=3∨n=4∨n=5∨n=6∨n=7:=by omega
 obtain ⟨h0,h1,h2,h3,h4,h5,h6,h7⟩:=h
 rcases this with rfl | rfl | rfl | rfl | rfl | rfl | rfl | rfl <;> assumption
theorem name_is {n:Nat} (hn:n<8):codec_Name FU64 (nameN n)=some (nameN n,0):=
 cases8 (P:=fun n=>codec_Name FU64 (nameN n)=some (nameN n,0)) ⟨by kernel_rfl,by kernel_rfl,by kernel_rfl,by kernel_rfl,by kernel_rfl,by kernel_rfl,by kernel_rfl,by kernel_rfl⟩ hn
theorem Tab.ne {rs:List Rule} (h:Tab rs):Nat.blt 0 rs.length=true:=by
 have:=List.length_pos_of_mem (h.asc 97 (by decide))
 simp [Nat.blt];omega
theorem table_tab {nm:ByteArray} {rs:List Rule} (h4:codec_rules FU64 nm=some (.inr rs)) (hT:Tab rs):∃N1 N2,codec_Table FU64 nm=some (.inr ((maxIn rs:Int),(maxIn (turn rs):Int),N1,outsOf rs,N2,outsOf (turn rs)))∧TrieOk N1 rs∧TrieOk N2 (turn rs):=by
 obtain ⟨N1,N2,e,t1,t2⟩:=table_eq fu64 hT.right hT.closed
 refine ⟨N1,N2,?_,t1,t2⟩
 unfold codec_Table
 dsimp only
 rw [h4,bind_some']
 dsimp only
 rw [hT.ne,cond_true,bind_some']
 dsimp only
 rw [e,bind_some']
theorem dec_tab {nm0 nm:ByteArray} {rs:List Rule} (h1:codec_Name FU64 nm0=some (nm,0)) (h2:eqS nm utfN=false) (h3:eqS nm iscN=false) (h4:codec_rules FU64 nm=some (.inr rs)) (hT:Tab rs) :
  ∃x,codec_Decode FU64 nm0=some (.inr ((0:Nat),(0:Int),[x]))∧(PD.tab rs [] 0).Rep x:=by
 obtain ⟨N1,N2,e,t1,t2⟩:=table_tab h4 hT
 refine ⟨.inl (N1,outsOf rs,[],0,0),?_,N1,0,rfl,t1⟩
 unfold codec_Decode
 dsimp only
 rw [h1,bind_some',show ((0:Int) != 0)=false from rfl,cond_false,show eqS nm (bs [117,116,102,45,56])=false from h2,cond_false,show eqS nm (bs [105,115,99,105,105])=false from h3,cond_false,e,bind_some']
 dsimp only
 rw [dec_eq,bind_some']
theorem enc_tab {nm0 nm:ByteArray} {rs:List Rule} (h1:codec_Name FU64 nm0=some (nm,0)) (h2:eqS nm utfN=false) (h3:eqS nm iscN=false) (h4:codec_rules FU64 nm=some (.inr rs)) (hT:Tab rs) :
  ∃x,codec_Encode FU64 nm0=some (.inr ((0:Nat),(0:Int),[x]))∧(PE.tab rs [] [] 0).Rep 0 x:=by
 obtain ⟨N1,N2,e,t1,t2⟩:=table_tab h4 hT
 refine ⟨.inl (N2,outsOf (turn rs),[],0,0,(maxIn rs:Int),(maxIn (turn rs):Int),N1,outsOf rs,N2,outsOf (turn rs),[]),?_,N2,N1,N2,outsOf rs,outsOf (turn rs),0,_,_,rfl,t1,t2⟩
 unfold codec_Encode
 dsimp only
 rw [h1,bind_some',show ((0:Int) != 0)=false from rfl,cond_false,show eqS nm (bs [117,116,102,45,56])=false from h2,cond_false,show eqS nm (bs [105,115,99,105,105])=false from h3,cond_false,e,bind_some']
 dsimp only
 rw [enc_eq,bind_some']
theorem dec_utf {nm0:ByteArray} (h1:codec_Name FU64 nm0=some (utfN,0)):∃x,codec_Decode FU64 nm0=some (.inr ((0:Nat),(0:Int),[x]))∧(PD.utf [] 0).Rep x:=by
 refine ⟨_,?_,rfl⟩
 unfold codec_Decode
 dsimp only
 rw [h1,bind_some',show ((0:Int) != 0)=false from rfl,cond_false,show eqS utfN (bs [117,116,102,45,56])=true by kernel_rfl,cond_true]
theorem enc_utf {nm0:ByteArray} (h1:codec_Name FU64 nm0=some (utfN,0)):∃x,codec_Encode FU64 nm0=some (.inr ((0:Nat),(0:Int),[x]))∧(PE.utf 0).Rep 0 x:=by
 refine ⟨_,?_,rfl⟩
 unfold codec_Encode
 dsimp only
 rw [h1,bind_some',show ((0:Int) != 0)=false from rfl,cond_false,show eqS utfN (bs [117,116,102,45,56])=true by kernel_rfl,cond_true]
theorem dec_isc {nm0:ByteArray} (h1:codec_Name FU64 nm0=some (iscN,0)):∃x,codec_Decode FU64 nm0=some (.inr ((0:Nat),(0:Int),[x]))∧(PD.isc isR 0 [] 0).Rep x:=by
 obtain ⟨N1,N2,e,t1,t2⟩:=iscii_all_eq
 have e2:=iscii_Decode_of e
 refine ⟨.inr (.inr (N1,outsOf isR,[],0,0,0)),?_,N1,0,rfl,t1⟩
 generalize isR=rs at e2
 unfold codec_Decode
 dsimp only
 rw [h1,bind_some',show ((0:Int) != 0)=false from rfl,cond_false,show eqS iscN (bs [117,116,102,45,56])=false by kernel_rfl,cond_false,show eqS iscN (bs [105,115,99,105,105])=true by kernel_rfl,cond_true,e2,bind_some']
theorem enc_isc {nm0:ByteArray} (h1:codec_Name FU64 nm0=some (iscN,0)):∃x,codec_Encode FU64 nm0=some (.inr ((0:Nat),(0:Int),[x]))∧(PE.isc isR 0 [] [] 0).Rep 0 x:=by
 obtain ⟨N1,N2,e,t1,t2⟩:=iscii_all_eq
 have e2:=iscii_Encode_of e
 refine ⟨.inr (.inr (N2,outsOf (turn isR),[],0,0,(maxIn isR:Int),(maxIn (turn isR):Int),N1,outsOf isR,N2,outsOf (turn isR),[],0,0,0))  ,?_,N2,N1,N2,outsOf isR,outsOf (turn isR),0,_,_,0,rfl,t1,t2⟩
 generalize isR=rs at e2
 unfold codec_Encode
 dsimp only
 rw [h1,bind_some',show ((0:Int) != 0)=false from rfl,cond_false,show eqS iscN (bs [117,116,102,45,56])=false by kernel_rfl,cond_false,show eqS iscN (bs [105,115,99,105,105])=true by kernel_rfl,cond_true,e2,bind_some']
theorem dec_any {nm0:ByteArray} {n:Nat} (hn:n<8) (h1:codec_Name FU64 nm0=some (nameN n,0)):∃x,codec_Decode FU64 nm0=some (.inr ((0:Nat),(0:Int),[x]))∧(PD.init n).Rep x:=by
 refine cases8 (P:=fun n=>codec_Name FU64 nm0=some (nameN n,0)→∃x,codec_Decode FU64 nm0=some (.inr ((0:Nat),(0:Int),[x]))∧(PD.init n).Rep x) ⟨?_,?_,?_,?_,?_,?_,?_,?_⟩ hn h1
 ·exact fun h=>dec_utf h
 ·exact fun h=>dec_tab h (by kernel_rfl) (by kernel_rfl) rules_asc tabA
 ·exact fun h=>dec_tab h (by kernel_rfl) (by kernel_rfl) rules_vis tabV
 ·exact fun h=>dec_tab h (by kernel_rfl) (by kernel_rfl) rules_tcv tabT
 ·exact fun h=>dec_tab h (by kernel_rfl) (by kernel_rfl) rules_vni tabN
 ·exact fun h=>dec_tab h (by kernel_rfl) (by kernel_rfl) rules_tis tabH
 ·exact fun h=>dec_tab h (by kernel_rfl) (by kernel_rfl) rules_tsc tabS
 ·exact fun h=>dec_isc h
theorem enc_any {nm0:ByteArray} {n:Nat} (hn:n<8) (h1:codec_Name FU64 nm0=some (nameN n,0)):∃x,codec_Encode FU64 nm0=some (.inr ((0:Nat),(0:Int),[x]))∧(PE.init n).Rep 0 x:=by
 refine cases8 (P:=fun n=>codec_Name FU64 nm0=some (nameN n,0)→∃x,codec_Encode FU64 nm0=some (.inr ((0:Nat),(0:Int),[x]))∧(PE.init n).Rep 0 x) ⟨?_,?_,?_,?_,?_,?_,?_,?_⟩ hn h1
 ·exact fun h=>enc_utf h
 ·exact fun h=>enc_tab h (by kernel_rfl) (by kernel_rfl) rules_asc tabA
 ·exact fun h=>enc_tab h (by kernel_rfl) (by kernel_rfl) rules_vis tabV
 ·exact fun h=>enc_tab h (by kernel_rfl) (by kernel_rfl) rules_tcv tabT
 ·exact fun h=>enc_tab h (by kernel_rfl) (by kernel_rfl) rules_vni tabN
 ·exact fun h=>enc_tab h (by kernel_rfl) (by kernel_rfl) rules_tis tabH
 ·exact fun h=>enc_tab h (by kernel_rfl) (by kernel_rfl) rules_tsc tabS
 ·exact fun h=>enc_isc h
theorem u8_of {a:Int} (h:wfD (.int .u8) a):0≤a∧a<256:=by
 have h1:(Lit.int .u8 a).wf=true:=h
 unfold Lit.wf at h1
 simp only [Bool.and_eq_true,decide_eq_true_eq] at h1
 have h2:(0:Int)≤a∧a≤255:=h1
 omega
theorem map_w8 {us:List Int} (h:isU8 us):us.map w8=us:=by
 induction us with
 | nil=>rfl
 | cons u us ih=>
  have:=h u (by simp)
  rw [List.map_cons,w8_id this.1 this.2,ih fun x hx=>h x (List.mem_cons_of_mem _ hx)]
end Go.AM.M
namespace Go.AM.M
open Go.AM
set_option maxRecDepth 100000
theorem push_ok {P:Int→Prop} {out:List Int} {k:Nat} (ho:out.length=k) (hr:∀u∈out,P u) {c:Int} (hc:P c):(out++[c]).length=k+1∧∀u∈out++[c],P u:=by
 refine ⟨by simp [ho],fun u hu=>?_⟩
 simp only [List.mem_append,List.mem_singleton] at hu
 rcases hu with hu | rfl
 ·exact hr u hu
 ·exact hc
def letB:Bool:=(List.range 148).all fun n=>match lontarlaw09_Letter FU64 ((n:Nat):Int) with
 | some r=>scalB r.2.2.1
 | none=>false
theorem letB_is:letB=true:=by kernel_rfl
theorem letter_ex {n:Int} (h0:0≤n) (h1:n<148):∃r,lontarlaw09_Letter FU64 n=some r∧scalB r.2.2.1=true:=by
 have h:=letB_is
 unfold letB at h
 rw [List.all_eq_true] at h
 have h:=h n.toNat (by rw [List.mem_range];omega)
 rw [show ((n.toNat:Nat):Int)=n by omega] at h
 revert h
 generalize lontarlaw09_Letter FU64 n=o
 intro h
 cases o with
 | none=>cases h
 | some r=>exact ⟨r,rfl,h⟩
def marksL:List Int:=[774,770,795,768,769,777,771,803]
theorem marks_eq:∃z,lontarlaw09_Marks FU64 ()=some (marksL,z):=⟨_,rfl⟩
theorem some10_eq {l:List Int} (hl:isU8 l):∃us,lontarlaw10_Some FU64 l=some us∧us.length≤60∧∀u∈us,scalB u=true:=by
 obtain ⟨z,ez⟩:=marks_eq
 unfold lontarlaw10_Some
 dsimp only
 obtain ⟨m,hm,h60,hml⟩:=upto60 (l:=l)
 rw [ez,bind_some',hm,sliceI_to hml,bind_some']
 have hlen:(l.take m).length=m:=by simp;omega
 rw [hlen]
 refine loop_n (n:=m) (I:=fun k x=>∃out:List Int,x=(marksL,out,l.take m,(m:Int),(k:Int))∧out.length=k∧∀u∈out,scalB u=true) (R:=fun rs:List Int=>rs.length≤60∧∀u∈rs,scalB u=true) ?_ ?_ FU64 0 _ (by omega) (by unfold FU64;omega) ⟨[],rfl,rfl,fun u hu=>by cases hu⟩
 ·rintro k x hk ⟨out,rfl,ho,hr⟩
  left
  have hkl:k<(l.take m).length:=by omega
  have hx:=hl (l.take m)[k] (List.mem_of_mem_take (List.getElem_mem hkl))
  unfold lontarlaw10_Some_L0
  dsimp only
  rw [decide_eq_true (by omega),cond_true,nthI_get hkl,bind_some']
  generalize (l.take m)[k]=y at hx
  have e1:Int.tmod (w64 y) 148=y % 148:=by rw [w64_id (by omega) (by omega),Int.tmod_eq_emod_of_nonneg hx.1]
  obtain ⟨r,p1,p2⟩:=letter_ex (n:=y % 148) (by omega) (by omega)
  rw [e1,p1,bind_some',w64_id (n:=y) (by omega) (by omega),w64_id (n:=120+y) (by omega) (by omega),w64_succ hk (by omega)]
  have hf:∀c:Int,decide ((out.length + [c].length)*8≤2 ^ 46)=true:=fun c=>fit8 (by omega) (by simp)
  have c0:y<6→scalB (120+y)=true:=fun h=>by rw [scalB_iff];omega
  by_cases c1:y>190
  ·obtain ⟨c,q1,q2,q3⟩:=pick_get (l:=marksL) (k:=Int.tmod y 8) (by rw [Int.tmod_eq_emod_of_nonneg hx.1];omega) (by rw [Int.tmod_eq_emod_of_nonneg hx.1];show y % 8<8;omega)
   rw [decide_eq_true c1,cond_true,q1,bind_some',decide_eq_false (by omega),cond_false,hf,cond_true]
   refine ⟨_,rfl,_,rfl,push_ok (P:=fun u=>scalB u=true) ho hr ?_⟩
   unfold marksL at q3
   simp only [List.mem_cons,List.not_mem_nil,or_false] at q3
   show scalB c=true
   rw [scalB_iff];omega
  ·rw [decide_eq_false c1,cond_false]
   by_cases c2:y<6
   ·rw [decide_eq_true c2,cond_true,hf,cond_true]
    exact ⟨_,rfl,_,rfl,push_ok (P:=fun u=>scalB u=true) ho hr (c0 c2)⟩
   ·rw [decide_eq_false c2,cond_false,hf,cond_true]
    exact ⟨_,rfl,_,rfl,push_ok (P:=fun u=>scalB u=true) ho hr p2⟩
 ·rintro x ⟨out,rfl,ho,hr⟩
  unfold lontarlaw10_Some_L0
  dsimp only
  rw [decide_eq_false (by omega),cond_false]
  exact ⟨_,rfl,by omega,hr⟩
end Go.AM.M
namespace Go.AM.M
open Go.AM
theorem both_ok {rs:List Rule} (hR:Right rs) (hc:closedP rs):∀(us:List Int) (a:Int) (ahead:List Int),okT (joinF rs ahead (toksA (turn rs) a us)).1→
  (∀b,cat (toksA rs b (cat (toksA (turn rs) a us)))=us∧okT (toksA rs b (cat (toksA (turn rs) a us))))∧(us≠[]→∃I rest,cat (toksA (turn rs) a us)=I++rest∧I≠[]∧joinB rs ahead I=false):=by
 intro us
 induction us using toks_ind (rs:=turn rs) with
 | h0=>intro a ahead _;exact ⟨fun b=>⟨rfl,fun x hx=>by cases hx⟩,fun h=>absurd rfl h⟩
 | h1 us hne ih=>
  intro a ahead hok
  rw [toksA_cons hne] at hok ⊢
  simp only [joinF] at hok
  have hx:(joinT rs ahead (tok (turn rs) a us)).2.2.2=0:=hok _ (by simp)
  have hx0:(tok (turn rs) a us).2.2.2=0∧joinB rs ahead (tok (turn rs) a us).2.2.1=false:=by
   unfold joinT at hx
   by_cases h1:(tok (turn rs) a us).2.2.2=0∧joinB rs ahead (tok (turn rs) a us).2.2.1=true
   ·rw [if_pos h1] at hx;cases hx
   ·rw [if_neg h1] at hx
    refine ⟨hx,?_⟩
    rw [Bool.eq_false_iff]
    exact fun h2=>h1 ⟨hx,h2⟩
  have hah:aheadT rs ahead (tok (turn rs) a us)=(tok (turn rs) a us).2.2.1:=by unfold aheadT;rw [if_pos hx]
  rw [hah] at hok
  obtain ⟨ih1,ih2⟩:=ih (a+(adv (turn rs) us:Int)) _ (fun x hx=>hok x (List.mem_cons_of_mem _ hx))
  have hn:nn (turn rs) us≠0:=fun h0=>by
   have:=hx0.1
   unfold tok at this
   rw [if_pos h0] at this
   cases this
  have hadv:adv (turn rs) us=nn (turn rs) us:=by unfold adv;omega
  obtain ⟨t,ht,et⟩:=anyIn_iff.1 (lngN_has (rs:=turn rs) (us:=us) us.length (by unfold nn at hn;omega))
  have hT:=turn_right hR.toSides
  have hI:(tok (turn rs) a us).2.2.1=t.2:=by
   unfold tok
   rw [if_neg hn]
   show outI (turn rs) (fnd (turn rs) (us.take (lngN (turn rs) us us.length)))=t.2
   rw [←et,outI_of hT ht]
  have hmem:=turn_mem t ht
  have hside:=hR.side _ hmem
  have hIl:0<t.2.length∧t.2.length≤8:=sideB_len hside.1
  rw [hI] at hx0 hok ih2
  rw [cat_cons,hI]
  generalize hB:cat (toksA (turn rs) (a+(adv (turn rs) us:Int)) (us.drop (adv (turn rs) us)))=B' at ih1 ih2 ⊢
  have hIne:t.2≠[]:=List.length_pos_iff.1 hIl.1
  have hno:∀r∈rs,r.1≠(t.2++B').take (t.2.length+1)∨B'=[]:=by
   intro r hr
   by_cases hB0:B'=[]
   ·exact .inr hB0
   ·left
    intro e
    have hus':us.drop (adv (turn rs) us)≠[]:=fun h0=>by rw [h0,toksA_nil] at hB;exact hB0 hB.symm
    obtain ⟨I2,rest2,e2,hI2,hj⟩:=ih2 hus'
    have:joinB rs t.2 I2=true:=by
     rw [joinB_iff]
     have hI2l:0<I2.length:=List.length_pos_iff.2 hI2
     have hrl:r.1.length=t.2.length+1:=by
      rw [e,e2];simp;omega
     refine ⟨hIne,r,hr,by omega,by simp;omega,?_⟩
     rw [hrl,e,e2,←List.append_assoc,List.take_append_of_le_length (by simp;omega)]
    rw [hj] at this;cases this
  have hnn:nn rs (t.2++B')=t.2.length:=by
   unfold nn
   refine lngN_eq (by simp) (.inr (anyIn_iff.2 ⟨(t.2,t.1),hmem,by simp⟩)) fun k hk hk2=>?_
   rw [Bool.eq_false_iff]
   intro hcn
   obtain ⟨r,hr,e⟩:=anyIn_iff.1 hcn
   have hB0:B'≠[]:=fun h0=>by rw [h0] at hk2;simp at hk2;omega
   have hrl:r.1.length=k:=by rw [e];simp;simp at hk2;omega
   rcases Nat.lt_or_ge (t.2.length+1) k with h1 | h1
   ·have hok2:=hc r hr (t.2.length+1) (by omega) (by omega)
    unfold okN at hok2
    have hne1:decide (t.2.length+1=1)=false:=by rw [decide_eq_false_iff_not];omega
    rw [hne1,Bool.false_and,Bool.or_false,List.any_eq_true] at hok2
    obtain ⟨r2,hr2,e2⟩:=hok2
    simp only [decide_eq_true_eq] at e2
    rcases hno r2 hr2 with h | h
    ·apply h
     rw [e2,e,List.take_take];congr 1;omega
    ·exact hB0 h
   ·have:k=t.2.length+1:=by omega
    subst this
    rcases hno r hr with h | h
    ·exact h e
    ·exact hB0 h
  refine ⟨fun b=>?_,fun _=>⟨t.2,B',rfl,hIne,hx0.2⟩⟩
  have hne2:t.2++B'≠[]:=by simp [hIne]
  rw [toksA_cons hne2,cat_cons]
  have herr:(tok rs b (t.2++B')).2.2.2=0:=by
   unfold tok
   rw [hnn,if_neg (by omega)]
  have hadv2:adv rs (t.2++B')=t.2.length:=by unfold adv;rw [hnn];omega
  have hout:(tok rs b (t.2++B')).2.2.1=t.1:=by
   unfold tok
   rw [hnn,if_neg (by omega)]
   show outI rs (fnd rs ((t.2++B').take t.2.length))=t.1
   rw [List.take_left]
   exact outI_of hR hmem
  rw [hadv2,hout,List.drop_left]
  obtain ⟨i1,i2⟩:=ih1 (b+(t.2.length:Int))
  refine ⟨?_,fun x hx=>?_⟩
  ·rw [i1,hadv,et]
   exact List.take_append_drop _ _
  ·rw [List.mem_cons] at hx
   rcases hx with rfl | hx
   ·exact herr
   ·exact i2 x hx
theorem okT_append {a b:List Tok}:okT (a++b)↔okT a∧okT b:=by
 unfold okT
 simp only [List.mem_append]
 exact ⟨fun h=>⟨fun x hx=>h x (.inl hx),fun x hx=>h x (.inr hx)⟩,fun h x hx=>hx.elim (h.1 x) (h.2 x)⟩
theorem flat_cat (ts:List Tok):flat ts=cat ts:=rfl
theorem tab_back {rs:List Rule} (hR:Right rs) (hc:closedP rs) {x:List Int} (h:okT ((PE.tab rs [] [] 0).all x)):okT ((PD.tab rs [] 0).all (flat ((PE.tab rs [] [] 0).all x)))∧flat ((PD.tab rs [] 0).all (flat ((PE.tab rs [] [] 0).all x)))=x:=by
 rw [PE.all_tab,List.nil_append] at h ⊢
 rw [PD.all_tab,List.nil_append,flat_cat,cat_ok _ _ h]
 obtain ⟨h1,h2⟩:=(both_ok hR hc x 0 [] h).1 0
 exact ⟨h2,h1⟩
theorem utoks_u8 {s:Int} (h:scalB s=true) (a:Int) (r:List Int):utoksA a (u8 s++r)=(a,((u8 s).length:Int),[s],0) :: utoksA (a+((u8 s).length:Int)) r:=by
 have hl:=u8_len (s:=s)
 have hne:u8 s++r≠[]:=fun e=>by
  have:=congrArg List.length e
  simp at this;rw [this.1] at hl;simp at hl
 have h1:=one_u8_ext h r
 have ha:uadv (u8 s++r)=(u8 s).length:=by unfold uadv;rw [h1];simp
 rw [utoksA_cons hne,ha,List.drop_left]
 unfold utok
 rw [h1,if_pos rfl]
theorem stoks_ok:∀(x:List Int) (a:Int),okT (stoks a x)→(∀s∈x,scalB s=true)∧flat (stoks a x)=x.flatMap u8
 | [],_,_=>⟨(fun s hs=>by cases hs),rfl⟩
 | s :: x,a,h=>by
  have h0:=h (stok a s) (by simp [stoks])
  have hs:scalB s=true:=by
   unfold stok at h0
   dsimp only at h0
   by_cases hh:scalB s=true
   ·exact hh
   ·rw [if_neg hh] at h0;cases h0
  obtain ⟨h1,h2⟩:=stoks_ok x (a+1) (fun t ht=>h t (by simp [stoks,ht]))
  refine ⟨fun t ht=>?_,?_⟩
  ·rw [List.mem_cons] at ht
   rcases ht with rfl | ht
   ·exact hs
   ·exact h1 t ht
  ·have:flat (stoks a (s :: x))=(stok a s).2.2.1++flat (stoks (a+1) x):=by simp [stoks,flat]
   rw [this,h2]
   unfold stok
   dsimp only
   rw [if_pos hs];simp
theorem utoks_all:∀(x:List Int) (a:Int),(∀s∈x,scalB s=true)→okT (utoksA a (x.flatMap u8))∧flat (utoksA a (x.flatMap u8))=x
 | [],_,_=>⟨(fun t ht=>by cases ht),rfl⟩
 | s :: x,a,h=>by
  have hs:=h s (by simp)
  obtain ⟨h1,h2⟩:=utoks_all x (a+((u8 s).length:Int)) (fun t ht=>h t (List.mem_cons_of_mem _ ht))
  rw [List.flatMap_cons,utoks_u8 hs]
  refine ⟨fun t ht=>?_,?_⟩
  ·rw [List.mem_cons] at ht
   rcases ht with rfl | ht
   ·rfl
   ·exact h1 t ht
  ·have:flat ((a,((u8 s).length:Int),[s],(0:Int)) :: utoksA (a+((u8 s).length:Int)) (x.flatMap u8))=[s]++flat (utoksA (a+((u8 s).length:Int)) (x.flatMap u8)):=by simp [flat]
   rw [this,h2];rfl
theorem flat_u8 {x:List Int} (h:∀s∈x,scalB s=true):isU8 (x.flatMap u8):=fun c hc=>by
 obtain ⟨s,hs,hc⟩:=List.mem_flatMap.1 hc
 exact u8_isU8 (h s hs) c hc
theorem utf_back {x:List Int} (h:okT ((PE.utf 0).all x)):okT ((PD.utf [] 0).all (flat ((PE.utf 0).all x)))∧flat ((PD.utf [] 0).all (flat ((PE.utf 0).all x)))=x:=by
 rw [PE.all_utf] at h ⊢
 obtain ⟨h1,h2⟩:=stoks_ok x 0 h
 rw [h2,PD.all_utf,map_w8 (flat_u8 h1),List.nil_append]
 exact utoks_all x 0 h1
theorem toks_units {rs:List Rule} (hR:Right rs):∀(us:List Int) (a:Int),okT (toksA rs a us)→∀u∈us,0≤u:=by
 intro us
 induction us using toks_ind (rs:=rs) with
 | h0=>intro a _ u hu;cases hu
 | h1 us hne ih=>
  intro a hok u hu
  rw [toksA_cons hne] at hok
  have h0:=hok _ (List.mem_cons_self)
  have hn:nn rs us≠0:=fun h0'=>by
   unfold tok at h0
   rw [if_pos h0'] at h0
   cases h0
  have hadv:adv rs us=nn rs us:=by unfold adv;omega
  rw [←List.take_append_drop (adv rs us) us,List.mem_append] at hu
  rcases hu with hu | hu
  ·obtain ⟨t,ht,et⟩:=anyIn_iff.1 (lngN_has (rs:=rs) (us:=us) us.length (by unfold nn at hn;omega))
   rw [hadv] at hu
   have:u∈t.1:=by rw [et];exact hu
   exact (sideB_u (hR.side t ht).1 u this).1
  ·exact ih _ (fun x hx=>hok x (List.mem_cons_of_mem _ hx)) u hu
theorem joinF_ok {rs:List Rule}:∀(xs:List Tok) (ah:List Int),okT (joinF rs ah xs).1→okT xs
 | [],_,_=>fun x hx=>by cases hx
 | x :: xs,ah,h=>by
  simp only [joinF] at h
  have h0:=h _ (List.mem_cons_self)
  intro y hy
  rw [List.mem_cons] at hy
  rcases hy with rfl | hy
  ·unfold joinT at h0
   split at h0
   ·cases h0
   ·exact h0
  ·exact joinF_ok xs _ (fun z hz=>h z (List.mem_cons_of_mem _ hz)) y hy
theorem part_units {rs:List Rule} (hR:Right rs) {frm:Int} {us:List Int} (h:okT (part rs frm us)):∀u∈us,0≤u:=toks_units (turn_right hR.toSides) us frm (joinF_ok _ _ h)
structure BU (rs:List Rule) (e:ES) (ss:List Int):Prop where
 ex:∃pre post,ss=pre++post∧e.us=post.map unitS∧(okT e.out→∀s∈pre,0≤unitS s)
theorem BU.step {rs:List Rule} (hR:Right rs) {e:ES} {ss:List Int} (h:BU rs e ss) (k s:Int):BU rs (esStep rs k e s) (ss++[s]):=by
 obtain ⟨pre,post,rfl,h2,h3⟩:=h.ex
 unfold esStep
 split
 ·refine ⟨pre++post,[s],rfl,rfl,fun hok x hx=>?_⟩
  have hok:okT (e.out++part rs e.frm e.us++[swT k (codeS (scrS s))]):=hok
  rw [okT_append,okT_append] at hok
  rw [List.mem_append] at hx
  rcases hx with hx | hx
  ·exact h3 hok.1.1 x hx
  ·exact part_units hR hok.1.2 _ (by rw [h2];exact List.mem_map_of_mem hx)
 ·exact ⟨pre,post++[s],by simp,by show e.us++[unitS s]=_;rw [h2];simp,h3⟩
theorem BU.run {rs:List Rule} (hR:Right rs) (ss:List Int):BU rs (esRun rs 0 es0 ss) ss:=by
 induction ss using snocInd with
 | nil=>exact ⟨[],[],rfl,rfl,fun _ s hs=>by cases hs⟩
 | snoc l a ih=>rw [esRun_snoc];exact ih.step hR _ _
theorem unit_scal {s:Int} (h:0≤unitS s):scalB s=true:=by
 cases hs:scalB s with
 | true=>rfl
 | false=>
  have ho:okS s=false:=by
   cases ho:okS s with
   | false=>rfl
   | true=>rw [okS_scal ho] at hs;cases hs
  unfold unitS at h
  rw [ho,hs] at h
  simp at h
theorem esOut_scal {rs:List Rule} (hR:Right rs) {ss:List Int} (h:okT (esOut rs (esRun rs 0 es0 ss))):∀s∈ss,scalB s=true:=by
 obtain ⟨pre,post,e1,e2,e3⟩:=(BU.run hR ss).ex
 unfold esOut at h
 rw [okT_append] at h
 intro s hs
 rw [e1,List.mem_append] at hs
 rcases hs with hs | hs
 ·exact unit_scal (e3 h.1 s hs)
 ·exact unit_scal (part_units hR h.2 _ (by rw [e2];exact List.mem_map_of_mem hs))
theorem unit_mu2 {s sc:Int} (h0:scalB s=true) (h2:okS s=true→scrS s=sc) (p:List Int):mu1 (p,sc) (unitS s)=(p++[s],sc):=by
 have hb:=scalB_iff.1 h0
 cases hok:okS s with
 | true=>
  have hr:=okS_r hok
  have h2:=h2 hok
  have hu:unitS s=s % 128:=by unfold unitS;rw [hok];rfl
  rw [hu]
  unfold mu1
  rw [if_neg (by omega),if_neg (by omega)]
  have:w64 (w64 (2304+w64 (128*sc))+s % 128)=s:=by
   rw [←h2]
   unfold scrS
   rw [w64_id (n:=128*((s - 2304) / 128)) (by omega) (by omega),w64_id (n:=2304+128*((s - 2304) / 128)) (by omega) (by omega),w64_id (by omega) (by omega)]
   omega
  show (p++[w64 (w64 (2304+w64 (128*sc))+s % 128)],sc)=_
  rw [this]
 | false=>
  have hu:unitS s=8192+s:=by
   unfold unitS
   rw [hok,h0]
   show w64 (8192+s)=_
   exact w64_id (by omega) (by omega)
  rw [hu]
  unfold mu1
  rw [if_pos (by omega)]
  have:w64 (8192+s - 8192)=s:=by rw [w64_id (by omega) (by omega)];omega
  show (p++[w64 (8192+s - 8192)],sc)=_
  rw [this]
theorem BK.step2 {rs:List Rule} (hR:Right rs) (hc:closedP rs) (hw:SwR rs) {e:ES} {ss:List Int} (h:BK rs e ss) (k s:Int) (h0:scalB s=true):BK rs (esStep rs k e s) (ss++[s]):=by
 unfold esStep
 split
 ·rename_i hcnd
  have h9:=scrS_r hcnd.1
  refine ⟨h9,fun hok=>?_⟩
  have hok':okT (e.out++part rs e.frm e.us++[swT k (codeS (scrS s))]):=hok
  have o1:okT e.out:=fun x hx=>hok' x (by simp [hx])
  have o2:okT (part rs e.frm e.us):=fun x hx=>hok' x (by simp [hx])
  obtain ⟨pre,j1,j2⟩:=h.J o1
  refine ⟨ss,fun Y=>?_,unit_mu2 h0 (fun _=>rfl) ss⟩
  have hcat:cat (e.out++part rs e.frm e.us++[swT k (codeS (scrS s))])=cat e.out++(cat (part rs e.frm e.us)++[239,codeS (scrS s)]):=by
   rw [cat_append,cat_append,List.append_assoc];simp [cat,swT]
  show muF ([],0) (cat (toksA rs 0 (cat (e.out++part rs e.frm e.us++[swT k (codeS (scrS s))])++Y)))=_
  rw [hcat,List.append_assoc,j1,List.append_assoc]
  show muF (pre,e.sc) (cat (toksA rs 0 (cat (part rs e.frm e.us)++239 :: (codeS (scrS s) :: Y))))=_
  rw [toks_split hw.in_ (codeS (scrS s) :: Y) _ 0 0,part_ok hR hc o2,muF_append,j2]
  have:=toks_rule hR (hw.sw _ h9.1 h9.2) (fun q hq _=>hw.two q hq) Y 0
  rw [show (239:Int) :: (codeS (scrS s) :: Y)=[239,codeS (scrS s)]++Y from rfl,this,muF_append]
  congr 1
  show mu1 (ss,e.sc) (4096+scrS s)=_
  unfold mu1
  rw [if_neg (by omega),if_pos (by omega)]
  have:w64 (4096+scrS s - 4096)=scrS s:=by rw [w64_id (by omega) (by omega)];omega
  rw [this]
 ·rename_i hcnd
  refine ⟨h.sc,fun hok=>?_⟩
  obtain ⟨pre,j1,j2⟩:=h.J hok
  refine ⟨pre,j1,?_⟩
  show muF (pre,e.sc) (e.us++[unitS s])=_
  rw [muF_append,j2]
  refine unit_mu2 h0 (fun ho=>?_) ss
  exact Classical.byContradiction fun hn=>hcnd ⟨ho,hn⟩
theorem BK.run2 {rs:List Rule} (hR:Right rs) (hc:closedP rs) (hw:SwR rs) (ss:List Int) (hu:∀s∈ss,scalB s=true):BK rs (esRun rs 0 es0 ss) ss:=by
 induction ss using snocInd with
 | nil=>exact BK.zero rs
 | snoc l a ih=>
  rw [esRun_snoc]
  exact (ih fun s hs=>hu s (by simp [hs])).step2 hR hc hw _ _ (hu a (by simp))
structure BO (rs:List Rule) (e:ES):Prop where
 J:okT e.out→∀Y,okT (toksA rs 0 (cat e.out++Y))↔okT (toksA rs 0 Y)
theorem okT_pos {rs:List Rule}:∀(us:List Int) (a b:Int),okT (toksA rs a us)→okT (toksA rs b us):=by
 intro us
 induction us using toks_ind (rs:=rs) with
 | h0=>intro a b _ x hx;cases hx
 | h1 us hne ih=>
  intro a b h
  rw [toksA_cons hne] at h ⊢
  have h0:=h _ (List.mem_cons_self)
  intro x hx
  rw [List.mem_cons] at hx
  rcases hx with rfl | hx
  ·unfold tok at h0 ⊢
   split
   ·rename_i hn;rw [if_pos hn] at h0;exact h0
   ·rfl
  ·exact ih _ _ (fun y hy=>h y (List.mem_cons_of_mem _ hy)) x hx
theorem toks_splitT {rs:List Rule} {z:Int} (hz:∀r∈rs,∀n,0<n→n<r.1.length→r.1[n]?≠some z) (Z:List Int):∀(us:List Int) (a:Int),toksA rs a (us++z :: Z)=toksA rs a us++toksA rs (a+(us.length:Int)) (z :: Z):=by
 intro us
 induction us using toks_ind (rs:=rs) with
 | h0=>intro a;rw [List.nil_append,toksA_nil,List.nil_append];simp
 | h1 us hne ih=>
  intro a
  have hl:0<us.length:=List.length_pos_iff.2 hne
  have hnn:nn rs (us++z :: Z)=nn rs us:=by
   unfold nn
   have hle:=lngN_le (rs:=rs) (us:=us) us.length
   have htk:(us++z :: Z).take (lngN rs us us.length)=us.take (lngN rs us us.length):=List.take_append_of_le_length hle
   refine lngN_eq (by simp;omega) ?_ fun k hk hk2=>?_
   ·by_cases h0:lngN rs us us.length=0
    ·exact .inl h0
    ·right
     rw [htk]
     exact lngN_has us.length (by omega)
   ·rw [Bool.eq_false_iff]
    intro hc
    rcases Nat.lt_or_ge us.length k with h | h
    ·obtain ⟨r,hr,e⟩:=anyIn_iff.1 hc
     have hrl:r.1.length=k:=by rw [e];simp at hk2 ⊢;omega
     refine hz r hr us.length hl (by omega) ?_
     rw [e,List.getElem?_take_of_lt h,List.getElem?_append_right (Nat.le_refl _)]
     simp
    ·have:=lngN_max (rs:=rs) (us:=us) (n:=k) (by omega) (by rw [List.take_append_of_le_length h] at hc;exact hc) us.length h
     omega
  have hadv:adv rs (us++z :: Z)=adv rs us:=by unfold adv;rw [hnn]
  have hle:=adv_le (rs:=rs) hne
  have htok:tok rs a (us++z :: Z)=tok rs a us:=by
   unfold tok
   rw [hnn,List.take_append_of_le_length (nn_le rs us)]
  rw [toksA_cons (by simp),toksA_cons hne,hadv,htok,List.drop_append_of_le_length hle,ih]
  simp only [List.cons_append,List.length_drop]
  congr 3
  omega
theorem toks_ruleT {rs:List Rule} (hR:Right rs) {r:Rule} (hr:r∈rs) (hm:∀q∈rs,r.1 <+: q.1→q.1.length≤r.1.length) (Z:List Int) (a:Int):∃t:Tok,t.2.2.2=0∧toksA rs a (r.1++Z)=t :: toksA rs (a+(r.1.length:Int)) Z:=by
 have hI:=sideB_len (hR.side r hr).1
 have hne:r.1++Z≠[]:=by
  intro h
  have:=congrArg List.length h
  simp at this
  rw [this.1] at hI;simp at hI
 have hnn:nn rs (r.1++Z)=r.1.length:=by
  unfold nn
  refine lngN_eq (by simp) (.inr (anyIn_iff.2 ⟨r,hr,by simp⟩)) fun k hk hk2=>?_
  rw [Bool.eq_false_iff]
  intro hc
  obtain ⟨q,hq,e⟩:=anyIn_iff.1 hc
  have hql:q.1.length=k:=by rw [e];simp at hk2 ⊢;omega
  have hp:r.1=q.1.take r.1.length:=by
   rw [e,List.take_take,Nat.min_eq_left (by omega)];simp
  have:=hm q hq (by rw [hp];exact List.take_prefix _ _)
  omega
 have hadv:adv rs (r.1++Z)=r.1.length:=by unfold adv;omega
 refine ⟨tok rs a (r.1++Z),?_,by rw [toksA_cons hne,hadv,List.drop_left]⟩
 unfold tok
 rw [hnn,if_neg (by omega)]
theorem okT_posI {rs:List Rule} (us:List Int) (a b:Int):okT (toksA rs a us)↔okT (toksA rs b us):=⟨okT_pos us a b,okT_pos us b a⟩
theorem okT_cons {t:Tok} {ts:List Tok}:okT (t :: ts)↔t.2.2.2=0∧okT ts:=by
 unfold okT
 simp only [List.mem_cons,forall_eq_or_imp]
theorem BO.step {rs:List Rule} (hR:Right rs) (hc:closedP rs) (hw:SwR rs) {e:ES} (h:BO rs e) (k s:Int):BO rs (esStep rs k e s):=by
 unfold esStep
 split
 ·rename_i hcnd
  have h9:=scrS_r hcnd.1
  refine ⟨fun hok Y=>?_⟩
  have hok:okT (e.out++part rs e.frm e.us++[swT k (codeS (scrS s))]):=hok
  rw [okT_append,okT_append] at hok
  have hcat:cat (e.out++part rs e.frm e.us++[swT k (codeS (scrS s))])=cat e.out++(cat (part rs e.frm e.us)++[239,codeS (scrS s)]):=by
   rw [cat_append,cat_append,List.append_assoc];simp [cat,swT]
  show okT (toksA rs 0 (cat (e.out++part rs e.frm e.us++[swT k (codeS (scrS s))])++Y))↔_
  rw [hcat,List.append_assoc,h.J hok.1.1,List.append_assoc]
  show okT (toksA rs 0 (cat (part rs e.frm e.us)++239 :: (codeS (scrS s) :: Y)))↔_
  rw [toks_splitT hw.in_ (codeS (scrS s) :: Y),okT_append]
  have hp:okT (toksA rs 0 (cat (part rs e.frm e.us))):=by
   have h2:=cat_ok _ _ hok.1.2
   unfold part
   rw [h2]
   exact ((both_ok hR hc e.us e.frm [] hok.1.2).1 0).2
  obtain ⟨t,t1,t2⟩:=toks_ruleT hR (hw.sw _ h9.1 h9.2) (fun q hq _=>hw.two q hq) Y (0+((cat (part rs e.frm e.us)).length:Int))
  rw [show (239:Int) :: (codeS (scrS s) :: Y)=[239,codeS (scrS s)]++Y from rfl,t2,okT_cons]
  rw [okT_posI Y _ 0]
  exact ⟨fun h=>h.2.2,fun h=>⟨hp,t1,h⟩⟩
 ·exact ⟨fun hok Y=>h.J hok Y⟩
theorem BO.run {rs:List Rule} (hR:Right rs) (hc:closedP rs) (hw:SwR rs) (ss:List Int):BO rs (esRun rs 0 es0 ss):=by
 induction ss using snocInd with
 | nil=>exact ⟨fun _ Y=>by simp [esRun,es0,cat]⟩
 | snoc l a ih=>rw [esRun_snoc];exact ih.step hR hc hw _ _
theorem meanT_ok:∀(sc:Int) (ts:List Tok),okT (meanT sc ts).1↔okT ts
 | _,[]=>Iff.rfl
 | sc,t :: ts=>by
  simp only [meanT,okT_cons]
  rw [meanT_ok _ ts]
theorem isc_back {rs:List Rule} (hI:Isc rs) {x:List Int} (h:okT ((PE.isc rs 0 [] [] 0).all x)):okT ((PD.isc rs 0 [] 0).all (flat ((PE.isc rs 0 [] [] 0).all x)))∧flat ((PD.isc rs 0 [] 0).all (flat ((PE.isc rs 0 [] [] 0).all x)))=x:=by
 rw [PE.all_isc hI] at h ⊢
 rw [PD.all_isc,List.nil_append,meanT_ok]
 have hs:=esOut_scal hI.right h
 have hB:=BK.run2 hI.right hI.closed hI.sw x hs
 have hO:=BO.run hI.right hI.closed hI.sw x
 generalize esRun rs 0 es0 x=e at h hB hO
 have h':okT (e.out++part rs e.frm e.us):=h
 rw [okT_append] at h'
 obtain ⟨pre,j1,j2⟩:=hB.J h'.1
 refine ⟨?_,?_⟩
 ·show okT (toksA rs 0 (cat (e.out++part rs e.frm e.us)))
  rw [cat_append,hO.J h'.1]
  have h2:=cat_ok _ _ h'.2
  unfold part
  rw [h2]
  exact ((both_ok hI.right hI.closed e.us e.frm [] h'.2).1 0).2
 ·have hm:=mean_cat 0 (toksA rs 0 (flat (esOut rs e)))
  have:muU 0 (cat (toksA rs 0 (flat (esOut rs e))))=(x,e.sc):=by
   show muU 0 (cat (toksA rs 0 (cat (e.out++part rs e.frm e.us))))=_
   rw [cat_append,muU_muF,j1,part_ok hI.right hI.closed h'.2,j2]
  rw [this] at hm
  exact congrArg Prod.fst hm
theorem back_all {n:Nat} {x:List Int} (h:okT ((PE.init n).all x)):okT ((PD.init n).all (flat ((PE.init n).all x)))∧flat ((PD.init n).all (flat ((PE.init n).all x)))=x:=by
 unfold PE.init PD.init at *
 by_cases h0:n=0
 ·rw [if_pos h0] at *;rw [if_pos h0];exact utf_back h
 ·rw [if_neg h0] at *;rw [if_neg h0]
  by_cases h7:n=7
  ·rw [if_pos h7] at *;rw [if_pos h7];exact isc_back isc_ok h
  ·rw [if_neg h7] at *;rw [if_neg h7];exact tab_back (tab_all n).right (tab_all n).closed h
theorem flat8 {ts:List Tok} {m:Nat} (h:fewO ts) (hl:ts.length≤m):(flat ts).length≤8*m:=by
 have:=flat_len h
 omega
end Go.AM.M
namespace Go.AM.M
open Go.AM
set_option maxRecDepth 100000
structure Alone (rs:List Rule) (F:Int→List Int) (us:List Int):Prop where
 one:∀u∈us,([u],F u)∈rs
 two:∀r∈rs,∀u∈us,∀v∈us,r.1.take 2≠[u,v]
theorem Alone.sub {rs:List Rule} {F:Int→List Int} {us vs:List Int} (h:Alone rs F us) (hs:∀u∈vs,u∈us):Alone rs F vs:=⟨fun u hu=>h.one u (hs u hu),fun r hr u hu v hv=>h.two r hr u (hs u hu) v (hs v hv)⟩
end Go.AM.M
namespace Go.AM.M
open Go.AM
theorem fit1 {n m:Nat} (h:n≤1000000000) (h2:m≤1000000):decide ((n+m)*(1:Nat)≤(2:Nat) ^ (46:Nat))=true:=by
 rw [decide_eq_true_eq];omega
theorem uputok_eq {fu:Nat} {b:List Int} {s:Int} (h:scalB s=true) (hb:b.length≤1000000000):utf_Put_ok fu (b,s)=some (b++u8 s):=by
 have hs:=scalB_iff.1 h
 unfold utf_Put_ok
 dsimp only
 rw [size_eq h,bind_some',u8_size]
 have p6:Int.fdiv s (2 ^ min (Int.toNat 6) 64)=s / 64:=fdiv_pos (k:=6) hs.1
 have p12:Int.fdiv s (2 ^ min (Int.toNat 12) 64)=s / 4096:=fdiv_pos (k:=12) hs.1
 have p18:Int.fdiv s (2 ^ min (Int.toNat 18) 64)=s / 262144:=fdiv_pos (k:=18) hs.1
 rw [p6,p12,p18,and63,and63,and63]
 unfold u8
 have i64:∀x:Int,w64 (x % 64)=x % 64:=fun x=>w64_id (by omega) (by omega)
 have i128:∀x:Int,w8 (w64 (((BitVec.ofInt 64 (128:Int)) ||| (BitVec.ofInt 64 (w64 (x % 64)))).toNat:Int))=128+x % 64:=fun x=>by rw [i64,or128 (by omega) (by omega),w8w64 (by omega) (by omega)]
 rw [i128,i128,i128]
 by_cases c1:s<128
 ·rw [if_pos c1,if_pos c1,beq_t (by rfl),cond_true,w8_id (by omega) (by omega),fit1 hb (by simp),cond_true]
 rw [if_neg c1,if_neg c1]
 by_cases c2:s<2048
 ·rw [if_pos c2,if_pos c2,beq_f (by decide),cond_false,beq_t (by rfl),cond_true,or192 (by omega) (by omega),w8w64 (by omega) (by omega),fit1 hb (by simp),cond_true]
 rw [if_neg c2,if_neg c2]
 by_cases c3:s<65536
 ·rw [if_pos c3,if_pos c3,beq_f (by decide),cond_false,beq_f (by decide),cond_false,beq_t (by rfl),cond_true,or224 (by omega) (by omega),w8w64 (by omega) (by omega),fit1 hb (by simp),cond_true]
 ·rw [if_neg c3,if_neg c3,beq_f (by decide),cond_false,beq_f (by decide),cond_false,beq_f (by decide),cond_false,beq_t (by rfl),cond_true,or240 (by omega) (by omega),w8w64 (by omega) (by omega),fit1 hb (by simp),cond_true]
def Cov (z:Bool):Int→List Tok→Int→Prop
 | a,[],b=>a=b
 | a,t :: ts,b=>t.1=a∧(t.2.2.2=0∨t.2.2.2=3)∧(1≤t.2.1∨(z=true∧t.2.1=0))∧Cov z (a+t.2.1) ts b
theorem Cov.app {z:Bool}:∀{xs ys:List Tok} {a b c:Int},Cov z a xs b→Cov z b ys c→Cov z a (xs++ys) c
 | [],_,_,_,_,h1,h2=>by have h1:_=_:=h1;subst h1;exact h2
 | x :: xs,_,_,_,_,⟨h1,h2,h3,h4⟩,h5=>⟨h1,h2,h3,Cov.app h4 h5⟩
def PE.at':PE→Int
 | .tab _ _ _ a=>a
 | .utf a=>a
 | .isc _ _ _ _ a=>a
abbrev LDS:=List DSt
abbrev LES:=List ESt
abbrev WS:=List Int×(Int×Int×Int)
abbrev SSt:=ByteArray×(ByteArray×Int×Nat×Nat×List Int×Int×Int×Int×Bool×Bool×LDS×LES)
def mkS (a b:ByteArray) (pol:Int) (x:WS) (en cl:Bool) (D:LDS) (E:LES):SSt:=(a,b,pol,(0:Nat),(0:Nat),x.1,x.2.1,x.2.2.1,x.2.2.2,en,cl,D,E)
def wrT (pol:Int) (x:WS) (t:Tok):WS:=
 if x.2.2.2≠0 then x else if t.2.2.2=0 then (x.1++t.2.2.1.map w8,x.2) else if pol=0 then (x.1,2,t.1,t.2.2.2) else if pol=1 then (x.1++[63],x.2) else x
def wrTs (pol:Int) (x:WS) (ts:List Tok):WS:=ts.foldl (wrT pol) x
theorem wrTs_append (pol:Int) (x:WS) (a b:List Tok):wrTs pol x (a++b)=wrTs pol (wrTs pol x a) b:=by simp [wrTs]
theorem wrT_fault {pol:Int} {x:WS} {t:Tok} (h:x.2.2.2≠0):wrT pol x t=x:=by unfold wrT;rw [if_pos h]
theorem wrTs_fault {pol:Int} {x:WS} (h:x.2.2.2≠0):∀ts,wrTs pol x ts=x
 | []=>rfl
 | t :: ts=>by
  show wrTs pol (wrT pol x t) ts=x
  rw [wrT_fault h,wrTs_fault h ts]
theorem wrT_len {pol:Int} {x:WS} {t:Tok} (h:t.2.2.1.length≤8):x.1.length≤(wrT pol x t).1.length∧(wrT pol x t).1.length≤x.1.length+8∧x.1 <+: (wrT pol x t).1:=by
 unfold wrT
 repeat' split
 all_goals first | exact ⟨Nat.le_refl _,Nat.le_add_right _ _,List.prefix_rfl⟩ | exact ⟨by simp,by simp <;> omega,List.prefix_append _ _⟩
theorem wrTs_len {pol:Int}:∀{ts:List Tok} {x:WS},fewO ts→x.1.length≤(wrTs pol x ts).1.length∧(wrTs pol x ts).1.length≤x.1.length+8*ts.length∧x.1 <+: (wrTs pol x ts).1
 | [],x,_=>⟨Nat.le_refl _,by simp [wrTs],List.prefix_rfl⟩
 | t :: ts,x,h=>by
  obtain ⟨h1,h2,h3⟩:=wrT_len (pol:=pol) (x:=x) (h t (by simp))
  obtain ⟨h4,h5,h6⟩:=wrTs_len (pol:=pol) (x:=wrT pol x t) (fun y hy=>h y (List.mem_cons_of_mem _ hy))
  show x.1.length≤(wrTs pol (wrT pol x t) ts).1.length∧_
  simp only [List.length_cons]
  exact ⟨by omega,by show (wrTs pol (wrT pol x t) ts).1.length≤_;omega,h3.trans h6⟩
theorem wrong_eq {fu:Nat} {sd at' ln er:Int} {o:List Int} {a b:ByteArray} {pol:Int} {x:WS} {en cl:Bool} {D:LDS} {E:LES} :
  stream_Stream_wrong fu (sd,at',ln,o,er,mkS a b pol x en cl D E)=some (decide (pol=0),mkS a b pol (if pol=0 then (x.1,sd,at',er) else x) en cl D E):=by
 unfold stream_Stream_wrong mkS
 dsimp only
 by_cases h:pol=0
 ·rw [beq_t h,cond_true,if_pos h,decide_eq_true h]
 ·rw [beq_f h,cond_false,if_neg h,decide_eq_false h]
theorem wr_L0 {ts:List Tok} {n k:Int} {out:List Int} (ho:out.length≤8) {a b:ByteArray} {pol:Int} {x:WS} (hx:x.1.length≤900000000) {en cl:Bool} {D:LDS} {E:LES} (q1 q2:Int) (q3:List Int) (q4:Int) :
  loopM (stream_Stream_written_L0 FU64) FU64 (ts,ts,n,k,out,(out.length:Int),(0:Int),a,b,pol,(0:Nat),(0:Nat),x.1,x.2.1,x.2.2.1,x.2.2.2,en,cl,D,E,q1,q2,q3,q4) =
   some (.inl (ts,ts,n,w64 (k+1),mkS a b pol (x.1++out.map w8,x.2) en cl D E)):=by
 have:=loop_st (f:=stream_Stream_written_L0 FU64) (fun j=>(ts,ts,n,k,out,(out.length:Int),(j:Int),a,b,pol,(0:Nat),(0:Nat),(x.1++(out.take j).map w8,(x.2.1,x.2.2.1,x.2.2.2,en,cl,D,E,q1,q2,q3,q4)))) (m:=out.length) (fu:=FU64) (r:=.inl (ts,ts,n,w64 (k+1),mkS a b pol (x.1++out.map w8,x.2) en cl D E)) (fun j hj=>by
   unfold stream_Stream_written_L0
   dsimp only
   rw [decide_eq_true (by omega),cond_true,nthI_get hj,bind_some',fit1 (n:=(x.1++(out.take j).map w8).length) (by simp;omega) (by simp),cond_true,w64_succ hj (by omega),List.take_succ_eq_append_getElem hj,List.map_append,List.append_assoc]
   rfl) (by
   unfold stream_Stream_written_L0
   dsimp only
   rw [decide_eq_false (by omega),cond_false,List.take_length]
   rfl) (by unfold FU64;omega)
 simp only [List.take_zero,List.map_nil,List.append_nil] at this
 exact this
theorem wr_L1 {ts:List Tok} (hn:ts.length≤1000000) (hf:fewO ts) {a b:ByteArray} {pol:Int} {en cl:Bool} {D:LDS} {E:LES}:∀(m k g:Nat) (x:WS),k+m=ts.length→m<g→x.1.length+8*m≤900000000→
  loopM (stream_Stream_written_L1 FU64) g (ts,ts,(ts.length:Int),(k:Int),mkS a b pol x en cl D E)=some (mkS a b pol (wrTs pol x (ts.drop k)) en cl D E):=by
 intro m
 induction m with
 | zero=>
  intro k g x hk hg _
  obtain ⟨g,rfl⟩:∃q,g=q+1:=⟨g - 1,by omega⟩
  rw [List.drop_eq_nil_of_le (by omega),loopM_succ]
  unfold stream_Stream_written_L1 mkS
  dsimp only
  rw [decide_eq_false (by omega),cond_false]
  rfl
 | succ m ih=>
  intro k g x hk hg hx
  obtain ⟨g,rfl⟩:∃q,g=q+1:=⟨g - 1,by omega⟩
  have hkl:k<ts.length:=by omega
  have h8:=hf ts[k] (List.getElem_mem hkl)
  have hlen:=wrT_len (pol:=pol) (x:=x) h8
  rw [List.drop_eq_getElem_cons hkl]
  show _=some (mkS a b pol (wrTs pol (wrT pol x ts[k]) (ts.drop (k+1))) en cl D E)
  by_cases he:x.2.2.2=0
  ·rw [←ih (k+1) g (wrT pol x ts[k]) (by omega) (by omega) (by omega),loopM_succ]
   have e:stream_Stream_written_L1 FU64 (ts,ts,(ts.length:Int),(k:Int),mkS a b pol x en cl D E)=some (.inl (ts,ts,(ts.length:Int),((k+1:Nat):Int),mkS a b pol (wrT pol x ts[k]) en cl D E)):=by
    unfold stream_Stream_written_L1
    rw [show mkS a b pol x en cl D E=(a,b,pol,(0:Nat),(0:Nat),x.1,x.2.1,x.2.2.1,x.2.2.2,en,cl,D,E) from rfl]
    dsimp only
    rw [decide_eq_true (by omega),cond_true,nthI_get hkl,bind_some',bne_eq_false_iff_eq.2 he,cond_false]
    by_cases h0:ts[k].2.2.2=0
    ·rw [beq_t h0,cond_true,wr_L0 h8 (by omega),w64_succ hkl (by omega)]
     unfold wrT
     rw [if_neg (by simp [he]),if_pos h0]
    ·rw [beq_f h0,cond_false,show (ts[k].1,ts[k].2.1,ts[k].2.2.1,ts[k].2.2.2,a,b,pol,(0:Nat),(0:Nat),x.1,x.2.1,x.2.2.1,x.2.2.2,en,cl,D,E)=(ts[k].1,ts[k].2.1,ts[k].2.2.1,ts[k].2.2.2,mkS a b pol x en cl D E) from rfl,wrong_eq,bind_some',w64_succ hkl (by omega)]
     have hw:wrT pol x ts[k]=if pol=0 then (x.1,2,ts[k].1,ts[k].2.2.2) else if pol=1 then (x.1++[63],x.2) else x:=by
      unfold wrT
      rw [if_neg (by simp [he]),if_neg h0]
     rw [hw]
     by_cases hp:pol=0
     ·simp only [if_pos hp,decide_eq_true hp]
      try rfl
     ·simp only [if_neg hp,decide_eq_false hp]
      by_cases h1:pol=1
      ·simp only [if_pos h1]
       show (bif true then (bif pol == 1 then (bif decide ((x.1.length + [(63:Int)].length)*1≤2 ^ 46) then _ else _) else _) else _)=_
       rw [cond_true,beq_t h1,cond_true,fit1 (by omega) (by simp),cond_true]
       try rfl
      ·simp only [if_neg h1]
       show (bif true then (bif pol == 1 then _ else _) else _)=_
       rw [cond_true,beq_f h1,cond_false]
       try rfl
   rw [e]
  ·rw [wrT_fault he,wrTs_fault he,loopM_succ]
   unfold stream_Stream_written_L1 mkS
   dsimp only
   rw [decide_eq_true (by omega),cond_true,nthI_get hkl,bind_some',bne_iff_ne.2 he,cond_true]
theorem written_eq {ts:List Tok} (hn:ts.length≤1000000) (hf:fewO ts) {a b:ByteArray} {pol:Int} {x:WS} (hx:x.1.length+8*ts.length≤900000000) {en cl:Bool} {D:LDS} {E:LES} :
  stream_Stream_written FU64 (ts,mkS a b pol x en cl D E)=some (mkS a b pol (wrTs pol x ts) en cl D E):=by
 have:=wr_L1 hn hf (a:=a) (b:=b) (pol:=pol) (en:=en) (cl:=cl) (D:=D) (E:=E) ts.length 0 FU64 x (Nat.zero_add _) (by unfold FU64;omega) hx
 rw [List.drop_zero] at this
 exact this
def putX (pol:Int) (y:WS×PE) (u:Int):WS×PE:=if y.1.2.2.2=0 then (wrTs pol y.1 (y.2.put u).1,(y.2.put u).2) else y
def putsX (pol:Int) (y:WS×PE) (us:List Int):WS×PE:=us.foldl (putX pol) y
def lastX (pol:Int) (y:WS×PE) (f:Int×(Int×Int)):WS×PE:=
 (if (wrTs pol (y.1.1,0,0,0) y.2.fin.1).2.2.2≠0 then wrTs pol (y.1.1,0,0,0) y.2.fin.1 else ((wrTs pol (y.1.1,0,0,0) y.2.fin.1).1,f),y.2.fin.2)
def tkO (pol:Int) (t:Tok):List Int:=if t.2.2.2≠0 then (if pol=1 then [65533] else []) else t.2.2.1
def tkW (pol:Int) (t:Tok) (z:WS×PE):Prop:=t.2.2.2≠0∧z.1.2.2.2=0∧pol=0
instance (pol:Int) (t:Tok) (z:WS×PE):Decidable (tkW pol t z):=by unfold tkW;exact inferInstance
def tkY (pol:Int) (t:Tok) (z:WS×PE):WS×PE:=if tkW pol t z then lastX pol z (1,t.1,t.2.2.2) else z
def takeT (pol:Int) (y:WS×PE) (t:Tok):WS×PE:=tkY pol t (putsX pol y (tkO pol t))
def takeTs (pol:Int) (y:WS×PE) (ts:List Tok):WS×PE:=ts.foldl (takeT pol) y
theorem putsX_fault {pol:Int} {y:WS×PE} (h:y.1.2.2.2≠0):∀us,putsX pol y us=y
 | []=>rfl
 | u :: us=>by
  show putsX pol (putX pol y u) us=y
  have:putX pol y u=y:=if_neg h
  rw [this,putsX_fault h us]
theorem takeT_fault {pol:Int} {y:WS×PE} (h:y.1.2.2.2≠0) (t:Tok):takeT pol y t=y:=by
 unfold takeT tkY
 rw [putsX_fault h,if_neg (fun hw=>h hw.2.1)]
theorem takeTs_fault {pol:Int} {y:WS×PE} (h:y.1.2.2.2≠0):∀ts,takeTs pol y ts=y
 | []=>rfl
 | t :: ts=>by
  show takeTs pol (takeT pol y t) ts=y
  rw [takeT_fault h,takeTs_fault h ts]
theorem takeTs_append (pol:Int) (y:WS×PE) (a b:List Tok):takeTs pol y (a++b)=takeTs pol (takeTs pol y a) b:=by simp [takeTs]
structure RX (k:Nat) (y:WS×PE) (xe:ESt):Prop where
 ok:y.2.Ok k
 rep:y.2.Rep k xe
theorem lastX_er {pol:Int} {y:WS×PE} {f:Int×(Int×Int)} (h:f.2.2≠0):(lastX pol y f).1.2.2.2≠0:=by
 unfold lastX
 dsimp only
 split
 ·assumption
 ·exact h
theorem put_step {a b:ByteArray} {pol:Int} {en cl:Bool} {D:LDS} {k:Nat} {y:WS×PE} {xe:ESt} (hr:RX k y xe) (hk:k≤1000000000) (hb:y.1.1.length+40≤900000000) (u:Int) :
  ∃xe' k',(y.1.2.2.2=0→ko_encPut FU64 xe u=some ((y.2.put u).1,xe')∧stream_Stream_written FU64 ((y.2.put u).1,mkS a b pol y.1 en cl D [xe'])=some (mkS a b pol (putX pol y u).1 en cl D [xe']))∧RX k' (putX pol y u) xe'∧(k'≤k+1∧(putX pol y u).1.1.length≤y.1.1.length+40∧y.1.1 <+: (putX pol y u).1.1)∧(y.1.2.2.2≠0→xe'=xe):=by
 by_cases h0:y.1.2.2.2=0
 ·obtain ⟨xe',e1,e2⟩:=encPut_eq hr.ok hr.rep hk u
  obtain ⟨p1,p2,p3⟩:=PE.put_ok hr.ok u
  have h3:=PE.held3 hr.ok
  have hp:putX pol y u=(wrTs pol y.1 (y.2.put u).1,(y.2.put u).2):=if_pos h0
  have hl:=wrTs_len (pol:=pol) (x:=y.1) p2
  rw [hp]
  refine ⟨xe',k+1,fun _=>⟨e1,written_eq (by omega) p2 (by omega)⟩,⟨p1,e2⟩,⟨Nat.le_refl _,?_,hl.2.2⟩,fun h=>absurd h0 h⟩
  show (wrTs pol y.1 (y.2.put u).1).1.length≤_
  omega
 ·have hp:putX pol y u=y:=if_neg h0
  rw [hp]
  exact ⟨xe,k,fun h=>absurd h h0,hr,⟨by omega,by omega,List.prefix_rfl⟩,fun _=>rfl⟩
theorem slast_eq {a b:ByteArray} {pol:Int} {en cl:Bool} {D:LDS} {k:Nat} {y:WS×PE} {xe:ESt} (hr:RX k y xe) (hk:k≤1000000000) (hb:y.1.1.length+40≤900000000) {f:Int×(Int×Int)} :
  ∃xe',RX k (lastX pol y f) xe'∧∃w:WS,stream_Stream_last FU64 (mkS a b pol (y.1.1,f) en cl D [xe])=some ((lastX pol y f).1.2.1,(lastX pol y f).1.2.2.1,(lastX pol y f).1.2.2.2,mkS a b pol w en cl D [xe'])∧w.1=(lastX pol y f).1.1:=by
 obtain ⟨xe',e1,e2⟩:=encEnd_eq hr.ok hr.rep hk
 obtain ⟨p1,p2,p3,p4⟩:=PE.fin_ok hr.ok
 have h3:=PE.held3 hr.ok
 have hw:=written_eq (ts:=y.2.fin.1) (by omega) p3 (a:=a) (b:=b) (pol:=pol) (x:=(y.1.1,(0:Int),(0:Int),(0:Int))) (by show y.1.1.length+_≤_;omega) (en:=en) (cl:=cl) (D:=D) (E:=[xe'])
 refine ⟨xe',⟨p1,e2⟩,wrTs pol (y.1.1,0,0,0) y.2.fin.1,?_,?_⟩
 ·unfold stream_Stream_last mkS
  unfold mkS at hw
  dsimp only at hw ⊢
  rw [List.getElem?_cons_zero,bind_some',e1,bind_some',show List.set [xe] 0 xe'=[xe'] from rfl,hw,bind_some']
  unfold lastX
  by_cases h:(wrTs pol (y.1.1,0,0,0) y.2.fin.1).2.2.2=0
  ·rw [bne_eq_false_iff_eq.2 h,cond_false,if_neg (by simp [h])]
  ·rw [bne_iff_ne.2 h,cond_true,if_pos h]
 ·unfold lastX
  dsimp only
  split <;> rfl
def tkR (ts:List Tok) (n kk:Int) (a b:ByteArray) (pol:Int) (en cl:Bool) (D:LDS) (t:Tok) (z:WS×PE) (xe:ESt):stream_Stream_taken_S2⊕SSt:=
 if tkW pol t z then .inr (mkS a b pol (lastX pol z (1,t.1,t.2.2.2)).1 en cl D [xe]) else .inl (ts,ts,n,w64 (kk+1),mkS a b pol z.1 en cl D [xe])
def tailO (ts:List Tok) (n kk:Int) (a b:ByteArray) (pol:Int) (x:WS) (en cl:Bool) (D:LDS) (E:LES) (t:Tok):Option (stream_Stream_taken_S2⊕SSt):=
 bif (t.2.2.2 != (0:Int)) then
  bif (x.2.2.2 == (0:Int)) then
   ((stream_Stream_wrong FU64 ((1:Int),t.1,t.2.1,t.2.2.1,t.2.2.2,a,b,pol,(0:Nat),(0:Nat),x.1,x.2.1,x.2.2.1,x.2.2.2,en,cl,D,E))).bind fun y4=>
   bif y4.1 then
    ((stream_Stream_last FU64 (y4.2.1,y4.2.2.1,y4.2.2.2.1,y4.2.2.2.2.1,y4.2.2.2.2.2.1,y4.2.2.2.2.2.2.1,y4.2.2.2.2.2.2.2.1,y4.2.2.2.2.2.2.2.2.1,y4.2.2.2.2.2.2.2.2.2.1,y4.2.2.2.2.2.2.2.2.2.2.1,y4.2.2.2.2.2.2.2.2.2.2.2.1,y4.2.2.2.2.2.2.2.2.2.2.2.2.1,y4.2.2.2.2.2.2.2.2.2.2.2.2.2))).bind fun y5=>
    some (Sum.inr (y5.2.2.2.1,y5.2.2.2.2.1,y5.2.2.2.2.2.1,y5.2.2.2.2.2.2.1,y5.2.2.2.2.2.2.2.1,y5.2.2.2.2.2.2.2.2.1,y5.1,y5.2.1,y5.2.2.1,y5.2.2.2.2.2.2.2.2.2.2.2.2.1,y5.2.2.2.2.2.2.2.2.2.2.2.2.2.1,y5.2.2.2.2.2.2.2.2.2.2.2.2.2.2.1,y5.2.2.2.2.2.2.2.2.2.2.2.2.2.2.2))
   else
    some (Sum.inl (ts,ts,n,(w64 (kk+(1:Int))),y4.2.1,y4.2.2.1,y4.2.2.2.1,y4.2.2.2.2.1,y4.2.2.2.2.2.1,y4.2.2.2.2.2.2.1,y4.2.2.2.2.2.2.2.1,y4.2.2.2.2.2.2.2.2.1,y4.2.2.2.2.2.2.2.2.2.1,y4.2.2.2.2.2.2.2.2.2.2.1,y4.2.2.2.2.2.2.2.2.2.2.2.1,y4.2.2.2.2.2.2.2.2.2.2.2.2.1,y4.2.2.2.2.2.2.2.2.2.2.2.2.2))
  else
   some (Sum.inl (ts,ts,n,(w64 (kk+(1:Int))),mkS a b pol x en cl D E))
 else
  some (Sum.inl (ts,ts,n,(w64 (kk+(1:Int))),mkS a b pol x en cl D E))
theorem tk_tail {ts:List Tok} {n kk:Int} {a b:ByteArray} {pol:Int} {en cl:Bool} {D:LDS} (t:Tok) {k:Nat} {y:WS×PE} {xe:ESt} (hr:RX k y xe) (hk:k≤1000000000) (hb:y.1.1.length+40≤900000000) :
  ∃xe',tailO ts n kk a b pol y.1 en cl D [xe] t=some (tkR ts n kk a b pol en cl D t y xe')∧RX k (tkY pol t y) xe':=by
 by_cases hw:tkW pol t y
 ·obtain ⟨h1,h2,h3⟩:=hw
  obtain ⟨xe',e1,w,e2,e3⟩:=slast_eq (a:=a) (b:=b) (pol:=pol) (en:=en) (cl:=cl) (D:=D) hr hk hb (f:=(1,t.1,t.2.2.2))
  refine ⟨xe',?_,?_⟩
  ·have hwr:=wrong_eq (fu:=FU64) (sd:=1) (at':=t.1) (ln:=t.2.1) (er:=t.2.2.2) (o:=t.2.2.1) (a:=a) (b:=b) (pol:=pol) (x:=y.1) (en:=en) (cl:=cl) (D:=D) (E:=[xe])
   rw [if_pos h3,decide_eq_true h3] at hwr
   unfold tailO
   rw [bne_iff_ne.2 h1,cond_true,beq_t h2,cond_true]
   have hwr':stream_Stream_wrong FU64 ((1:Int),t.1,t.2.1,t.2.2.1,t.2.2.2,a,b,pol,(0:Nat),(0:Nat),y.1.1,y.1.2.1,y.1.2.2.1,y.1.2.2.2,en,cl,D,[xe])=_:=hwr
   rw [hwr',bind_some']
   have e2':stream_Stream_last FU64 (a,b,pol,(0:Nat),(0:Nat),y.1.1,(1:Int),t.1,t.2.2.2,en,cl,D,[xe])=_:=e2
   show (bif true then ((stream_Stream_last FU64 (a,b,pol,(0:Nat),(0:Nat),y.1.1,(1:Int),t.1,t.2.2.2,en,cl,D,[xe])).bind _) else _)=_
   rw [cond_true,e2',bind_some']
   unfold tkR
   rw [if_pos ⟨h1,h2,h3⟩]
   unfold mkS
   dsimp only
   rw [e3]
  ·unfold tkY
   rw [if_pos ⟨h1,h2,h3⟩];exact e1
 ·refine ⟨xe,?_,by unfold tkY;rw [if_neg hw];exact hr⟩
  unfold tkR
  rw [if_neg hw]
  unfold tailO
  by_cases h1:t.2.2.2=0
  ·rw [bne_eq_false_iff_eq.2 h1,cond_false]
  ·rw [bne_iff_ne.2 h1,cond_true]
   by_cases h2:y.1.2.2.2=0
   ·have h3:¬pol=0:=fun h3=>hw ⟨h1,h2,h3⟩
    have hwr:=wrong_eq (fu:=FU64) (sd:=1) (at':=t.1) (ln:=t.2.1) (er:=t.2.2.2) (o:=t.2.2.1) (a:=a) (b:=b) (pol:=pol) (x:=y.1) (en:=en) (cl:=cl) (D:=D) (E:=[xe])
    rw [if_neg h3,decide_eq_false h3] at hwr
    have hwr':stream_Stream_wrong FU64 ((1:Int),t.1,t.2.1,t.2.2.1,t.2.2.2,a,b,pol,(0:Nat),(0:Nat),y.1.1,y.1.2.1,y.1.2.2.1,y.1.2.2.2,en,cl,D,[xe])=_:=hwr
    rw [beq_t h2,cond_true,hwr',bind_some']
    rfl
   ·rw [beq_f h2,cond_false]
theorem tk_L0 {ts:List Tok} {n kk:Int} {out:List Int} (ho:out.length≤8) {a b:ByteArray} {pol:Int} {en cl:Bool} {D:LDS} (t:Tok):∀(m j g k:Nat) (y:WS×PE) (xe:ESt),j+m=out.length→m<g→RX k y xe→k+m≤1000000000→y.1.1.length+40*m+40≤900000000→
  ∃xe' k',loopM (stream_Stream_taken_L0 FU64) g (ts,out,ts,n,kk,(out.length:Int),(j:Int),a,b,pol,(0:Nat),(0:Nat),y.1.1,y.1.2.1,y.1.2.2.1,y.1.2.2.2,en,cl,D,[xe],t.1,t.2.1,t.2.2.1,t.2.2.2)=some (tkR ts n kk a b pol en cl D t (putsX pol y (out.drop j)) xe')∧RX k' (tkY pol t (putsX pol y (out.drop j))) xe'∧k'≤k+m:=by
 intro m
 induction m with
 | zero=>
  intro j g k y xe hj hg hr hk hb
  obtain ⟨g,rfl⟩:∃q,g=q+1:=⟨g - 1,by omega⟩
  rw [List.drop_eq_nil_of_le (by omega),loopM_succ]
  obtain ⟨xe',e1,e2⟩:=tk_tail (ts:=ts) (n:=n) (kk:=kk) (a:=a) (b:=b) (pol:=pol) (en:=en) (cl:=cl) (D:=D) t hr (by omega) (by omega)
  refine ⟨xe',k,?_,e2,by omega⟩
  have e0:stream_Stream_taken_L0 FU64 (ts,out,ts,n,kk,(out.length:Int),(j:Int),a,b,pol,(0:Nat),(0:Nat),y.1.1,y.1.2.1,y.1.2.2.1,y.1.2.2.2,en,cl,D,[xe],t.1,t.2.1,t.2.2.1,t.2.2.2)=Option.map Sum.inr (tailO ts n kk a b pol y.1 en cl D [xe] t):=by
   unfold stream_Stream_taken_L0
   dsimp only
   rw [decide_eq_false (by omega),cond_false]
   rfl
  rw [e0,e1]
  rfl
 | succ m ih=>
  intro j g k y xe hj hg hr hk hb
  obtain ⟨g,rfl⟩:∃q,g=q+1:=⟨g - 1,by omega⟩
  have hjl:j<out.length:=by omega
  obtain ⟨xe1,k1,e1,e2,e3,e4⟩:=put_step (a:=a) (b:=b) (pol:=pol) (en:=en) (cl:=cl) (D:=D) hr (by omega) (by omega) out[j]
  obtain ⟨xe',k',i1,i2,i3⟩:=ih (j+1) g k1 (putX pol y out[j]) xe1 (by omega) (by omega) e2 (by omega) (by omega)
  refine ⟨xe',k',?_,?_,by omega⟩
  ·rw [List.drop_eq_getElem_cons hjl]
   show _=some (tkR ts n kk a b pol en cl D t (putsX pol (putX pol y out[j]) (out.drop (j+1))) xe')
   rw [←i1,loopM_succ]
   have step:stream_Stream_taken_L0 FU64 (ts,out,ts,n,kk,(out.length:Int),(j:Int),a,b,pol,(0:Nat),(0:Nat),y.1.1,y.1.2.1,y.1.2.2.1,y.1.2.2.2,en,cl,D,[xe],t.1,t.2.1,t.2.2.1,t.2.2.2)=some (.inl (ts,out,ts,n,kk,(out.length:Int),((j+1:Nat):Int),a,b,pol,(0:Nat),(0:Nat),(putX pol y out[j]).1.1,(putX pol y out[j]).1.2.1,(putX pol y out[j]).1.2.2.1,(putX pol y out[j]).1.2.2.2,en,cl,D,[xe1],t.1,t.2.1,t.2.2.1,t.2.2.2)):=by
    unfold stream_Stream_taken_L0
    dsimp only
    rw [decide_eq_true (by omega),cond_true,nthI_get hjl,bind_some',Int.toNat_natCast,List.getElem?_eq_getElem hjl,bind_some',w64_succ hjl (by omega)]
    by_cases h0:y.1.2.2.2=0
    ·obtain ⟨z1,z2⟩:=e1 h0
     rw [beq_t h0,cond_true,List.getElem?_cons_zero,bind_some',z1,bind_some']
     have z2:=z2
     unfold mkS at z2
     rw [show List.set [xe] 0 xe1=[xe1] from rfl,z2,bind_some']
    ·rw [beq_f h0,cond_false]
     have:putX pol y out[j]=y:=if_neg h0
     rw [this]
     have hx:xe1=xe:=e4 h0
     rw [hx]
   rw [step]
  ·rw [List.drop_eq_getElem_cons hjl]
   exact i2
theorem tk_L1 {ts:List Tok} {n kk:Int} {out o2:List Int} (ho:out.length≤8) {a b:ByteArray} {pol:Int} {en cl:Bool} {D:LDS} (t:Tok):∀(m j g k:Nat) (y:WS×PE) (xe:ESt),j+m=out.length→m<g→RX k y xe→k+m≤1000000000→y.1.1.length+40*m+40≤900000000→
  ∃xe' k',loopM (stream_Stream_taken_L1 FU64) g (ts,o2,ts,n,kk,out,(out.length:Int),(j:Int),a,b,pol,(0:Nat),(0:Nat),y.1.1,y.1.2.1,y.1.2.2.1,y.1.2.2.2,en,cl,D,[xe],t.1,t.2.1,t.2.2.1,t.2.2.2)=some (tkR ts n kk a b pol en cl D t (putsX pol y (out.drop j)) xe')∧RX k' (tkY pol t (putsX pol y (out.drop j))) xe'∧k'≤k+m:=by
 intro m
 induction m with
 | zero=>
  intro j g k y xe hj hg hr hk hb
  obtain ⟨g,rfl⟩:∃q,g=q+1:=⟨g - 1,by omega⟩
  rw [List.drop_eq_nil_of_le (by omega),loopM_succ]
  obtain ⟨xe',e1,e2⟩:=tk_tail (ts:=ts) (n:=n) (kk:=kk) (a:=a) (b:=b) (pol:=pol) (en:=en) (cl:=cl) (D:=D) t hr (by omega) (by omega)
  refine ⟨xe',k,?_,e2,by omega⟩
  have e0:stream_Stream_taken_L1 FU64 (ts,o2,ts,n,kk,out,(out.length:Int),(j:Int),a,b,pol,(0:Nat),(0:Nat),y.1.1,y.1.2.1,y.1.2.2.1,y.1.2.2.2,en,cl,D,[xe],t.1,t.2.1,t.2.2.1,t.2.2.2)=Option.map Sum.inr (tailO ts n kk a b pol y.1 en cl D [xe] t):=by
   unfold stream_Stream_taken_L1
   dsimp only
   rw [decide_eq_false (by omega),cond_false]
   rfl
  rw [e0,e1]
  rfl
 | succ m ih=>
  intro j g k y xe hj hg hr hk hb
  obtain ⟨g,rfl⟩:∃q,g=q+1:=⟨g - 1,by omega⟩
  have hjl:j<out.length:=by omega
  obtain ⟨xe1,k1,e1,e2,e3,e4⟩:=put_step (a:=a) (b:=b) (pol:=pol) (en:=en) (cl:=cl) (D:=D) hr (by omega) (by omega) out[j]
  obtain ⟨xe',k',i1,i2,i3⟩:=ih (j+1) g k1 (putX pol y out[j]) xe1 (by omega) (by omega) e2 (by omega) (by omega)
  refine ⟨xe',k',?_,?_,by omega⟩
  ·rw [List.drop_eq_getElem_cons hjl]
   show _=some (tkR ts n kk a b pol en cl D t (putsX pol (putX pol y out[j]) (out.drop (j+1))) xe')
   rw [←i1,loopM_succ]
   have step:stream_Stream_taken_L1 FU64 (ts,o2,ts,n,kk,out,(out.length:Int),(j:Int),a,b,pol,(0:Nat),(0:Nat),y.1.1,y.1.2.1,y.1.2.2.1,y.1.2.2.2,en,cl,D,[xe],t.1,t.2.1,t.2.2.1,t.2.2.2)=some (.inl (ts,o2,ts,n,kk,out,(out.length:Int),((j+1:Nat):Int),a,b,pol,(0:Nat),(0:Nat),(putX pol y out[j]).1.1,(putX pol y out[j]).1.2.1,(putX pol y out[j]).1.2.2.1,(putX pol y out[j]).1.2.2.2,en,cl,D,[xe1],t.1,t.2.1,t.2.2.1,t.2.2.2)):=by
    unfold stream_Stream_taken_L1
    dsimp only
    rw [decide_eq_true (by omega),cond_true,nthI_get hjl,bind_some',w64_succ hjl (by omega)]
    by_cases h0:y.1.2.2.2=0
    ·obtain ⟨z1,z2⟩:=e1 h0
     rw [beq_t h0,cond_true,List.getElem?_cons_zero,bind_some',z1,bind_some']
     have z2:=z2
     unfold mkS at z2
     rw [show List.set [xe] 0 xe1=[xe1] from rfl,z2,bind_some']
    ·rw [beq_f h0,cond_false]
     have:putX pol y out[j]=y:=if_neg h0
     rw [this]
     have hx:xe1=xe:=e4 h0
     rw [hx]
   rw [step]
  ·rw [List.drop_eq_getElem_cons hjl]
   exact i2
theorem putX_ok {pol:Int} {k:Nat} {y:WS×PE} (h:y.2.Ok k) (u:Int):∃k',(putX pol y u).2.Ok k'∧k'≤k+1∧(putX pol y u).1.1.length≤y.1.1.length+40∧y.1.1 <+: (putX pol y u).1.1:=by
 by_cases h0:y.1.2.2.2=0
 ·obtain ⟨p1,p2,p3⟩:=PE.put_ok h u
  have h3:=PE.held3 h
  have hp:putX pol y u=(wrTs pol y.1 (y.2.put u).1,(y.2.put u).2):=if_pos h0
  have hl:=wrTs_len (pol:=pol) (x:=y.1) p2
  rw [hp]
  exact ⟨k+1,p1,Nat.le_refl _,by show (wrTs pol y.1 (y.2.put u).1).1.length≤_;omega,hl.2.2⟩
 ·have hp:putX pol y u=y:=if_neg h0
  rw [hp]
  exact ⟨k,h,by omega,by omega,List.prefix_rfl⟩
theorem putsX_ok {pol:Int}:∀(us:List Int) {k:Nat} {y:WS×PE},y.2.Ok k→∃k',(putsX pol y us).2.Ok k'∧k'≤k+us.length∧(putsX pol y us).1.1.length≤y.1.1.length+40*us.length∧y.1.1 <+: (putsX pol y us).1.1
 | [],k,y,h=>⟨k,h,by omega,by simp [putsX],List.prefix_rfl⟩
 | u :: us,k,y,h=>by
  obtain ⟨k1,h1,h2,h3,h4⟩:=putX_ok (pol:=pol) h u
  obtain ⟨k2,g1,g2,g3,g4⟩:=putsX_ok us h1
  exact ⟨k2,g1,by simp only [List.length_cons];omega,by show (putsX pol (putX pol y u) us).1.1.length≤_;simp only [List.length_cons];omega,h4.trans g4⟩
theorem lastX_ok {pol:Int} {k:Nat} {y:WS×PE} (h:y.2.Ok k) (f:Int×(Int×Int)):(lastX pol y f).2.Ok k∧(lastX pol y f).1.1.length≤y.1.1.length+24∧y.1.1 <+: (lastX pol y f).1.1:=by
 obtain ⟨p1,p2,p3,p4⟩:=PE.fin_ok h
 have h3:=PE.held3 h
 have hl:=wrTs_len (pol:=pol) (x:=(y.1.1,(0:Int),(0:Int),(0:Int))) p3
 have hl:y.1.1.length≤_∧_≤y.1.1.length+_∧y.1.1 <+: _:=hl
 unfold lastX
 dsimp only
 refine ⟨p1,?_,?_⟩
 ·split <;> (try dsimp only) <;> omega
 ·split <;> exact hl.2.2
theorem tkO_len {pol:Int} {t:Tok} (h:t.2.2.1.length≤8):(tkO pol t).length≤8:=by
 unfold tkO
 repeat' split
 all_goals first | simp | exact h
theorem takeT_ok {pol:Int} {k:Nat} {y:WS×PE} (h:y.2.Ok k) {t:Tok} (ht:t.2.2.1.length≤8):∃k',(takeT pol y t).2.Ok k'∧k'≤k+8∧(takeT pol y t).1.1.length≤y.1.1.length+344∧y.1.1 <+: (takeT pol y t).1.1:=by
 obtain ⟨k1,h1,h2,h3,h4⟩:=putsX_ok (pol:=pol) (tkO pol t) h
 have h8:=tkO_len (pol:=pol) ht
 unfold takeT tkY
 split
 ·obtain ⟨g1,g2,g3⟩:=lastX_ok (pol:=pol) h1 (1,t.1,t.2.2.2)
  exact ⟨k1,g1,by omega,by omega,h4.trans g3⟩
 ·exact ⟨k1,h1,by omega,by omega,h4⟩
theorem takeTs_ok {pol:Int}:∀(ts:List Tok) {k:Nat} {y:WS×PE},y.2.Ok k→fewO ts→∃k',(takeTs pol y ts).2.Ok k'∧k'≤k+8*ts.length∧(takeTs pol y ts).1.1.length≤y.1.1.length+344*ts.length∧y.1.1 <+: (takeTs pol y ts).1.1
 | [],k,y,h,_=>⟨k,h,by omega,by simp [takeTs],List.prefix_rfl⟩
 | t :: ts,k,y,h,hf=>by
  obtain ⟨k1,h1,h2,h3,h4⟩:=takeT_ok (pol:=pol) h (hf t (by simp))
  obtain ⟨k2,g1,g2,g3,g4⟩:=takeTs_ok ts h1 (fun x hx=>hf x (List.mem_cons_of_mem _ hx))
  exact ⟨k2,g1,by simp only [List.length_cons];omega,by show (takeTs pol (takeT pol y t) ts).1.1.length≤_;simp only [List.length_cons];omega,h4.trans g4⟩
theorem tk_L2 {ts:List Tok} (hf:fewO ts) {a b:ByteArray} {pol:Int} {en cl:Bool} {D:LDS} (hn:ts.length≤1000000):∀(m j g k:Nat) (y:WS×PE) (xe:ESt),j+m=ts.length→m<g→RX k y xe→k+8*m≤900000000→y.1.1.length+344*m+400≤900000000→
  ∃xe' k',loopM (stream_Stream_taken_L2 FU64) g (ts,ts,(ts.length:Int),(j:Int),mkS a b pol y.1 en cl D [xe])=some (mkS a b pol (takeTs pol y (ts.drop j)).1 en cl D [xe'])∧RX k' (takeTs pol y (ts.drop j)) xe'∧k'≤k+8*m:=by
 intro m
 induction m with
 | zero=>
  intro j g k y xe hj hg hr hk hb
  obtain ⟨g,rfl⟩:∃q,g=q+1:=⟨g - 1,by omega⟩
  rw [List.drop_eq_nil_of_le (by omega),loopM_succ]
  refine ⟨xe,k,?_,hr,by omega⟩
  unfold stream_Stream_taken_L2 mkS
  dsimp only
  rw [decide_eq_false (by omega),cond_false]
  rfl
 | succ m ih=>
  intro j g k y xe hj hg hr hk hb
  obtain ⟨g,rfl⟩:∃q,g=q+1:=⟨g - 1,by omega⟩
  have hjl:j<ts.length:=by omega
  have h8:=hf ts[j] (List.getElem_mem hjl)
  rw [List.drop_eq_getElem_cons hjl]
  have key:∃xe1 k1,stream_Stream_taken_L2 FU64 (ts,ts,(ts.length:Int),(j:Int),mkS a b pol y.1 en cl D [xe])=some (tkR ts (ts.length:Int) (j:Int) a b pol en cl D ts[j] (putsX pol y (tkO pol ts[j])) xe1)∧RX k1 (takeT pol y ts[j]) xe1∧k1≤k+8:=by
   unfold stream_Stream_taken_L2
   rw [show mkS a b pol y.1 en cl D [xe]=(a,b,pol,(0:Nat),(0:Nat),y.1.1,y.1.2.1,y.1.2.2.1,y.1.2.2.2,en,cl,D,[xe]) from rfl]
   dsimp only
   rw [decide_eq_true (by omega),cond_true,nthI_get hjl,bind_some']
   by_cases h0:ts[j].2.2.2=0
   ·rw [bne_eq_false_iff_eq.2 h0,cond_false]
    have ho:tkO pol ts[j]=ts[j].2.2.1:=by unfold tkO;rw [if_neg (by simp [h0])]
    obtain ⟨xe1,k1,e1,e2,e3⟩:=tk_L1 (ts:=ts) (n:=(ts.length:Int)) (kk:=(j:Int)) (out:=ts[j].2.2.1) (o2:=ts[j].2.2.1) h8 (a:=a) (b:=b) (pol:=pol) (en:=en) (cl:=cl) (D:=D) ts[j] ts[j].2.2.1.length 0 FU64 k y xe (Nat.zero_add _) (by unfold FU64;omega) hr (by omega) (by omega)
    rw [List.drop_zero] at e1 e2
    rw [ho]
    refine ⟨xe1,k1,e1,?_,by omega⟩
    unfold takeT
    rw [ho];exact e2
   ·rw [bne_iff_ne.2 h0,cond_true]
    by_cases h1:pol=1
    ·have ho:tkO pol ts[j]=[65533]:=by unfold tkO;rw [if_pos h0,if_pos h1]
     rw [beq_t h1,cond_true]
     obtain ⟨xe1,k1,e1,e2,e3⟩:=tk_L0 (ts:=ts) (n:=(ts.length:Int)) (kk:=(j:Int)) (out:=[65533]) (by simp) (a:=a) (b:=b) (pol:=pol) (en:=en) (cl:=cl) (D:=D) ts[j] 1 0 FU64 k y xe rfl (by unfold FU64;omega) hr (by omega) (by omega)
     rw [List.drop_zero] at e1 e2
     rw [ho]
     refine ⟨xe1,k1,e1,?_,by omega⟩
     unfold takeT
     rw [ho];exact e2
    ·have ho:tkO pol ts[j]=[]:=by unfold tkO;rw [if_pos h0,if_neg h1]
     rw [beq_f h1,cond_false]
     obtain ⟨xe1,k1,e1,e2,e3⟩:=tk_L1 (ts:=ts) (n:=(ts.length:Int)) (kk:=(j:Int)) (out:=[]) (o2:=[]) (by simp) (a:=a) (b:=b) (pol:=pol) (en:=en) (cl:=cl) (D:=D) ts[j] 0 0 FU64 k y xe rfl (by unfold FU64;omega) hr (by omega) (by omega)
     rw [List.drop_zero] at e1 e2
     rw [ho]
     refine ⟨xe1,k1,e1,?_,by omega⟩
     unfold takeT
     rw [ho];exact e2
  obtain ⟨xe1,k1,e1,e2,e3⟩:=key
  obtain ⟨_,_,_,hlen,_⟩:=takeT_ok (pol:=pol) hr.ok h8
  rw [loopM_succ,e1]
  rw [show takeTs pol y (ts[j] :: ts.drop (j+1))=takeTs pol (takeT pol y ts[j]) (ts.drop (j+1)) from rfl]
  unfold tkR
  by_cases hw:tkW pol ts[j] (putsX pol y (tkO pol ts[j]))
  ·have ht:takeT pol y ts[j]=lastX pol (putsX pol y (tkO pol ts[j])) (1,ts[j].1,ts[j].2.2.2):=by unfold takeT tkY;rw [if_pos hw]
   have hfl:takeTs pol (takeT pol y ts[j]) (ts.drop (j+1))=takeT pol y ts[j]:=takeTs_fault (by rw [ht];exact lastX_er hw.1) _
   rw [if_pos hw,hfl]
   refine ⟨xe1,k1,?_,e2,by omega⟩
   rw [ht]
  ·have ht:takeT pol y ts[j]=putsX pol y (tkO pol ts[j]):=by unfold takeT tkY;rw [if_neg hw]
   rw [if_neg hw]
   obtain ⟨xe',k',i1,i2,i3⟩:=ih (j+1) g k1 (takeT pol y ts[j]) xe1 (by omega) (by omega) e2 (by omega) (by omega)
   refine ⟨xe',k',?_,i2,by omega⟩
   rw [←i1,w64_succ hjl (by omega),ht]
theorem taken_eq {ts:List Tok} (hf:fewO ts) {a b:ByteArray} {pol:Int} {en cl:Bool} {D:LDS} (hn:ts.length≤1000000) {k:Nat} {y:WS×PE} {xe:ESt} (hr:RX k y xe) (hk:k+8*ts.length≤900000000) (hb:y.1.1.length+344*ts.length+400≤900000000) :
  ∃xe' k',stream_Stream_taken FU64 (ts,mkS a b pol y.1 en cl D [xe])=some (mkS a b pol (takeTs pol y ts).1 en cl D [xe'])∧RX k' (takeTs pol y ts) xe'∧k'≤k+8*ts.length:=by
 have:=tk_L2 hf (a:=a) (b:=b) (pol:=pol) (en:=en) (cl:=cl) (D:=D) hn ts.length 0 FU64 k y xe (Nat.zero_add _) (by unfold FU64;omega) hr hk hb
 rw [List.drop_zero] at this
 exact this
def x0:WS:=([],0,0,0)
theorem open_eq {a b:ByteArray} {n m:Nat} (hn:n<8) (hm:m<8) (h1:codec_Name FU64 a=some (nameN n,0)) (h2:codec_Name FU64 b=some (nameN m,0)) {p:Int} (hp:0≤p∧p<3) :
  ∃xd xe,stream_Open FU64 (a,b,p)=some (.inr ((0:Int),mkS (nameN n) (nameN m) p x0 false false [xd] [xe]))∧(PD.init n).Rep xd∧(PE.init m).Rep 0 xe:=by
 obtain ⟨xd,e1,r1⟩:=dec_any hn (name_is hn)
 obtain ⟨xe,e2,r2⟩:=enc_any hm (name_is hm)
 refine ⟨xd,xe,?_,r1,r2⟩
 unfold stream_Open stream_Stream_Reset_new
 dsimp only
 rw [h1,bind_some']
 dsimp only
 rw [show ((0:Int) != 0)=false from rfl,cond_false,h2,bind_some']
 dsimp only
 rw [show ((0:Int) != 0)=false from rfl,cond_false,decide_eq_false (by omega),cond_false,decide_eq_false (by omega),cond_false,e1,bind_some']
 dsimp only
 rw [e2,bind_some']
 rfl
def finX (pol:Int) (y:WS×PE):WS:=if y.1.2.2.2=0 then wrTs pol y.1 y.2.fin.1 else y.1
def allX (pol:Int) (n m:Nat) (us:List Int):WS:=finX pol (takeTs pol (x0,PE.init m) ((PD.init n).all us))
theorem all_L1 {us:List Int} (h8:isU8 us) (hn:us.length≤100000) {a b:ByteArray} {pol:Int} (q1 q2 q3:Int):∀(r j g kd ke:Nat) (d:PD) (y:WS×PE) (xd:DSt) (xe:ESt),j+r=us.length→r<g→d.Ok kd→d.Rep xd→RX ke y xe→kd+r≤1000000→ke+32*r+100≤900000000→y.1.1.length+1400*r+5000≤900000000→y.1.2.2.2=0→
  loopM (stream_All_L1 FU64) g (us,us,(us.length:Int),(j:Int),q1,q2,q3,mkS a b pol y.1 false false [xd] [xe])=some ((finX pol (takeTs pol y (d.all (us.drop j)))).1,(finX pol (takeTs pol y (d.all (us.drop j)))).2.1,(finX pol (takeTs pol y (d.all (us.drop j)))).2.2.1,(finX pol (takeTs pol y (d.all (us.drop j)))).2.2.2,(0:Int)):=by
 intro r
 induction r with
 | zero=>
  intro j g kd ke d y xd xe hj hg hd hrd hr hk1 hk2 hb he
  obtain ⟨g,rfl⟩:∃q,g=q+1:=⟨g - 1,by omega⟩
  rw [List.drop_eq_nil_of_le (by omega),loopM_succ]
  have ha:d.all []=d.fin.1:=by simp [PD.all,PD.run]
  rw [ha]
  obtain ⟨xd',e1,e2⟩:=decEnd_eq hd hrd (by omega)
  obtain ⟨f1,f2⟩:=PD.fin_few hd
  have h3:=PD.held3 hd
  obtain ⟨xe',k',e3,e4,e5⟩:=taken_eq f1 (a:=a) (b:=b) (pol:=pol) (en:=false) (cl:=false) (D:=[xd']) (by omega) hr (by omega) (by omega)
  obtain ⟨_,_,_,t3,_⟩:=takeTs_ok (pol:=pol) d.fin.1 hr.ok f1
  unfold stream_All_L1
  rw [show mkS a b pol y.1 false false [xd] [xe]=(a,b,pol,(0:Nat),(0:Nat),y.1.1,y.1.2.1,y.1.2.2.1,y.1.2.2.2,false,false,[xd],[xe]) from rfl]
  dsimp only
  rw [decide_eq_false (by omega),cond_false,List.getElem?_cons_zero,bind_some',e1,bind_some']
  have e3':stream_Stream_taken FU64 (d.fin.1,a,b,pol,(0:Nat),(0:Nat),y.1.1,y.1.2.1,y.1.2.2.1,y.1.2.2.2,false,false,List.set [xd] 0 xd',[xe])=_:=e3
  rw [e3',bind_some']
  generalize takeTs pol y d.fin.1=z at e4 t3 ⊢
  unfold mkS finX
  dsimp only
  by_cases hz:z.1.2.2.2=0
  ·obtain ⟨xe2,g1,g2⟩:=encEnd_eq e4.ok e4.rep (by omega)
   obtain ⟨p1,p2,p3,p4⟩:=PE.fin_ok e4.ok
   have hh:=PE.held3 e4.ok
   have hw:=written_eq (ts:=z.2.fin.1) (by omega) p3 (a:=a) (b:=b) (pol:=pol) (x:=z.1) (by omega) (en:=false) (cl:=false) (D:=[xd']) (E:=[xe2])
   unfold mkS at hw
   rw [beq_t hz,cond_true,List.getElem?_cons_zero,bind_some',g1,bind_some',show List.set [xe'] 0 xe2=[xe2] from rfl,hw,bind_some',if_pos hz]
   rfl
  ·rw [beq_f hz,cond_false,if_neg hz]
   rfl
 | succ r ih=>
  intro j g kd ke d y xd xe hj hg hd hrd hr hk1 hk2 hb he
  obtain ⟨g,rfl⟩:∃q,g=q+1:=⟨g - 1,by omega⟩
  have hjl:j<us.length:=by omega
  have hx:=h8 us[j] (List.getElem_mem hjl)
  rw [List.drop_eq_getElem_cons hjl,loopM_succ]
  have ha:d.all (us[j] :: us.drop (j+1))=(d.put us[j]).1++(d.put us[j]).2.all (us.drop (j+1)):=by simp [PD.all,PD.run]
  rw [ha,takeTs_append]
  obtain ⟨xd',e1,e2⟩:=decPut_eq hd hrd (by omega) us[j]
  obtain ⟨f1,f2⟩:=PD.put_few hd us[j]
  have h3:=PD.held3 hd
  obtain ⟨xe',k',e3,e4,e5⟩:=taken_eq f1 (a:=a) (b:=b) (pol:=pol) (en:=false) (cl:=false) (D:=[xd']) (by omega) hr (by omega) (by omega)
  obtain ⟨_,_,_,t3,_⟩:=takeTs_ok (pol:=pol) (d.put us[j]).1 hr.ok f1
  have hl4:(d.put us[j]).1.length≤4:=by omega
  have e0:stream_All_L1 FU64 (us,us,(us.length:Int),(j:Int),q1,q2,q3,mkS a b pol y.1 false false [xd] [xe]) =
    bif (takeTs pol y (d.put us[j]).1).1.2.2.2 != 0 then some (.inr ((takeTs pol y (d.put us[j]).1).1.1,(takeTs pol y (d.put us[j]).1).1.2.1,(takeTs pol y (d.put us[j]).1).1.2.2.1,(takeTs pol y (d.put us[j]).1).1.2.2.2,(0:Int)))
    else some (.inl (us,us,(us.length:Int),((j+1:Nat):Int),q1,q2,q3,mkS a b pol (takeTs pol y (d.put us[j]).1).1 false false [xd'] [xe'])):=by
   unfold stream_All_L1
   rw [show mkS a b pol y.1 false false [xd] [xe]=(a,b,pol,(0:Nat),(0:Nat),y.1.1,y.1.2.1,y.1.2.2.1,y.1.2.2.2,false,false,[xd],[xe]) from rfl]
   dsimp only
   rw [decide_eq_true (by omega),cond_true,nthI_get hjl,bind_some',List.getElem?_cons_zero,bind_some',w64_id (n:=us[j]) (by omega) (by omega),e1,bind_some']
   have e3':stream_Stream_taken FU64 ((d.put us[j]).1,a,b,pol,(0:Nat),(0:Nat),y.1.1,y.1.2.1,y.1.2.2.1,y.1.2.2.2,false,false,List.set [xd] 0 xd',[xe])=_:=e3
   rw [e3',bind_some',w64_succ hjl (by omega)]
   rfl
  rw [e0]
  by_cases hz:(takeTs pol y (d.put us[j]).1).1.2.2.2=0
  ·rw [bne_eq_false_iff_eq.2 hz,cond_false]
   exact ih (j+1) g (kd+1) k' (d.put us[j]).2 (takeTs pol y (d.put us[j]).1) xd' xe' (by omega) (by omega) (PD.put_ok hd us[j]) e2 e4 (by omega) (by omega) (by omega) hz
  ·rw [bne_iff_ne.2 hz,cond_true,takeTs_fault hz]
   unfold finX
   rw [if_neg hz]
theorem sall_eq {a b:ByteArray} {n m:Nat} (hn:n<8) (hm:m<8) (h1:codec_Name FU64 a=some (nameN n,0)) (h2:codec_Name FU64 b=some (nameN m,0)) {p:Int} (hp:0≤p∧p<3) {us:List Int} (h8:isU8 us) (hu:us.length≤100000) :
  stream_All FU64 (a,b,p,us)=some ((allX p n m us).1,(allX p n m us).2.1,(allX p n m us).2.2.1,(allX p n m us).2.2.2,(0:Int)):=by
 obtain ⟨xd,xe,e,r1,r2⟩:=open_eq hn hm h1 h2 hp
 unfold stream_All
 dsimp only
 rw [e,bind_some']
 dsimp only
 rw [show ((0:Int) != 0)=false from rfl,cond_false]
 have:=all_L1 h8 hu (a:=nameN n) (b:=nameN m) (pol:=p) 0 0 0 us.length 0 FU64 0 0 (PD.init n) (x0,PE.init m) xd xe (Nat.zero_add _) (by unfold FU64;omega) (PD.init_ok n).1 r1 ⟨(PE.init_ok m).1,r2⟩ (by omega) (by omega) (by show 0+1400*us.length+5000≤900000000;omega) rfl
 rw [List.drop_zero] at this
 exact this
end Go.AM.M
