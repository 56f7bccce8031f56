/- An abstract machine, and that what it reckons is what the program does. -/
import Derived.Tactics
import Derived.Laws.World
import Derived.Laws.Cells
import Derived.Laws.StructEq
import Derived.Laws.Tables
import Derived.Laws.Append
import Derived.Laws.BytesArg
import Derived.MapKept
set_option linter.all false
namespace Go.AM
inductive Plc where
 | tmp (t:Nat)
 | cell (id off:Nat)
 deriving DecidableEq,Inhabited
inductive Flag where
 | view
 | own (e:TypeId)
 | excl (e:TypeId)
 deriving DecidableEq,Inhabited
inductive Sh where
 | int (k:IntKind)
 | bool
 | flt (k:FloatKind)
 | cpx (k:FloatKind)
 | str
 | sl (e:Sh)
 | cons (a b:Sh)
 | fz (s:Sh)
 | unit
 | oix
 | sum (a b:Sh)
 | void
 deriving DecidableEq,Inhabited
def Sh.den:Sh→Type
 | .int _=>Int
 | .bool=>Bool
 | .flt _=>Nat
 | .cpx _=>Nat×Nat
 | .str=>ByteArray
 | .sl e=>List e.den
 | .cons a b=>a.den×b.den
 | .fz s=>s.den
 | .unit=>Unit
 | .oix=>Nat
 | .sum a b=>a.den⊕b.den
 | .void=>Empty
structure Xs where
 sh:Sh
 l:List sh.den
instance:Inhabited Xs:=⟨⟨.bool,[]⟩⟩
inductive PV where
 | lit (v:Value)
 | ptr (id off:Nat)
 | nilp
 | sl (fl:Flag) (isnil:Bool) (xs:Xs)
 | agg (cs:List PV)
 | tup (vs:List PV)
 | ifc (t:TypeId) (v:PV)
 | fn (f:Fn) (first captured:List PV)
 | map (id:Nat)
 | alias (p:Plc)
 | elem (p:Plc) (k off:Nat)
 | elemv (cs:List PV) (off:Nat)
 | dead
 | oref (id i:Nat)
 deriving Inhabited
def Sh.cells:(s:Sh)→s.den→List PV
 | .int k,n=>[.lit (.int k n)]
 | .bool,b=>[.lit (.bool b)]
 | .flt k,x=>[.lit (.float k x)]
 | .cpx k,z=>[.lit (.complex k z.1 z.2)]
 | .str,s=>[.lit (.string s)]
 | .sl e,l=>[.sl .view false ⟨e,l⟩]
 | .cons a b,p=>a.cells p.1++b.cells p.2
 | .fz s,x=>[.elemv (s.cells x) 0]
 | .unit,_=>[]
 | .oix,_=>[.dead]
 | .sum _ _,_=>[.dead]
 | .void,_=>[.dead]
def Xs.els (x:Xs):List (List PV):=x.l.map x.sh.cells
def Sh.size:Sh→Nat
 | .cons a b=>a.size+b.size
 | .unit=>0
 | _=>1
theorem Sh.cells_length:∀(s:Sh) (x:s.den),(s.cells x).length=s.size
 | .int _,_=>rfl
 | .bool,_=>rfl
 | .flt _,_=>rfl
 | .cpx _,_=>rfl
 | .str,_=>rfl
 | .sl _,_=>rfl
 | .cons a b,p=>by simp only [Sh.cells,List.length_append,Sh.size,a.cells_length,b.cells_length]
 | .fz _,_=>rfl
 | .unit,_=>rfl
 | .oix,_=>rfl
 | .sum _ _,_=>rfl
 | .void,_=>rfl
noncomputable section
structure Dyn where
 s:Sh
 v:s.den
def castD (d:Dyn) (s:Sh):Option s.den:=if h:d.s=s then some (h▸d.v) else none
def tup:List Sh→Sh
 | []=>.unit
 | [s]=>s
 | s :: t :: r=>.cons s (tup (t :: r))
def both {α β:Type} (x:Option α) (y:Option β):Option (α×β):=
 match x with
 | some a=>match y with
  | some b=>some (a,b)
  | none=>none
 | none=>none
def pack:(ls:List Sh)→List Dyn→Option (tup ls).den
 | [],ds=>match ds with
  | []=>some ()
  | _=>none
 | [s],ds=>match ds with
  | [d]=>castD d s
  | _=>none
 | s :: t :: r,ds=>match ds with
  | d :: ds=>both (castD d s) (pack (t :: r) ds)
  | []=>none
def unpack:(ls:List Sh)→(tup ls).den→List Dyn
 | [],_=>[]
 | [s],x=>[⟨s,x⟩]
 | s :: t :: r,x=>⟨s,Prod.fst (α:=s.den) (β:=(tup (t :: r)).den) x⟩ :: unpack (t :: r) (Prod.snd (α:=s.den) (β:=(tup (t :: r)).den) x)
inductive PT where
 | lf (s:Sh)
 | sl (fl:Flag) (n:Bool) (s:Sh)
 | ptr (id off:Nat)
 | nilp
 | nili
 | dead
 | undef
 | alias (p:Plc)
 | agg (l:List PT)
 | tup (l:List PT)
 | elemv (l:List PT) (off:Nat)
 | ifc (t:TypeId) (x:PT)
 | fn (f:FuncId) (a b:List PT)
 | oref (id:Nat)
 | fam (alts:List PT)
 | mapr (id:Nat)
 | mp (ks vs:Sh)
 deriving Inhabited
mutual
def PT.ls:PT→List Sh
 | .lf s=>[s]
 | .sl _ _ s=>[.sl s]
 | .agg l=>PT.lss l
 | .tup l=>PT.lss l
 | .elemv l _=>PT.lss l
 | .ifc _ x=>x.ls
 | .fn _ a b=>PT.lss a++PT.lss b
 | .oref _=>[.oix]
 | .fam a=>[.sl (shA a)]
 | .mp k v=>[.sl (.cons k v)]
 | _=>[]
def PT.lss:List PT→List Sh
 | []=>[]
 | x :: r=>x.ls++PT.lss r
def shA:List PT→Sh
 | []=>.void
 | a :: r=>match r with
  | []=>tup a.ls
  | _ :: _=>.sum (tup a.ls) (shA r)
end
def plugS:Sh→List Dyn→Option (PV×List Dyn)
 | s,ds=>match ds with
  | d :: r=>match castD d s with
   | some x=>(match s.cells x with
    | [y]=>some (y,r)
    | _=>none)
   | none=>none
  | []=>none
mutual
def plug:PT→List Dyn→Option (PV×List Dyn)
 | .lf s,ds=>plugS s ds
 | .sl fl n s,ds=>match ds with
  | d :: r=>match castD d (.sl s) with
   | some x=>some (.sl fl n ⟨s,x⟩,r)
   | none=>none
  | []=>none
 | .ptr id off,ds=>some (.ptr id off,ds)
 | .nilp,ds=>some (.nilp,ds)
 | .nili,ds=>some (.lit .nilIface,ds)
 | .undef,ds=>some (.lit undef,ds)
 | .dead,ds=>some (.dead,ds)
 | .alias p,ds=>some (.alias p,ds)
 | .agg l,ds=>match plugs l ds with
  | some (cs,r)=>some (.agg cs,r)
  | none=>none
 | .tup l,ds=>match plugs l ds with
  | some (cs,r)=>some (.tup cs,r)
  | none=>none
 | .elemv l off,ds=>match plugs l ds with
  | some (cs,r)=>some (.elemv cs off,r)
  | none=>none
 | .ifc t x,ds=>match plug x ds with
  | some (y,r)=>some (.ifc t y,r)
  | none=>none
 | .oref id,ds=>match ds with
  | d :: r=>match castD d .oix with
   | some i=>some (.oref id i,r)
   | none=>none
  | []=>none
 | .fam _,_=>none
 | .mapr id,ds=>some (.map id,ds)
 | .mp _ _,_=>none
 | .fn f a b,ds=>match plugs a ds with
  | some (x,r)=>match plugs b r with
   | some (y,r2)=>some (.fn (.func f) x y,r2)
   | none=>none
  | none=>none
def plugs:List PT→List Dyn→Option (List PV×List Dyn)
 | [],ds=>some ([],ds)
 | t :: ts,ds=>match plug t ds with
  | some (x,r)=>match plugs ts r with
   | some (xs,r2)=>some (x :: xs,r2)
   | none=>none
  | none=>none
end
structure Mp where
 ks:Sh
 vs:Sh
 l:List (ks.den×vs.den)
instance:Inhabited Mp:=⟨⟨.bool,.bool,[]⟩⟩
def litV:List PV→Value
 | []=>.tuple #[]
 | x :: r=>match x,r with
  | .lit v,[]=>v
  | _,_=>.tuple #[]
def Sh.val (s:Sh) (x:s.den):Value:=litV (s.cells x)
def Mp.es (m:Mp):List (Value×Value):=m.l.map fun e=>(m.ks.val e.1,m.vs.val e.2)
inductive Bx where
 | cells (ty:TypeId) (cs:List PV)
 | mp (es:Mp)
 | fam (alts:List PT) (l:List (shA alts).den)
 deriving Inhabited
def bxOfV:PV→Option Bx
 | .ifc ty x=>match x with
  | .agg cs=>some (.cells ty cs)
  | _=>none
 | _=>none
def bxsOfV:List PV→Option (List Bx)
 | []=>some []
 | x :: r=>match bxOfV x with
  | some b=>match bxsOfV r with
   | some l=>some (b :: l)
   | none=>none
  | none=>none
def openAlt (a:PT) (ds:List Dyn):Option (PV×List Bx):=
 match plug a ds with
 | some (.tup (r :: bs),[])=>match bxsOfV bs with
  | some σ=>some (r,σ)
  | none=>none
 | _=>none
def openA:(alts:List PT)→(shA alts).den→Option (PV×List Bx)
 | [],_=>none
 | [a],x=>openAlt a (unpack a.ls x)
 | a :: b :: r,x=>Sum.rec (motive:=fun _=>Option (PV×List Bx)) (fun y=>openAlt a (unpack a.ls y)) (fun y=>openA (b :: r) y) (show (tup a.ls).den⊕(shA (b :: r)).den from x)
def Bx.isFam:Bx→Bool
 | .fam _ _=>true
 | _=>false
def famAt (σ:List Bx) (id:Nat):Bool:=
 match σ[id]? with
 | some b=>b.isFam
 | none=>false
end
structure St where
 ts:List (Nat×PV)
 n:Nat
 σ:List Bx
 deriving Inhabited
def lkp:List (Nat×PV)→Nat→PV
 | [],_=>.dead
 | (k,x) :: r,t=>match Nat.beq k t with
  | true=>x
  | false=>lkp r t
def del:List (Nat×PV)→Nat→List (Nat×PV)
 | [],_=>[]
 | (k,x) :: r,t=>match Nat.beq k t with
  | true=>del r t
  | false=>(k,x) :: del r t
def upd (l:List (Nat×PV)) (t:Nat) (x:PV):List (Nat×PV):=(t,x) :: del l t
def St.get (st:St) (t:Nat):Option PV:=if t<st.n then some (lkp st.ts t) else none
theorem get_lt {st:St} {t:Nat} {x:PV} (h:st.get t=some x):t<st.n:=by
 unfold St.get at h
 split at h
 ·assumption
 ·cases h
theorem beq_ne {a b:Nat} (h:a≠b):Nat.beq a b=false:=by
 cases e:Nat.beq a b with
 | false=>rfl
 | true=>exact absurd (Nat.eq_of_beq_eq_true e) h
theorem lkp_del_ne (l:List (Nat×PV)) {t u:Nat} (h:t≠u):lkp (del l t) u=lkp l u:=by
 induction l with
 | nil=>rfl
 | cons p r ih=>
  obtain ⟨k,x⟩:=p
  by_cases e:k=t
  ·subst e
   simp [del,Nat.beq_refl,lkp,beq_ne h,ih]
  ·simp only [del,beq_ne e,lkp,ih]
theorem lkp_upd_self (l:List (Nat×PV)) (t:Nat) (x:PV):lkp (upd l t x) t=x:=by simp [upd,lkp,Nat.beq_refl]
theorem lkp_upd_ne (l:List (Nat×PV)) {t u:Nat} (x:PV) (h:t≠u):lkp (upd l t x) u=lkp l u:=by simp [upd,lkp,beq_ne h,lkp_del_ne l h]
inductive Own where
 | box (id:Nat)
 | plc (p:Plc)
 | frame
 | obj (id i:Nat)
 deriving DecidableEq
structure Gh where
 rho:List Nat
 FP:Nat→Nat→Prop
 ow:Nat→Option Own
 fam:Nat→Nat→Option Value:=fun _ _=>none
inductive Rel (g:Gh) (w:World):PV→Value→Prop where
 | lit (v:Value):Rel g w (.lit v) v
 | ptr (id off b:Nat) (h:g.rho[id]? = some b):Rel g w (.ptr id off) (.pointer (some ⟨b,off,none⟩))
 | nilp:Rel g w .nilp (.pointer none)
 | slnil (fl:Flag) (s:Sh):Rel g w (.sl fl true ⟨s,[]⟩) (.slice none 0 0)
 | slz (s:Sh):Rel g w (.sl .view false ⟨s,[]⟩) (.slice none 0 0)
 | sle (s:Sh) (a:Addr) (cap:Nat):Rel g w (.sl .view false ⟨s,[]⟩) (.slice (some a) 0 cap)
 | slv (x:Xs) (xs:List (List PV)) (hx:xs=x.els) (b o cap s:Nat) (vals:Nat→Nat→Value) (hcap:xs.length≤cap)
   (hlen:∀i,(h:i<xs.length)→xs[i].length=s)
   (hfp:∀i j,i<xs.length→j<s→g.FP b (o+i*s+j)∧w.cell? ⟨b,o+i*s+j,none⟩=some (vals i j))
   (hrel:∀i j (hi:i<xs.length) (hj:j<xs[i].length),Rel g w xs[i][j] (vals i j)) :
   Rel g w (.sl .view false x) (.slice (some ⟨b,o,none⟩) xs.length cap)
 | agg (cs:List PV) (vs:Array Value) (hlen:vs.size=cs.length)
   (hrel:∀i (hi:i<cs.length) (hv:i<vs.size),Rel g w cs[i] vs[i]):Rel g w (.agg cs) (.agg vs)
 | tup (cs:List PV) (vs:Array Value) (hlen:vs.size=cs.length)
   (hrel:∀i (hi:i<cs.length) (hv:i<vs.size),Rel g w cs[i] vs[i]):Rel g w (.tup cs) (.tuple vs)
 | ifc (t:TypeId) (x:PV) (v:Value) (h:Rel g w x v):Rel g w (.ifc t x) (.iface t v)
 | fn (f:Fn) (fs cs:List PV) (vf vc:Array Value) (hf:vf.size=fs.length) (hc:vc.size=cs.length)
   (hrf:∀i (hi:i<fs.length) (hv:i<vf.size),Rel g w fs[i] vf[i])
   (hrc:∀i (hi:i<cs.length) (hv:i<vc.size),Rel g w cs[i] vc[i]):Rel g w (.fn f fs cs) (.func f vf vc)
 | map (id b:Nat) (h:g.rho[id]? = some b):Rel g w (.map id) (.map (some b))
 | oref (id i:Nat) (v:Value) (hv:∃t u,v=.iface t u) (h:g.fam id i=some v):Rel g w (.oref id i) v
 | elemv (cs:List PV) (off b o:Nat) (vals:Nat→Value)
   (hfp:∀j,j<cs.length→g.FP b (o+j)∧w.cell? ⟨b,o+j,none⟩=some (vals j))
   (hrel:∀j (hj:j<cs.length),Rel g w cs[j] (vals j)):Rel g w (.elemv cs off) (.pointer (some ⟨b,o+off,none⟩))
structure Ext (g g':Gh) (w w':World):Prop where
 rho:g.rho <+: g'.rho
 fam:∀id i v,g.fam id i=some v→g'.fam id i=some v
 obx:∀b id,id<g.rho.length→g.ow b=some (.box id)→g'.ow b=some (.box id)
 fp:∀b i,g.FP b i→g'.FP b i
 fpc:∀b i,g.FP b i→w'.cell? ⟨b,i,none⟩=w.cell? ⟨b,i,none⟩
 keep:∀b,b<w.heap.size→(g.ow b=none∨g.ow b=some .frame)→w'.heap[b]? = w.heap[b]?
 size:w.heap.size≤w'.heap.size
 frame:∀b,g.ow b=some .frame→g'.ow b=some .frame
 noframe:∀b,g.ow b≠some .frame→g'.ow b≠some .frame
 none_:∀b,b<w.heap.size→g.ow b=none→g'.ow b=none
 fnew:∀b i,g.ow b=some .frame→g'.FP b i→g.FP b i
 os:w'.os=w.os
 tape:w'.tape=w.tape
 output:w'.output=w.output
theorem Ext.refl (g:Gh) (w:World):Ext g g w w:=
 ⟨List.prefix_rfl,fun _ _ _ h=>h,fun _ _ _ h=>h,fun _ _ h=>h,fun _ _ _=>rfl,fun _ _ _=>rfl,Nat.le_refl _,fun _ h=>h,fun _ h=>h,fun _ _ h=>h,fun _ _ _ h=>h,rfl,rfl,rfl⟩
theorem Ext.trans {g g1 g2:Gh} {w w1 w2:World} (h:Ext g g1 w w1) (k:Ext g1 g2 w1 w2):Ext g g2 w w2 where
 rho:=h.rho.trans k.rho
 fam id i v hv:=k.fam id i v (h.fam id i v hv)
 obx b id hl ho:=k.obx b id (Nat.lt_of_lt_of_le hl h.rho.length_le) (h.obx b id hl ho)
 fp b i hb:=k.fp b i (h.fp b i hb)
 fpc b i hb:=(k.fpc b i (h.fp b i hb)).trans (h.fpc b i hb)
 keep b hb ho:=by
  refine (k.keep b (Nat.lt_of_lt_of_le hb h.size) ?_).trans (h.keep b hb ho)
  rcases ho with ho | ho
  ·exact .inl (h.none_ b hb ho)
  ·exact .inr (h.frame b ho)
 size:=Nat.le_trans h.size k.size
 frame b hb:=k.frame b (h.frame b hb)
 noframe b hb:=k.noframe b (h.noframe b hb)
 none_ b hb ho:=k.none_ b (Nat.lt_of_lt_of_le hb h.size) (h.none_ b hb ho)
 fnew b i hb hf:=h.fnew b i hb (k.fnew b i (h.frame b hb) hf)
 os:=k.os.trans h.os
 tape:=k.tape.trans h.tape
 output:=k.output.trans h.output
theorem prefix_get {α:Type} {l l':List α} (h:l <+: l') {i:Nat} {a:α} (hi:l[i]? = some a):l'[i]? = some a:=by
 obtain ⟨t,rfl⟩:=h
 rw [List.getElem?_append_left]
 ·exact hi
 ·exact (List.getElem?_eq_some_iff.1 hi).1
theorem Rel.mono {g g':Gh} {w w':World} (hr:g.rho <+: g'.rho) (hm:∀id i v,g.fam id i=some v→g'.fam id i=some v) (hf:∀b i,g.FP b i→g'.FP b i)
  (hc:∀b i,g.FP b i→w'.cell? ⟨b,i,none⟩=w.cell? ⟨b,i,none⟩) {x:PV} {v:Value} (h:Rel g w x v):Rel g' w' x v:=by
 induction h with
 | lit v=>exact .lit v
 | ptr id off b h=>exact .ptr id off b (prefix_get hr h)
 | nilp=>exact .nilp
 | slnil fl s=>exact .slnil fl s
 | slz s=>exact .slz s
 | sle s a cap=>exact .sle s a cap
 | slv x xs hx b o cap s vals hcap hlen hfp hrel ih=>
  exact .slv x xs hx b o cap s vals hcap hlen (fun i j hi hj=>⟨hf _ _ (hfp i j hi hj).1,(hc _ _ (hfp i j hi hj).1).trans (hfp i j hi hj).2⟩) ih
 | agg cs vs hlen hrel ih=>exact .agg cs vs hlen ih
 | tup cs vs hlen hrel ih=>exact .tup cs vs hlen ih
 | ifc t x v h ih=>exact .ifc t x v ih
 | fn f fs cs vf vc h1 h2 _ _ i1 i2=>exact .fn f fs cs vf vc h1 h2 i1 i2
 | map id b h=>exact .map id b (prefix_get hr h)
 | oref id i v hv h=>exact .oref id i v hv (hm _ _ _ h)
 | elemv cs off b o vals hfp hrel ih=>
  exact .elemv cs off b o vals (fun j hj=>⟨hf _ _ (hfp j hj).1,(hc _ _ (hfp j hj).1).trans (hfp j hj).2⟩) ih
theorem Rel.ext {g g':Gh} {w w':World} (h:Ext g g' w w') {x:PV} {v:Value} (r:Rel g w x v):Rel g' w' x v:=
 r.mono h.rho h.fam h.fp h.fpc
def Elems (g:Gh) (w:World) (b o s:Nat) (xs:List (List PV)):Prop:=
 (∀i,(h:i<xs.length)→xs[i].length=s)∧
 ∀i j (hi:i<xs.length) (hj:j<xs[i].length),∃v,w.cell? ⟨b,o+i*s+j,none⟩=some v∧Rel g w xs[i][j] v
def Unfz (fz:Nat×Nat) (n:Nat):Prop:=∀i,i<n→¬(fz.1≤i∧i<fz.2)
structure OwnBlk (P:Program) (g:Gh) (w:World) (p:Plc) (ex:Bool) (e:TypeId) (xs:List (List PV)) (b cap:Nat):Prop where
 hcap:xs.length≤cap
 blk:∃c fz,w.heap[b]? = some (.cells c e fz)∧c.size=cap*P.cellsOf e∧Unfz fz c.size
 ow:g.ow b=some (.plc p)
 el:Elems g w b 0 (P.cellsOf e) xs
 ex_:ex=true→∀i,¬g.FP b i
 fr:∀i,xs.length*P.cellsOf e≤i→¬g.FP b i
def OwnOk (P:Program) (g:Gh) (w:World) (p:Plc) (ex:Bool) (e:TypeId) (isnil:Bool) (xs:List (List PV)) (v:Value):Prop:=
 (xs=[]∧v=.slice none 0 0)∨
 (isnil=false∧∃b cap,v=.slice (some ⟨b,0,none⟩) xs.length cap∧OwnBlk P g w p ex e xs b cap)
def contentAt (st:St):Plc→Option PV
 | .tmp t=>st.get t
 | .cell id off=>match st.σ[id]? with
  | some (.cells _ cs)=>cs[off]?
  | _=>none
def realAt (g:Gh) (vs:Array Value) (w:World):Plc→Option Value
 | .tmp t=>vs[t]?
 | .cell id off=>match g.rho[id]? with
  | some b=>w.cell? ⟨b,off,none⟩
  | none=>none
def Flag.e:Flag→TypeId
 | .view=>0
 | .own e=>e
 | .excl e=>e
def Flag.isOwn:Flag→Bool
 | .view=>false
 | _=>true
def Flag.isExcl:Flag→Bool
 | .excl _=>true
 | _=>false
def PV.isOwn:PV→Bool
 | .sl fl _ _=>fl.isOwn
 | _=>false
def PV.noAl:PV→Bool
 | .alias _=>false
 | .elem _ _ _=>false
 | _=>true
def Slot (P:Program) (st:St) (g:Gh) (vs:Array Value) (w:World) (p:Plc) (x:PV) (v:Value):Prop:=
 match x with
 | .sl (.own e) n xs=>OwnOk P g w p false e n xs.els v
 | .sl (.excl e) n xs=>OwnOk P g w p true e n xs.els v
 | .alias q=>(∃fl n xs,contentAt st q=some (.sl fl n xs)∧fl.isOwn=true)∧realAt g vs w q=some v
 | .elem q k off=>∃fl xs b cap,contentAt st q=some (.sl fl false xs)∧fl.isOwn=true∧
   realAt g vs w q=some (.slice (some ⟨b,0,none⟩) xs.els.length cap)∧k<xs.els.length∧v=.pointer (some ⟨b,k*P.cellsOf fl.e+off,none⟩)
 | .dead=>True
 | x=>Rel g w x v
structure Inv0 (P:Program) (g:Gh) (st:St) (vs:Array Value) (w:World):Prop where
 size:vs.size=st.n
 slot:∀t x,st.get t=some x→∃v,vs[t]? = some v∧Slot P st g vs w (.tmp t) x v
 rlen:g.rho.length=st.σ.length
 box:∀(id:Nat) (ty:TypeId) (cs:List PV) (b:Nat),st.σ[id]? = some (Bx.cells ty cs)→g.rho[id]? = some b→∃c fz,w.heap[b]? = some (.cells c ty fz)∧Unfz fz c.size∧c.size=cs.length∧
  ∀off x,cs[off]? = some x→x.noAl=true∧∃v,c[off]? = some v∧Slot P st g vs w (.cell id off) x v
 bmap:∀(id:Nat) (es:Mp) (b:Nat),st.σ[id]? = some (Bx.mp es)→g.rho[id]? = some b→∃en ck,w.heap[b]? = some (Obj.map en ck)∧en.toList.map (fun e=>(e.key,e.val))=es.es
 nofam:∀(id:Nat) (alts:List PT) (l:List (shA alts).den),st.σ[id]?≠some (Bx.fam alts l)
 rown:∀id b,famAt st.σ id=false→g.rho[id]? = some b→g.ow b=some (.box id)
 fdom:∀id i v,g.fam id i=some v→id<st.σ.length
 olt:∀b o,g.ow b=some o→b<w.heap.size
 flt:∀b i,g.FP b i→b<w.heap.size
 fbox:∀b i id,g.ow b=some (.box id)→¬g.FP b i
def ObjOk (P:Program) (g:Gh) (w:World) (id i:Nat) (r:PV) (σ:List Bx):Prop:=
 ∃v go,g.fam id i=some v∧Inv0 P go { ts:=[(0,r)],n:=1,σ } #[v] w∧(∀b j,go.FP b j→g.FP b j)∧(∀b,go.ow b=none∨g.ow b=some (.obj id i))∧(∀b,go.ow b≠some .frame)∧(∀b o j,go.ow b=some o→g.FP b j→go.FP b j)
def FamOk (P:Program) (g:Gh) (w:World) (id:Nat) (alts:List PT) (l:List (shA alts).den):Prop:=
 (∀i v,g.fam id i=some v→i<l.length)∧∀i x,l[i]? = some x→∃r σ,openA alts x=some (r,σ)∧ObjOk P g w id i r σ
structure Inv (P:Program) (g:Gh) (st:St) (vs:Array Value) (w:World):Prop where
 size:vs.size=st.n
 slot:∀t x,st.get t=some x→∃v,vs[t]? = some v∧Slot P st g vs w (.tmp t) x v
 rlen:g.rho.length=st.σ.length
 box:∀(id:Nat) (ty:TypeId) (cs:List PV) (b:Nat),st.σ[id]? = some (Bx.cells ty cs)→g.rho[id]? = some b→∃c fz,w.heap[b]? = some (.cells c ty fz)∧Unfz fz c.size∧c.size=cs.length∧
  ∀off x,cs[off]? = some x→x.noAl=true∧∃v,c[off]? = some v∧Slot P st g vs w (.cell id off) x v
 bmap:∀(id:Nat) (es:Mp) (b:Nat),st.σ[id]? = some (Bx.mp es)→g.rho[id]? = some b→∃en ck,w.heap[b]? = some (Obj.map en ck)∧en.toList.map (fun e=>(e.key,e.val))=es.es
 bfam:∀(id:Nat) (alts:List PT) (l:List (shA alts).den),st.σ[id]? = some (Bx.fam alts l)→FamOk P g w id alts l
 rown:∀id b,famAt st.σ id=false→g.rho[id]? = some b→g.ow b=some (.box id)
 fdom:∀id i v,g.fam id i=some v→id<st.σ.length
 olt:∀b o,g.ow b=some o→b<w.heap.size
 flt:∀b i,g.FP b i→b<w.heap.size
 fbox:∀b i id,g.ow b=some (.box id)→¬g.FP b i
theorem Slot.world0 {P:Program} {st:St} {g:Gh} {vs:Array Value} {w w':World} {p:Plc} {x:PV} {v:Value} (h:Slot P st g vs w p x v) (hf:∀b i,g.FP b i→w'.cell? ⟨b,i,none⟩=w.cell? ⟨b,i,none⟩)
  (hh:∀b o,g.ow b=some o→w'.heap[b]? = w.heap[b]?) (hr:∀q,realAt g vs w' q=realAt g vs w q∨contentAt st q=none):Slot P st g vs w' p x v:=by
 have hR:∀{y u},Rel g w y u→Rel g w' y u:=fun h=>h.mono List.prefix_rfl (fun _ _ _ h=>h) (fun _ _ h=>h) hf
 have hO:∀{ex e n} {xs:Xs},OwnOk P g w p ex e n xs.els v→OwnOk P g w' p ex e n xs.els v:=by
  rintro ex e n xs (h | ⟨hn,b,cap,hv,hb⟩)
  ·exact .inl h
  ·obtain ⟨c,fz,h1,h2,h3⟩:=hb.blk
   have hc:=hh b _ hb.ow
   refine .inr ⟨hn,b,cap,hv,hb.hcap,⟨c,fz,hc.trans h1,h2,h3⟩,hb.ow,⟨hb.el.1,fun i j hi hj=>?_⟩,hb.ex_,hb.fr⟩
   obtain ⟨u,k1,k2⟩:=hb.el.2 i j hi hj
   exact ⟨u,by rw [←k1];simp only [World.cell?,hc],hR k2⟩
 cases x with
 | sl fl n xs=>
  cases fl with
  | view=>exact hR h
  | own e=>exact hO h
  | excl e=>exact hO h
 | alias q=>
  obtain ⟨⟨fl,n,xs,h1,h2⟩,h3⟩:=h
  rcases hr q with e | e
  ·exact ⟨⟨fl,n,xs,h1,h2⟩,e.trans h3⟩
  ·rw [h1] at e;cases e
 | elem q k off=>
  obtain ⟨fl,xs,b,cap,h1,h2,h3,h4⟩:=h
  rcases hr q with e | e
  ·exact ⟨fl,xs,b,cap,h1,h2,e.trans h3,h4⟩
  ·rw [h1] at e;cases e
 | dead=>trivial
 | _=>exact hR h
theorem Inv0.world {P:Program} {st:St} {g:Gh} {vs:Array Value} {w w':World} (h:Inv0 P g st vs w) (hf:∀b i,g.FP b i→w'.cell? ⟨b,i,none⟩=w.cell? ⟨b,i,none⟩)
  (hh:∀b o,g.ow b=some o→w'.heap[b]? = w.heap[b]?) (hs:w.heap.size≤w'.heap.size):Inv0 P g st vs w':=by
 have hr:∀q,realAt g vs w' q=realAt g vs w q∨contentAt st q=none:=by
  intro q
  cases q with
  | tmp t=>exact .inl rfl
  | cell id off=>
   simp only [realAt,contentAt]
   cases hb:g.rho[id]? with
   | none=>exact .inl rfl
   | some b=>
    by_cases hfam:famAt st.σ id=true
    ·right
     unfold famAt at hfam
     cases hσ:st.σ[id]? with
     | none=>rfl
     | some bx=>
      rw [hσ] at hfam
      cases bx with
      | cells ty cs=>cases hfam
      | mp es=>rfl
      | fam a l=>rfl
    ·left
     have:=hh b _ (h.rown id b (by simpa using hfam) hb)
     simp only [World.cell?,this]
 have hb:∀id b (_:famAt st.σ id=false),g.rho[id]? = some b→w'.heap[b]? = w.heap[b]?:=fun id b h1 h2=>hh b _ (h.rown id b h1 h2)
 exact
 {size:=h.size
  slot:=fun t x hx=>let ⟨v,h1,h2⟩:=h.slot t x hx;⟨v,h1,h2.world0 hf hh hr⟩
  rlen:=h.rlen
  box:=fun id ty cs b h1 h2=>by
   obtain ⟨c,fz,k1,k2,k3,k4⟩:=h.box id ty cs b h1 h2
   refine ⟨c,fz,(hb id b (by unfold famAt;rw [h1];rfl) h2).trans k1,k2,k3,fun off x hx=>?_⟩
   obtain ⟨j1,v,j2,j3⟩:=k4 off x hx
   exact ⟨j1,v,j2,j3.world0 hf hh hr⟩
  bmap:=fun id es b h1 h2=>let ⟨en,ck,k1,k2⟩:=h.bmap id es b h1 h2;⟨en,ck,(hb id b (by unfold famAt;rw [h1];rfl) h2).trans k1,k2⟩
  nofam:=h.nofam
  rown:=h.rown
  fdom:=h.fdom
  olt:=fun b o ho=>Nat.lt_of_lt_of_le (h.olt b o ho) hs
  flt:=fun b i hi=>Nat.lt_of_lt_of_le (h.flt b i hi) hs
  fbox:=h.fbox }
theorem ObjOk.mono {P:Program} {g g':Gh} {w w':World} {id i:Nat} {r:PV} {σ:List Bx} (h:ObjOk P g w id i r σ) (hm:∀v,g.fam id i=some v→g'.fam id i=some v) (hf:∀b j,g.FP b j→g'.FP b j)
  (hc:∀b j,g.FP b j→w'.cell? ⟨b,j,none⟩=w.cell? ⟨b,j,none⟩) (hh:∀b,g.ow b=some (.obj id i)→w'.heap[b]? = w.heap[b]?∧g'.ow b=some (.obj id i)∧∀j,g'.FP b j→g.FP b j) (hs:w.heap.size≤w'.heap.size):ObjOk P g' w' id i r σ:=by
 obtain ⟨v,go,h1,h2,h3,h4,h5,h6⟩:=h
 refine ⟨v,go,hm v h1,h2.world (fun b j hj=>hc b j (h3 b j hj)) (fun b o ho=>?_) hs,fun b j hj=>hf b j (h3 b j hj),fun b=>?_,h5,fun b o j ho hj=>?_⟩
 ·rcases h4 b with e | e
  ·rw [e] at ho;cases ho
  ·exact (hh b e).1
 ·rcases h4 b with e | e
  ·exact .inl e
  ·exact .inr (hh b e).2.1
 ·rcases h4 b with e | e
  ·rw [e] at ho;cases ho
  ·exact h6 b o j ho ((hh b e).2.2 j hj)
theorem Inv0.inv {P:Program} {st:St} {g:Gh} {vs:Array Value} {w:World} (h:Inv0 P g st vs w):Inv P g st vs w:=
 {size:=h.size,slot:=h.slot,rlen:=h.rlen,box:=h.box,bmap:=h.bmap,bfam:=fun id alts l e=>absurd e (h.nofam id alts l),rown:=h.rown,fdom:=h.fdom,olt:=h.olt,flt:=h.flt,fbox:=h.fbox }
theorem Inv.inv0 {P:Program} {st:St} {g:Gh} {vs:Array Value} {w:World} (h:Inv P g st vs w) (hn:∀(id:Nat) (alts:List PT) (l:List (shA alts).den),st.σ[id]?≠some (Bx.fam alts l)):Inv0 P g st vs w:=
 {size:=h.size,slot:=h.slot,rlen:=h.rlen,box:=h.box,bmap:=h.bmap,nofam:=hn,rown:=h.rown,fdom:=h.fdom,olt:=h.olt,flt:=h.flt,fbox:=h.fbox }
structure Chg (A:Own→Prop) (g g':Gh) (w w':World):Prop where
 ext:Ext g g' w w'
 heap:∀b o,g.ow b=some o→¬A o→b<w.heap.size→w'.heap[b]? = w.heap[b]?
 ow:∀b o,g.ow b=some o→¬A o→g'.ow b=some o
 fp:∀b o i,g.ow b=some o→¬A o→g'.FP b i→g.FP b i
theorem Chg.refl (A:Own→Prop) (g:Gh) (w:World):Chg A g g w w:=
 ⟨Ext.refl g w,fun _ _ _ _ _=>rfl,fun _ _ h _=>h,fun _ _ _ _ _ h=>h⟩
theorem cell_of_heap {w w':World} {b:Nat} (h:w'.heap[b]? = w.heap[b]?) (i:Nat):w'.cell? ⟨b,i,none⟩=w.cell? ⟨b,i,none⟩:=by
 simp only [World.cell?,h]
theorem Elems.mono {g g':Gh} {w w':World} {b o s:Nat} {xs:List (List PV)} (h:Elems g w b o s xs)
  (hE:Ext g g' w w') (hc:∀i,w'.cell? ⟨b,i,none⟩=w.cell? ⟨b,i,none⟩):Elems g' w' b o s xs:=by
 refine ⟨h.1,fun i j hi hj=>?_⟩
 obtain ⟨v,h1,h2⟩:=h.2 i j hi hj
 exact ⟨v,(hc _).trans h1,h2.ext hE⟩
theorem OwnBlk.chg {P:Program} {A:Own→Prop} {g g':Gh} {w w':World} {p:Plc} {ex:Bool} {e:TypeId} {xs:List (List PV)} {b cap:Nat}
  (h:OwnBlk P g w p ex e xs b cap) (hC:Chg A g g' w w') (hA:¬A (.plc p)):OwnBlk P g' w' p ex e xs b cap:=by
 obtain ⟨c,fz,hb,hs,hz⟩:=h.blk
 have hlt:b<w.heap.size:=(Array.getElem?_eq_some_iff.1 hb).1
 have hh:=hC.heap b _ h.ow hA hlt
 exact ⟨h.hcap,⟨c,fz,hh.trans hb,hs,hz⟩,hC.ow b _ h.ow hA,h.el.mono hC.ext (cell_of_heap hh),
  fun he i hf=>h.ex_ he i (hC.fp b _ i h.ow hA hf),fun i hi hf=>h.fr i hi (hC.fp b _ i h.ow hA hf)⟩
theorem OwnOk.chg {P:Program} {A:Own→Prop} {g g':Gh} {w w':World} {p:Plc} {ex:Bool} {e:TypeId} {n:Bool} {xs:List (List PV)} {v:Value}
  (h:OwnOk P g w p ex e n xs v) (hC:Chg A g g' w w') (hA:¬A (.plc p)):OwnOk P g' w' p ex e n xs v:=by
 rcases h with h | ⟨hn,b,cap,hv,hb⟩
 ·exact .inl h
 ·exact .inr ⟨hn,b,cap,hv,hb.chg hC hA⟩
theorem Slot.chg {P:Program} {A:Own→Prop} {st st':St} {g g':Gh} {vs vs':Array Value} {w w':World} {p:Plc} {x:PV} {v:Value}
  (h:Slot P st g vs w p x v) (hC:Chg A g g' w w') (hA:x.isOwn=true→¬A (.plc p))
  (hal:∀q,(x=.alias q∨∃k off,x=.elem q k off)→contentAt st' q=contentAt st q∧realAt g' vs' w' q=realAt g vs w q) :
  Slot P st' g' vs' w' p x v:=by
 match x with
 | .sl (.own e) n xs=>exact OwnOk.chg h hC (hA rfl)
 | .sl (.excl e) n xs=>exact OwnOk.chg h hC (hA rfl)
 | .alias q=>
  obtain ⟨h1,h2⟩:=hal q (.inl rfl)
  simp only [Slot] at h ⊢
  rw [h1,h2];exact h
 | .elem q k off=>
  obtain ⟨h1,h2⟩:=hal q (.inr ⟨k,off,rfl⟩)
  simp only [Slot] at h ⊢
  rw [h1,h2];exact h
 | .dead=>trivial
 | .lit _=>exact Rel.ext hC.ext h
 | .ptr _ _=>exact Rel.ext hC.ext h
 | .nilp=>exact Rel.ext hC.ext h
 | .sl .view _ _=>exact Rel.ext hC.ext h
 | .agg _=>exact Rel.ext hC.ext h
 | .tup _=>exact Rel.ext hC.ext h
 | .ifc _ _=>exact Rel.ext hC.ext h
 | .fn _ _ _=>exact Rel.ext hC.ext h
 | .map _=>exact Rel.ext hC.ext h
 | .oref _ _=>exact Rel.ext hC.ext h
 | .elemv _ _=>exact Rel.ext hC.ext h
theorem slot_cell {P:Program} {st st':St} {g:Gh} {vs vs':Array Value} {w:World} {p:Plc} {x:PV} {v:Value}
  (h:Slot P st g vs w p x v) (hn:x.noAl=true):Slot P st' g vs' w p x v:=by
 cases x with
 | sl fl n xs=>cases fl <;> exact h
 | alias _=>simp [PV.noAl] at hn
 | elem _ _ _=>simp [PV.noAl] at hn
 | _=>exact h
theorem FamOk.mono {P:Program} {g g':Gh} {w w':World} {id:Nat} {alts:List PT} {l:List (shA alts).den} (h:FamOk P g w id alts l) (hm:g'.fam id=g.fam id) (hf:∀b j,g.FP b j→g'.FP b j)
  (hc:∀b j,g.FP b j→w'.cell? ⟨b,j,none⟩=w.cell? ⟨b,j,none⟩) (hh:∀i b,g.ow b=some (.obj id i)→w'.heap[b]? = w.heap[b]?∧g'.ow b=some (.obj id i)∧∀j,g'.FP b j→g.FP b j) (hs:w.heap.size≤w'.heap.size):FamOk P g' w' id alts l:=
 ⟨fun i v hv=>h.1 i v (by rw [←hm];exact hv),fun i x hx=>let ⟨r,σ,h1,h2⟩:=h.2 i x hx;⟨r,σ,h1,h2.mono (fun v hv=>by rw [hm];exact hv) hf hc (hh i) hs⟩⟩
theorem FamOk.chg {P:Program} {A:Own→Prop} {g g':Gh} {w w':World} {id:Nat} {alts:List PT} {l:List (shA alts).den} (h:FamOk P g w id alts l) (hC:Chg A g g' w w') (hA:∀i,¬A (.obj id i)) (hm:g'.fam id=g.fam id)
  (holt:∀b o,g.ow b=some o→b<w.heap.size):FamOk P g' w' id alts l:=
 h.mono hm hC.ext.fp hC.ext.fpc (fun i b hb=>⟨hC.heap b _ hb (hA i) (holt b _ hb),hC.ow b _ hb (hA i),fun j=>hC.fp b _ j hb (hA i)⟩) hC.ext.size
theorem famAt_some {σ:List Bx} {id:Nat} {b:Bx} (h:σ[id]? = some b):famAt σ id=b.isFam:=by unfold famAt;rw [h]
theorem famAt_cells {σ:List Bx} {id:Nat} {ty:TypeId} {cs:List PV} (h:σ[id]? = some (.cells ty cs)):famAt σ id=false:=famAt_some h
theorem famAt_mp {σ:List Bx} {id:Nat} {es:Mp} (h:σ[id]? = some (.mp es)):famAt σ id=false:=famAt_some h
theorem Inv.step {P:Program} {A:Own→Prop} {st st':St} {g g':Gh} {vs vs':Array Value} {w w':World} (h:Inv P g st vs w) (hC:Chg A g g' w w')
  (hsize:vs'.size=st'.n)
  (hslot:∀(t:Nat) (x:PV),st'.get t=some x→x=.dead∨(st.get t=some x∧vs'[t]? = vs[t]?∧(x.isOwn=true→¬A (.plc (.tmp t)))∧
    ∀q,(x=.alias q∨∃k off,x=.elem q k off)→contentAt st' q=contentAt st q∧realAt g' vs' w' q=realAt g vs w q)∨
   ∃v,vs'[t]? = some v∧Slot P st' g' vs' w' (.tmp t) x v)
  (hrlen:g'.rho.length=st'.σ.length)
  (hbox:∀(id:Nat) (ty:TypeId) (cs:List PV) (b:Nat),st'.σ[id]? = some (Bx.cells ty cs)→g'.rho[id]? = some b→
   (st.σ[id]? = some (Bx.cells ty cs)∧g.rho[id]? = some b∧¬A (.box id)∧∀(off:Nat) (x:PV),cs[off]? = some x→x.isOwn=true→¬A (.plc (.cell id off)))∨
   ∃c fz,w'.heap[b]? = some (.cells c ty fz)∧Unfz fz c.size∧c.size=cs.length∧
    ∀(off:Nat) (x:PV),cs[off]? = some x→x.noAl=true∧∃v,c[off]? = some v∧Slot P st' g' vs' w' (.cell id off) x v)
  (hbmap:∀(id:Nat) (es:Mp) (b:Nat),st'.σ[id]? = some (Bx.mp es)→g'.rho[id]? = some b→
   (st.σ[id]? = some (Bx.mp es)∧g.rho[id]? = some b∧¬A (.box id))∨
   ∃en ck,w'.heap[b]? = some (Obj.map en ck)∧en.toList.map (fun e=>(e.key,e.val))=es.es)
  (hbfam:∀(id:Nat) (alts:List PT) (l:List (shA alts).den),st'.σ[id]? = some (Bx.fam alts l)→
   (st.σ[id]? = some (Bx.fam alts l)∧(∀i,¬A (.obj id i))∧g'.fam id=g.fam id)∨FamOk P g' w' id alts l)
  (hrown:∀(id b:Nat),famAt st'.σ id=false→g'.rho[id]? = some b→g'.ow b=some (.box id))
  (hfdom:∀id i v,g'.fam id i=some v→id<st'.σ.length)
  (holt:∀b o,g'.ow b=some o→b<w'.heap.size)
  (hflt:∀b i,g'.FP b i→b<w'.heap.size)
  (hfbox:∀b i id,g'.ow b=some (.box id)→¬g'.FP b i):Inv P g' st' vs' w' where
 size:=hsize
 slot t x hx:=by
  rcases hslot t x hx with rfl | ⟨h1,h2,h3,h4⟩ | h1
  ·have ht:t<st'.n:=get_lt hx
   exact ⟨vs'[t]'(by omega),Array.getElem?_eq_getElem (by omega),trivial⟩
  ·obtain ⟨v,hv,hs⟩:=h.slot t x h1
   exact ⟨v,h2.trans hv,hs.chg hC h3 h4⟩
  ·exact h1
 rlen:=hrlen
 box id ty cs b h1 h2:=by
  rcases hbox id ty cs b h1 h2 with ⟨k1,k2,k3,k4⟩ | k
  ·obtain ⟨c,fz,hb,hz,hs,hx⟩:=h.box id ty cs b k1 k2
   have ho:=h.rown id b (famAt_cells k1) k2
   have hlt:=h.olt b _ ho
   refine ⟨c,fz,(hC.heap b _ ho k3 hlt).trans hb,hz,hs,fun off x hox=>?_⟩
   obtain ⟨hn,v,hv,hsl⟩:=hx off x hox
   refine ⟨hn,v,hv,hsl.chg hC (k4 off x hox) ?_⟩
   rintro q (rfl | ⟨_,_,rfl⟩) <;> simp [PV.noAl] at hn
  ·exact k
 bmap id es b h1 h2:=by
  rcases hbmap id es b h1 h2 with ⟨k1,k2,k3⟩ | k
  ·obtain ⟨en,ck,hb,he⟩:=h.bmap id es b k1 k2
   have ho:=h.rown id b (famAt_mp k1) k2
   exact ⟨en,ck,(hC.heap b _ ho k3 (h.olt b _ ho)).trans hb,he⟩
  ·exact k
 bfam id alts l h1:=by
  rcases hbfam id alts l h1 with ⟨k1,k2,k3⟩ | k
  ·exact (h.bfam id alts l k1).chg hC k2 k3 h.olt
  ·exact k
 rown:=hrown
 fdom:=hfdom
 olt:=holt
 flt:=hflt
 fbox:=hfbox
theorem alias_content {P:Program} {st:St} {g:Gh} {vs:Array Value} {w:World} (h:Inv P g st vs w) {t:Nat} {x:PV} {q:Plc}
  (hx:st.get t=some x) (hq:x=.alias q∨∃k off,x=.elem q k off):∃fl n xs,contentAt st q=some (.sl fl n xs)∧fl.isOwn=true:=by
 obtain ⟨v,_,hs⟩:=h.slot t x hx
 rcases hq with rfl | ⟨k,off,rfl⟩
 ·exact hs.1
 ·obtain ⟨fl,xs,b,cap,h1,h2,_⟩:=hs
  exact ⟨fl,false,xs,h1,h2⟩
def killA (p:Plc) (x:PV):PV:=
 match x with
 | .alias q=>if q=p then .dead else x
 | .elem q _ _=>if q=p then .dead else x
 | _=>x
def killL (p:Plc):List (Nat×PV)→List (Nat×PV)
 | []=>[]
 | (k,x) :: r=>(k,killA p x) :: killL p r
def St.kill (st:St) (p:Plc):St:={ st with ts:=killL p st.ts }
theorem lkp_kill (p:Plc) (l:List (Nat×PV)) (t:Nat):lkp (killL p l) t=killA p (lkp l t):=by
 induction l with
 | nil=>rfl
 | cons q r ih=>
  obtain ⟨k,x⟩:=q
  simp only [killL,lkp]
  cases Nat.beq k t <;> simp [ih]
theorem get_kill (st:St) (p:Plc) (t:Nat):(st.kill p).get t=(st.get t).map (killA p):=by
 simp only [St.get,St.kill,lkp_kill]
 split <;> rfl
def setBx (off:Nat) (x:PV):Bx→Bx
 | .cells ty cs=>.cells ty (cs.set off x)
 | .mp es=>.mp es
 | .fam a l=>.fam a l
def St.putP (st:St) (p:Plc) (x:PV):St:=
 match p with
 | .tmp t=>{ st with ts:=upd st.ts t x }
 | .cell id off=>{ st with σ:=st.σ.modify id (setBx off x) }
def ownAt (st:St) (p:Plc):Bool:=
 match contentAt st p with
 | some x=>x.isOwn
 | none=>false
def St.setP (st:St) (p:Plc) (x:PV):St:=if ownAt st p then (st.kill p).putP p x else st.putP p x
theorem killA_own {p:Plc} {x:PV} (h:x.noAl=true):killA p x=x:=by
 cases x <;> first | rfl | simp [PV.noAl] at h
theorem contentAt_kill {st:St} {p q:Plc} {x:PV} (h:contentAt st q=some x) (hn:x.noAl=true):contentAt (st.kill p) q=some x:=by
 cases q with
 | tmp t=>simp only [contentAt,get_kill] at h ⊢;rw [h];simp [killA_own hn]
 | cell id off=>exact h
theorem contentAt_put_self {st:St} {p:Plc} {x y:PV} (h:contentAt st p=some y):contentAt (st.putP p x) p=some x:=by
 cases p with
 | tmp t=>
  simp only [contentAt,St.putP] at h ⊢
  have:=get_lt h
  simp [St.get,this,lkp_upd_self]
 | cell id off=>
  simp only [contentAt,St.putP,List.getElem?_modify] at h ⊢
  split at h
  ·rename_i ty cs hb
   rw [hb]
   have:=(List.getElem?_eq_some_iff.1 h).1
   simp [setBx,this]
  ·simp at h
theorem contentAt_put_ne {st:St} {p q:Plc} {x:PV} (h:q≠p):contentAt (st.putP p x) q=contentAt st q:=by
 cases p with
 | tmp t=>cases q with
  | tmp u=>
   have:t≠u:=fun e=>h (by rw [e])
   simp [contentAt,St.putP,St.get,lkp_upd_ne _ x this]
  | cell id off=>rfl
 | cell id off=>cases q with
  | tmp u=>rfl
  | cell id' off'=>
   simp only [contentAt,St.putP,List.getElem?_modify]
   by_cases e:id=id'
   ·subst e
    have ho:off≠off':=fun e=>h (by rw [e])
    simp only [if_pos]
    cases hb:st.σ[id]? with
    | none=>rfl
    | some b=>cases b with
     | cells ty cs=>simp [setBx,ho]
     | mp es=>simp [setBx]
     | fam a l=>simp [setBx]
   ·cases hb:st.σ[id']? <;> simp [e]
theorem contentAt_set_ne {st:St} {p q:Plc} {x y:PV} (h:q≠p) (hc:contentAt st q=some y) (hn:y.noAl=true):contentAt (st.setP p x) q=some y:=by
 unfold St.setP
 split
 ·rw [contentAt_put_ne h];exact contentAt_kill hc hn
 ·rw [contentAt_put_ne h];exact hc
theorem contentAt_set_self {st:St} {p:Plc} {x y:PV} (h:contentAt st p=some y):contentAt (st.setP p x) p=some x:=by
 unfold St.setP
 split
 ·rename_i ho
  have:y.isOwn=true:=by simpa [ownAt,h] using ho
  refine contentAt_put_self (contentAt_kill h ?_)
  cases y <;> first | rfl | simp [PV.isOwn] at this
 ·exact contentAt_put_self h
theorem set_slot {P:Program} {st:St} {g:Gh} {vs:Array Value} {w:World} (h:Inv P g st vs w) {p:Plc} {x:PV} {t:Nat} {y:PV}
  (hy:(st.setP p x).get t=some y) (hne:p≠.tmp t) :
  y=.dead∨(st.get t=some y∧∀q,(y=.alias q∨∃k off,y=.elem q k off)→q≠p∧∃fl n xs,contentAt st q=some (.sl fl n xs)∧contentAt (st.setP p x) q=some (.sl fl n xs)∧fl.isOwn=true):=by
 have key:∀{q:Plc},q≠p→(∃fl n xs,contentAt st q=some (.sl fl n xs)∧fl.isOwn=true)→
   q≠p∧∃fl n xs,contentAt st q=some (.sl fl n xs)∧contentAt (st.setP p x) q=some (.sl fl n xs)∧fl.isOwn=true:=by
  rintro q hq ⟨fl,n,xs,h1,h2⟩
  exact ⟨hq,fl,n,xs,h1,contentAt_set_ne hq h1 rfl,h2⟩
 have hput:∀s:St,(s.putP p x).get t=s.get t:=by
  intro s
  cases p with
  | tmp u=>
   have:u≠t:=fun e=>hne (by rw [e])
   simp [St.putP,St.get,lkp_upd_ne _ x this]
  | cell id off=>rfl
 by_cases ho:ownAt st p=true
 ·rw [show st.setP p x=(st.kill p).putP p x by unfold St.setP;rw [if_pos ho],hput] at hy
  rw [get_kill] at hy
  simp only [Option.map_eq_some_iff] at hy
  obtain ⟨z,hz,rfl⟩:=hy
  have hac:=fun q hq=>alias_content h (x:=z) (q:=q) hz hq
  cases z with
  | alias q=>
   by_cases e:q=p
   ·left;simp [killA,e]
   ·right
    simp only [killA,e,if_false]
    refine ⟨hz,?_⟩
    rintro q' (e' | ⟨_,_,e'⟩)
    ·injection e' with e';subst e';exact key e (hac _ (.inl rfl))
    ·cases e'
  | elem q k off=>
   by_cases e:q=p
   ·left;simp [killA,e]
   ·right
    simp only [killA,e,if_false]
    refine ⟨hz,?_⟩
    rintro q' (e' | ⟨_,_,e'⟩)
    ·cases e'
    ·injection e' with e';subst e';exact key e (hac _ (.inr ⟨_,_,rfl⟩))
  | _=>
   right
   refine ⟨hz,?_⟩
   rintro q' (e' | ⟨_,_,e'⟩) <;> simp [killA] at e'
 ·rw [show st.setP p x=st.putP p x by unfold St.setP;rw [if_neg ho],hput] at hy
  right
  refine ⟨hy,fun q hq=>?_⟩
  obtain ⟨fl,n,xs,h1,h2⟩:=alias_content h hy hq
  have hqp:q≠p:=by
   rintro rfl
   exact ho (by simp [ownAt,h1,PV.isOwn,h2])
  exact key hqp ⟨fl,n,xs,h1,h2⟩
theorem realAt_tmp_ne {g g':Gh} {vs:Array Value} {w w':World} {d t:Nat} {v:Value} (h:t≠d):realAt g' (vs.setIfInBounds d v) w' (.tmp t)=realAt g vs w (.tmp t):=by
 simp only [realAt]
 rw [Array.getElem?_setIfInBounds_ne (by omega)]
theorem cellAt_setP_tmp {st:St} {d:Nat} {x:PV}:(st.setP (.tmp d) x).σ=st.σ:=by
 unfold St.setP;split <;> rfl
theorem tsLen_setP {st:St} {p:Plc} {x:PV}:(st.setP p x).n=st.n:=by
 unfold St.setP
 cases p <;> split <;> rfl
theorem get_setP_tmp {st:St} {d:Nat} {x:PV} (h:d<st.n):(st.setP (.tmp d) x).get d=some x:=by
 unfold St.setP
 split <;> simp [St.putP,St.kill,St.get,h,lkp_upd_self]
theorem realAt_cell_same {A:Own→Prop} {P:Program} {st:St} {g g':Gh} {vs vs':Array Value} {w w':World} (h:Inv P g st vs w) (hC:Chg A g g' w w') (hr:g'.rho=g.rho)
  {id off:Nat} (hA:¬A (.box id)) (hk:famAt st.σ id=false):realAt g' vs' w' (.cell id off)=realAt g vs w (.cell id off):=by
 simp only [realAt,hr]
 cases hb:g.rho[id]? with
 | none=>rfl
 | some b=>
  have ho:=h.rown id b hk hb
  exact cell_of_heap (hC.heap b _ ho hA (h.olt b _ ho)) off
theorem famAt_content {st:St} {id off:Nat} {x:PV} (h:contentAt st (.cell id off)=some x):famAt st.σ id=false:=by
 simp only [contentAt] at h
 unfold famAt
 split at h
 ·rename_i e;rw [e];rfl
 ·cases h
theorem Inv.setTmp {P:Program} {A:Own→Prop} {st:St} {g g':Gh} {vs:Array Value} {w w':World} (h:Inv P g st vs w) {d:Nat} {x:PV} {v:Value} (hd:d<st.n)
  (hC:Chg A g g' w w') (hr:g'.rho=g.rho)
  (hA:∀r y,r≠.tmp d→contentAt st r=some y→y.isOwn=true→¬A (.plc r)) (hAb:∀id,¬A (.box id)) (hAo:∀id i,¬A (.obj id i)) (hfam:g'.fam=g.fam)
  (hx:Slot P (st.setP (.tmp d) x) g' (vs.setIfInBounds d v) w' (.tmp d) x v)
  (hrown:∀(id b:Nat),famAt st.σ id=false→g'.rho[id]? = some b→g'.ow b=some (.box id))
  (holt:∀b o,g'.ow b=some o→b<w'.heap.size)
  (hflt:∀b i,g'.FP b i→b<w'.heap.size)
  (hfbox:∀b i id,g'.ow b=some (.box id)→¬g'.FP b i):Inv P g' (st.setP (.tmp d) x) (vs.setIfInBounds d v) w':=by
 have hsz:=h.size
 refine h.step hC (by simp [tsLen_setP,hsz]) ?_ (by rw [cellAt_setP_tmp,hr];exact h.rlen) ?_ ?_ ?_ (by rw [cellAt_setP_tmp];exact hrown) (by rw [cellAt_setP_tmp,hfam];exact h.fdom) holt hflt hfbox
 ·intro t y hy
  by_cases ht:t=d
  ·subst ht
   rw [get_setP_tmp hd] at hy
   injection hy with hy
   subst hy
   exact .inr (.inr ⟨v,by rw [Array.getElem?_setIfInBounds_self_of_lt (by omega)],hx⟩)
  ·rcases set_slot h hy (p:=.tmp d) (by intro e;injection e with e;exact ht e.symm) with h1 | ⟨h1,h2⟩
   ·exact .inl h1
   ·refine .inr (.inl ⟨h1,Array.getElem?_setIfInBounds_ne (by omega),fun ho=>hA (.tmp t) y (by intro e;injection e with e;exact ht e) h1 ho,fun q hq=>?_⟩)
    obtain ⟨hne,fl,n,xs,k1,k2,k3⟩:=h2 q hq
    refine ⟨k2.trans k1.symm,?_⟩
    cases q with
    | tmp u=>exact realAt_tmp_ne (by rintro rfl;exact hne rfl)
    | cell id off=>exact realAt_cell_same h hC hr (hAb id) (famAt_content k1)
 ·intro id ty cs b h1 h2
  rw [cellAt_setP_tmp] at h1
  rw [hr] at h2
  exact .inl ⟨h1,h2,hAb id,fun off y hy ho=>hA (.cell id off) y (by intro e;cases e) (by simp only [contentAt,h1];exact hy) ho⟩
 ·intro id es b h1 h2
  rw [cellAt_setP_tmp] at h1
  rw [hr] at h2
  exact .inl ⟨h1,h2,hAb id⟩
 ·intro id alts l h1
  rw [cellAt_setP_tmp] at h1
  exact .inl ⟨h1,hAo id,by rw [hfam]⟩
theorem Inv.setPlain {P:Program} {st:St} {g:Gh} {vs:Array Value} {w:World} (h:Inv P g st vs w) {d:Nat} {x:PV} {v:Value} (hd:d<st.n)
  (hx:Slot P (st.setP (.tmp d) x) g (vs.setIfInBounds d v) w (.tmp d) x v):Inv P g (st.setP (.tmp d) x) (vs.setIfInBounds d v) w:=
 h.setTmp (A:=fun _=>False) hd (Chg.refl _ g w) rfl (fun _ _ _ _ _=>not_false) (fun _=>not_false) (fun _ _=>not_false) rfl hx h.rown h.olt h.flt h.fbox
def PV.plain:PV→Bool
 | .alias _=>false
 | .elem _ _ _=>false
 | .dead=>false
 | .sl fl n _=>!fl.isOwn || n
 | _=>true
theorem slot_of_rel {P:Program} {st:St} {g:Gh} {vs:Array Value} {w:World} {p:Plc} {x:PV} {v:Value} (h:Rel g w x v) (hp:x.plain=true):Slot P st g vs w p x v:=by
 cases x with
 | sl fl n xs=>
  cases fl with
  | view=>exact h
  | own e=>
   have hn:n=true:=by simpa [PV.plain,Flag.isOwn] using hp
   subst hn
   cases h with
   | slnil=>exact .inl ⟨rfl,rfl⟩
  | excl e=>
   have hn:n=true:=by simpa [PV.plain,Flag.isOwn] using hp
   subst hn
   cases h with
   | slnil=>exact .inl ⟨rfl,rfl⟩
 | alias _=>simp [PV.plain] at hp
 | elem _ _ _=>simp [PV.plain] at hp
 | dead=>trivial
 | _=>exact h
theorem Inv.setRel {P:Program} {st:St} {g:Gh} {vs:Array Value} {w:World} (h:Inv P g st vs w) {d:Nat} {x:PV} {v:Value} (hd:d<st.n)
  (hp:x.plain=true) (hx:Rel g w x v):Inv P g (st.setP (.tmp d) x) (vs.setIfInBounds d v) w:=
 h.setPlain hd (slot_of_rel hx hp)
theorem Inv.setAlias {P:Program} {st:St} {g:Gh} {vs:Array Value} {w:World} (h:Inv P g st vs w) {d:Nat} {q:Plc} {v:Value} (hd:d<st.n)
  (hq:q≠.tmp d) {fl:Flag} {n:Bool} {xs:Xs} (hc:contentAt st q=some (.sl fl n xs)) (ho:fl.isOwn=true) (hv:realAt g vs w q=some v) :
  Inv P g (st.setP (.tmp d) (.alias q)) (vs.setIfInBounds d v) w:=by
 refine h.setPlain hd ⟨⟨fl,n,xs,contentAt_set_ne hq hc rfl,ho⟩,?_⟩
 rw [←hv]
 cases q with
 | tmp u=>exact realAt_tmp_ne (by rintro rfl;exact hq rfl)
 | cell id off=>rfl
theorem Inv.setElem {P:Program} {st:St} {g:Gh} {vs:Array Value} {w:World} (h:Inv P g st vs w) {d:Nat} {q:Plc} {v:Value} {k off:Nat} (hd:d<st.n)
  (hq:q≠.tmp d) {p:Plc} (hs:Slot P st g vs w p (.elem q k off) v) :
  Inv P g (st.setP (.tmp d) (.elem q k off)) (vs.setIfInBounds d v) w:=by
 obtain ⟨fl,xs,b,cap,h1,h2,h3,h4⟩:=hs
 refine h.setPlain hd ⟨fl,xs,b,cap,contentAt_set_ne hq h1 rfl,h2,?_,h4⟩
 rw [←h3]
 cases q with
 | tmp u=>exact realAt_tmp_ne (by rintro rfl;exact hq rfl)
 | cell id off=>rfl
theorem Inv.setDead {P:Program} {st:St} {g:Gh} {vs:Array Value} {w:World} (h:Inv P g st vs w) {d:Nat} {v:Value} (hd:d<st.n) :
  Inv P g (st.setP (.tmp d) .dead) (vs.setIfInBounds d v) w:=h.setPlain hd trivial
theorem Inv.forget {P:Program} {st:St} {g:Gh} {vs:Array Value} {w:World} (h:Inv P g st vs w) {d:Nat} (hd:d<st.n) :
  Inv P g (st.setP (.tmp d) .dead) vs w:=by
 have:=h.setDead (v:=vs[d]'(by have:=h.size;omega)) hd
 rwa [show vs.setIfInBounds d (vs[d]'(by have:=h.size;omega))=vs by simp [Array.setIfInBounds]] at this
theorem own_at {P:Program} {st:St} {g:Gh} {vs:Array Value} {w:World} (h:Inv P g st vs w) {p:Plc} {fl:Flag} {n:Bool} {xs:Xs}
  (hc:contentAt st p=some (.sl fl n xs)) (ho:fl.isOwn=true):∃v,realAt g vs w p=some v∧OwnOk P g w p fl.isExcl fl.e n xs.els v:=by
 have key:∀v,Slot P st g vs w p (.sl fl n xs) v→OwnOk P g w p fl.isExcl fl.e n xs.els v:=by
  intro v hs
  cases fl with
  | view=>simp [Flag.isOwn] at ho
  | own e=>exact hs
  | excl e=>exact hs
 cases p with
 | tmp t=>
  obtain ⟨v,hv,hs⟩:=h.slot t _ hc
  exact ⟨v,hv,key v hs⟩
 | cell id off=>
  simp only [contentAt] at hc
  split at hc
  ·rename_i ty cs hσ
   have hid:id<g.rho.length:=by rw [h.rlen];exact (List.getElem?_eq_some_iff.1 hσ).1
   obtain ⟨c,fz,hb,_,_,hx⟩:=h.box id ty cs _ hσ (List.getElem?_eq_getElem hid)
   obtain ⟨_,v,hv,hs⟩:=hx off _ hc
   refine ⟨v,?_,key v hs⟩
   simp only [realAt,List.getElem?_eq_getElem hid,World.cell?,hb]
   simpa using hv
  ·cases hc
theorem σ_setP_cell {st:St} {id off:Nat} {x:PV}:(st.setP (.cell id off) x).σ=st.σ.modify id (setBx off x):=by
 unfold St.setP;split <;> rfl
theorem famAt_setBx (σ:List Bx) (id off:Nat) (x:PV) (id':Nat):famAt (σ.modify id (setBx off x)) id'=famAt σ id':=by
 unfold famAt
 rw [List.getElem?_modify]
 cases hh:σ[id']? with
 | none=>rfl
 | some z=>
  by_cases e:id=id'
  ·simp only [e,if_pos]
   cases z <;> rfl
  ·simp [e]
theorem famAt_putP (st:St) (p:Plc) (x:PV) (id':Nat):famAt (st.putP p x).σ id'=famAt st.σ id':=by
 cases p with
 | tmp t=>rfl
 | cell id off=>exact famAt_setBx _ _ _ _ _
theorem famAt_setP (st:St) (p:Plc) (x:PV) (id':Nat):famAt (st.setP p x).σ id'=famAt st.σ id':=by
 unfold St.setP
 split
 ·exact (famAt_putP _ _ _ _).trans rfl
 ·exact famAt_putP _ _ _ _
theorem rown_setP {st:St} {p:Plc} {x:PV} {Q:Nat→Nat→Prop} (h:∀id b,famAt st.σ id=false→Q id b):∀id b,famAt (st.setP p x).σ id=false→Q id b:=fun id b hk=>h id b (by rw [←hk,famAt_setP])
theorem rown_putP {st:St} {p:Plc} {x:PV} {Q:Nat→Nat→Prop} (h:∀id b,famAt st.σ id=false→Q id b):∀id b,famAt (st.putP p x).σ id=false→Q id b:=fun id b hk=>h id b (by rw [←hk,famAt_putP])
theorem Inv.setCell {P:Program} {A:Own→Prop} {st:St} {g g':Gh} {vs:Array Value} {w w':World} (h:Inv P g st vs w) {id off b:Nat} {ty:TypeId} {cs:List PV} {x:PV} {v:Value}
  (hσ:st.σ[id]? = some (Bx.cells ty cs)) (hrho:g.rho[id]? = some b) (hC:Chg A g g' w w') (hr:g'.rho=g.rho)
  (hA:∀r y,r≠.cell id off→contentAt st r=some y→y.isOwn=true→¬A (.plc r)) (hAb:∀id',id'≠id→¬A (.box id')) (hAo:∀id i,¬A (.obj id i)) (hfam:g'.fam=g.fam)
  (hw:∀c fz,w.heap[b]? = some (.cells c ty fz)→w'.heap[b]? = some (.cells (c.setIfInBounds off v) ty fz)) (hn:x.noAl=true)
  (hx:Slot P (st.setP (.cell id off) x) g' vs w' (.cell id off) x v)
  (hrown:∀(id b:Nat),famAt st.σ id=false→g'.rho[id]? = some b→g'.ow b=some (.box id))
  (holt:∀b o,g'.ow b=some o→b<w'.heap.size)
  (hflt:∀b i,g'.FP b i→b<w'.heap.size)
  (hfbox:∀b i id,g'.ow b=some (.box id)→¬g'.FP b i):Inv P g' (st.setP (.cell id off) x) vs w':=by
 have hid:id<st.σ.length:=(List.getElem?_eq_some_iff.1 hσ).1
 obtain ⟨c,fz,hb,hz,hcs,hcx⟩:=h.box id ty cs b hσ hrho
 have hfm:∀id',famAt (st.setP (.cell id off) x).σ id'=famAt st.σ id':=by
  exact fun id'=>famAt_setP _ _ _ _
 have hreal:∀q y,q≠.cell id off→contentAt st q=some y→realAt g' vs w' q=realAt g vs w q:=by
  intro q y hq hy
  cases q with
  | tmp u=>rfl
  | cell id' off'=>
   by_cases e:id'=id
   ·subst e
    have ho:off≠off':=fun e=>hq (by rw [e])
    simp only [realAt,hr,hrho,World.cell?,hb,hw c fz hb]
    simp [ho]
   ·exact realAt_cell_same h hC hr (hAb id' e) (famAt_content hy)
 refine h.step hC (by rw [tsLen_setP];exact h.size) ?_ (by rw [hr,σ_setP_cell];simp [h.rlen]) ?_ ?_ ?_ (fun id' b' hk=>hrown id' b' (by rw [←hfm];exact hk)) (by rw [hfam,σ_setP_cell,List.length_modify];exact h.fdom) holt hflt hfbox
 ·intro t y hy
  rcases set_slot h hy (p:=.cell id off) (by intro e;cases e) with h1 | ⟨h1,h2⟩
  ·exact .inl h1
  ·refine .inr (.inl ⟨h1,rfl,fun ho=>hA (.tmp t) y (by intro e;cases e) h1 ho,fun q hq=>?_⟩)
   obtain ⟨hne,fl,n,xs,k1,k2,k3⟩:=h2 q hq
   exact ⟨k2.trans k1.symm,hreal q _ hne k1⟩
 ·intro id' ty' cs' b' h1 h2
  rw [σ_setP_cell,List.getElem?_modify] at h1
  rw [hr] at h2
  by_cases e:id=id'
  ·subst e
   rw [hσ] at h1
   simp only [if_pos,Option.map_eq_map,Option.map_some,setBx,Option.some.injEq,Bx.cells.injEq] at h1
   obtain ⟨rfl,rfl⟩:=h1
   rw [hrho] at h2
   injection h2 with h2
   subst h2
   refine .inr ⟨_,fz,hw c fz hb,by simpa using hz,by simp [hcs],fun o y hy=>?_⟩
   by_cases eo:off=o
   ·subst eo
    have hlt:off<cs.length:=by simpa using (List.getElem?_eq_some_iff.1 hy).1
    rw [List.getElem?_set_self hlt] at hy
    injection hy with hy
    subst hy
    exact ⟨hn,v,by rw [Array.getElem?_setIfInBounds_self_of_lt (by omega)],hx⟩
   ·rw [List.getElem?_set_ne eo] at hy
    obtain ⟨k1,u,k2,k3⟩:=hcx o y hy
    refine ⟨k1,u,by rw [Array.getElem?_setIfInBounds_ne eo];exact k2,k3.chg hC (fun ho=>hA (.cell id o) y (by intro e;injection e with _ e;exact eo e.symm) (by simp only [contentAt,hσ];exact hy) ho) ?_⟩
    rintro q (rfl | ⟨_,_,rfl⟩) <;> simp [PV.noAl] at k1
  ·have h1':st.σ[id']? = some (Bx.cells ty' cs'):=by
    cases hh:st.σ[id']? with
    | none=>simp [hh] at h1
    | some z=>simpa [hh,e] using h1
   exact .inl ⟨h1',h2,hAb id' (fun e'=>e e'.symm),fun o y hy ho=>hA (.cell id' o) y (by intro e';injection e' with e' _;exact e e'.symm) (by simp only [contentAt,h1'];exact hy) ho⟩
 ·intro id' es b' h1 h2
  rw [σ_setP_cell,List.getElem?_modify] at h1
  rw [hr] at h2
  by_cases e:id=id'
  ·subst e
   rw [hσ] at h1
   simp [setBx] at h1
  ·have h1':st.σ[id']? = some (Bx.mp es):=by
    cases hh:st.σ[id']? with
    | none=>simp [hh] at h1
    | some z=>simpa [hh,e] using h1
   exact .inl ⟨h1',h2,hAb id' (fun e'=>e e'.symm)⟩
 ·intro id' alts l h1
  rw [σ_setP_cell,List.getElem?_modify] at h1
  have h1':st.σ[id']? = some (Bx.fam alts l):=by
   cases hh:st.σ[id']? with
   | none=>simp [hh] at h1
   | some z=>
    by_cases e:id=id'
    ·subst e
     rw [hσ] at h1
     simp [setBx] at h1
    ·simpa [hh,e] using h1
  exact .inl ⟨h1',hAo id',by rw [hfam]⟩
theorem heap_setCell_ne (w:World) (a:Addr) (u:Value) (k:Nat) (h:k≠a.block):(w.setCell a u).heap[k]? = w.heap[k]?:=by
 simp only [World.setCell,Array.getElem?_modify]
 rw [if_neg (by omega)]
theorem heap_setCell_self (w:World) (b off:Nat) (u:Value) {c:Array Value} {ty:TypeId} {fz:Nat×Nat} (h:w.heap[b]? = some (.cells c ty fz)) :
  (w.setCell ⟨b,off,none⟩ u).heap[b]? = some (.cells (c.setIfInBounds off u) ty fz):=by
 simp only [World.setCell,Array.getElem?_modify,if_pos,h]
 simp
theorem size_setCell (w:World) (a:Addr) (u:Value):(w.setCell a u).heap.size=w.heap.size:=by simp [World.setCell]
theorem ext_setCell {g:Gh} {w:World} {b off:Nat} {o:Own} (ho:g.ow b=some o) (hf:o≠.frame) (hp:¬g.FP b off) (u:Value):Ext g g w (w.setCell ⟨b,off,none⟩ u) where
 rho:=List.prefix_rfl
 fam _ _ _ h:=h
 obx _ _ _ h:=h
 fp _ _ h:=h
 fpc b' i hi:=by
  by_cases e:b'=b
  ·subst e
   have:i≠off:=fun e=>hp (e▸hi)
   simp only [World.cell?,World.setCell,Array.getElem?_modify]
   cases hh:w.heap[b']? with
   | none=>simp
   | some z=>cases z <;> simp [this.symm]
  ·exact cell_of_heap (heap_setCell_ne _ _ _ _ e) i
 keep b' _ hb:=heap_setCell_ne _ _ _ _ (by
  rintro rfl
  rw [ho] at hb
  rcases hb with hb | hb
  ·cases hb
  ·injection hb with hb;exact hf hb)
 size:=Nat.le_of_eq (size_setCell ..).symm
 frame _ h:=h
 noframe _ h:=h
 none_ _ _ h:=h
 fnew _ _ _ h:=h
 os:=rfl
 tape:=rfl
 output:=rfl
theorem chg_setCell {g:Gh} {w:World} {b off:Nat} {o:Own} (ho:g.ow b=some o) (hf:o≠.frame) (hp:¬g.FP b off) (u:Value) {A:Own→Prop} (hA:A o) :
  Chg A g g w (w.setCell ⟨b,off,none⟩ u):=
 ⟨ext_setCell ho hf hp u,fun b' o' h1 h2 _=>heap_setCell_ne _ _ _ _ (by rintro rfl;rw [ho] at h1;injection h1 with h1;subst h1;exact h2 hA),fun _ _ h _=>h,fun _ _ _ _ _ h=>h⟩
theorem Inv.storeRel {P:Program} {st:St} {g:Gh} {vs:Array Value} {w:World} (h:Inv P g st vs w) {id off b:Nat} {ty:TypeId} {cs:List PV} {x:PV} {v:Value}
  (hσ:st.σ[id]? = some (Bx.cells ty cs)) (hrho:g.rho[id]? = some b) (hp:x.plain=true) (hx:Rel g w x v) :
  Inv P g (st.setP (.cell id off) x) vs (w.setCell ⟨b,off,none⟩ v)∧Ext g g w (w.setCell ⟨b,off,none⟩ v):=by
 have ho:=h.rown id b (famAt_cells hσ) hrho
 have hE:=ext_setCell (w:=w) (off:=off) ho (by simp) (h.fbox b off id ho) v
 refine ⟨?_,hE⟩
 refine h.setCell (A:=fun o=>o=.box id∨o=.plc (.cell id off)) hσ hrho (chg_setCell ho (by simp) (h.fbox b off id ho) v (.inl rfl)) rfl
  (fun r y hr _ _ e=>by rcases e with e | e <;> cases e;exact hr rfl) (fun id' hid e=>by rcases e with e | e <;> cases e;exact hid rfl) (fun _ _ e=>by rcases e with e | e <;> cases e) rfl
  (fun c fz hb=>heap_setCell_self w b off v hb) (by cases x <;> first | rfl | simp [PV.plain] at hp) (slot_of_rel (hx.ext hE) hp) h.rown
  (fun b' o hb=>by rw [size_setCell];exact h.olt b' o hb) (fun b' i hb=>by rw [size_setCell];exact h.flt b' i hb) h.fbox
theorem Inv.storeSlot {P:Program} {st:St} {g:Gh} {vs:Array Value} {w:World} (h:Inv P g st vs w) {id off b:Nat} {ty:TypeId} {cs:List PV} {x:PV} {v:Value}
  (hσ:st.σ[id]? = some (Bx.cells ty cs)) (hrho:g.rho[id]? = some b) (hn:x.noAl=true) (hx:∀st' w',Slot P st' g vs w' (.cell id off) x v) :
  Inv P g (st.setP (.cell id off) x) vs (w.setCell ⟨b,off,none⟩ v)∧Ext g g w (w.setCell ⟨b,off,none⟩ v):=by
 have ho:=h.rown id b (famAt_cells hσ) hrho
 have hE:=ext_setCell (w:=w) (off:=off) ho (by simp) (h.fbox b off id ho) v
 refine ⟨?_,hE⟩
 exact h.setCell (A:=fun o=>o=.box id∨o=.plc (.cell id off)) hσ hrho (chg_setCell ho (by simp) (h.fbox b off id ho) v (.inl rfl)) rfl
  (fun r y hr _ _ e=>by rcases e with e | e <;> cases e;exact hr rfl) (fun id' hid e=>by rcases e with e | e <;> cases e;exact hid rfl) (fun _ _ e=>by rcases e with e | e <;> cases e) rfl
  (fun c fz hb=>heap_setCell_self w b off v hb) hn (hx _ _) h.rown
  (fun b' o hb=>by rw [size_setCell];exact h.olt b' o hb) (fun b' i hb=>by rw [size_setCell];exact h.flt b' i hb) h.fbox
theorem setIf_self {α:Type} (c:Array α) (i:Nat) (v:α) (h:c[i]? = some v):c.setIfInBounds i v=c:=by
 apply Array.ext_getElem?
 intro j
 by_cases e:i=j
 ·subst e
  obtain ⟨h1,h2⟩:=Array.getElem?_eq_some_iff.1 h
  simp [h1,h2]
 ·simp [e]
theorem Inv.forgetP {P:Program} {st:St} {g:Gh} {vs:Array Value} {w:World} (h:Inv P g st vs w) {p:Plc} {y:PV} (hc:contentAt st p=some y) :
  Inv P g (st.setP p .dead) vs w:=by
 cases p with
 | tmp d=>exact h.forget (get_lt hc)
 | cell id off=>
  simp only [contentAt] at hc
  split at hc
  ·rename_i ty cs hσ
   have hid:id<g.rho.length:=by rw [h.rlen];exact (List.getElem?_eq_some_iff.1 hσ).1
   have hrho:=List.getElem?_eq_getElem hid
   obtain ⟨c,fz,hb,_,hcs,hx⟩:=h.box id ty cs _ hσ hrho
   have hoff:off<c.size:=by rw [hcs];exact (List.getElem?_eq_some_iff.1 hc).1
   refine h.setCell (A:=fun _=>False) (v:=c[off]) hσ hrho (Chg.refl _ g w) rfl (fun _ _ _ _ _=>not_false) (fun _ _=>not_false) (fun _ _=>not_false) rfl ?_ rfl trivial h.rown h.olt h.flt h.fbox
   intro c' fz' hb'
   rw [hb] at hb'
   injection hb' with hb'
   injection hb' with e1 _ e2
   subst e1;subst e2
   rw [setIf_self _ _ _ (Array.getElem?_eq_getElem hoff)]
   exact hb
  ·cases hc
def Gh.setOw (g:Gh) (b:Nat) (o:Own):Gh:={ g with ow:=fun c=>if c=b then some o else g.ow c }
theorem heap_alloc_lt (w:World) (o:Obj) (k:Nat) (h:k<w.heap.size):(w.alloc o).heap[k]? = w.heap[k]?:=by
 show (w.heap.push o)[k]? = _
 rw [Array.getElem?_push,if_neg (by omega)]
theorem heap_alloc_new (w:World) (o:Obj):(w.alloc o).heap[w.heap.size]? = some o:=by
 show (w.heap.push o)[w.heap.size]? = _
 simp
theorem size_alloc (w:World) (o:Obj):(w.alloc o).heap.size=w.heap.size+1:=by
 show (w.heap.push o).size=_
 simp
theorem FP_new {P:Program} {st:St} {g:Gh} {vs:Array Value} {w:World} (h:Inv P g st vs w) (i:Nat):¬g.FP w.heap.size i:=fun e=>absurd (h.flt _ _ e) (by omega)
theorem chg_alloc {P:Program} {st:St} {g g':Gh} {vs:Array Value} {w:World} (h:Inv P g st vs w) (A:Own→Prop) (o:Obj) (ob:Own) (hob:ob≠.frame)
  (hr:g.rho <+: g'.rho) (hm:g'.fam=g.fam) (hf:g'.FP=g.FP) (ho:∀b,g'.ow b=if b=w.heap.size then some ob else g.ow b):Chg A g g' w (w.alloc o) where
 ext:=
  {rho:=hr
   fam:=fun id i v hv=>by rw [hm];exact hv
   obx:=fun b id _ hb=>by rw [ho,if_neg (by have:=h.olt b _ hb;omega)];exact hb
   fp:=fun b i hb=>by rw [hf];exact hb
   fpc:=fun b i hb=>cell_of_heap (heap_alloc_lt _ _ _ (h.flt b i hb)) i
   keep:=fun b hb _=>heap_alloc_lt _ _ _ hb
   size:=by rw [size_alloc];omega
   frame:=fun b hb=>by rw [ho,if_neg (by have:=h.olt b _ hb;omega)];exact hb
   noframe:=fun b hb=>by rw [ho];split;(intro e;injection e with e;exact hob e);exact hb
   none_:=fun b hb hn=>by rw [ho,if_neg (by omega)];exact hn
   fnew:=fun b i _ hb=>by rw [hf] at hb;exact hb
   os:=rfl
   tape:=rfl
   output:=rfl }
 heap b _ _ _ hb:=heap_alloc_lt _ _ _ hb
 ow b o' hb _:=by rw [ho,if_neg (by have:=h.olt b _ hb;omega)];exact hb
 fp b _ i _ _ hb:=by rw [hf] at hb;exact hb
theorem Inv.newBox {P:Program} {st:St} {g:Gh} {vs:Array Value} {w:World} (h:Inv P g st vs w) {ty:TypeId} {cs:List PV} {c:Array Value}
  (hlen:c.size=cs.length) (hc:∀(i:Nat) (x:PV),cs[i]? = some x→∃v,c[i]? = some v∧(x=.dead∨(x.plain=true∧Rel g w x v))) :
  Inv P { rho:=g.rho++[w.heap.size],FP:=g.FP,ow:=(g.setOw w.heap.size (.box st.σ.length)).ow,fam:=g.fam } { st with σ:=st.σ++[.cells ty cs] } vs (w.alloc (.cells c ty))∧
  Ext g { rho:=g.rho++[w.heap.size],FP:=g.FP,ow:=(g.setOw w.heap.size (.box st.σ.length)).ow,fam:=g.fam } w (w.alloc (.cells c ty)):=by
 have hC:=chg_alloc h (g':={ rho:=g.rho++[w.heap.size],FP:=g.FP,ow:=(g.setOw w.heap.size (.box st.σ.length)).ow,fam:=g.fam }) (fun _=>False) (.cells c ty) (.box st.σ.length) (by simp) ⟨_,rfl⟩ rfl rfl (fun b=>rfl)
 refine ⟨?_,hC.ext⟩
 have hrl:=h.rlen
 refine h.step hC h.size ?_ (by simp [hrl]) ?_ ?_ ?_ ?_ ?_ ?_ ?_ ?_
 ·intro t x hx
  refine .inr (.inl ⟨hx,rfl,fun _=>not_false,fun q hq=>?_⟩)
  obtain ⟨fl,n,xs,h1,_⟩:=alias_content h hx hq
  cases q with
  | tmp u=>exact ⟨rfl,rfl⟩
  | cell id off=>
   simp only [contentAt] at h1
   split at h1
   ·rename_i ty' cs' hσ
    have hid:id<st.σ.length:=(List.getElem?_eq_some_iff.1 hσ).1
    have hlt:g.rho[id]'(by omega)<w.heap.size:=h.olt _ _ (h.rown id _ (famAt_cells hσ) (List.getElem?_eq_getElem (by omega)))
    refine ⟨by simp only [contentAt];rw [List.getElem?_append_left hid],?_⟩
    simp only [realAt]
    rw [List.getElem?_append_left (by omega),List.getElem?_eq_getElem (by omega)]
    exact cell_of_heap (heap_alloc_lt _ _ _ hlt) off
   ·cases h1
 ·intro id ty' cs' b h1 h2
  rcases Nat.lt_or_ge id st.σ.length with hid | hid
  ·rw [List.getElem?_append_left hid] at h1
   rw [List.getElem?_append_left (by omega)] at h2
   exact .inl ⟨h1,h2,not_false,fun _ _ _ _=>not_false⟩
  ·have e:id=st.σ.length:=by have:=(List.getElem?_eq_some_iff.1 h1).1;simp at this;omega
   subst e
   rw [List.getElem?_append_right (by omega)] at h1
   rw [List.getElem?_append_right (by omega),hrl] at h2
   simp only [Nat.sub_self,List.getElem?_cons_zero,Option.some.injEq,Bx.cells.injEq] at h1 h2
   obtain ⟨rfl,rfl⟩:=h1
   subst h2
   refine .inr ⟨c,(0,0),heap_alloc_new _ _,fun i _ h=>by omega,hlen,fun off x hx=>?_⟩
   obtain ⟨v,hv,hR⟩:=hc off x hx
   rcases hR with rfl | ⟨hp,hR⟩
   ·exact ⟨rfl,v,hv,trivial⟩
   ·exact ⟨by cases x <;> first | rfl | simp [PV.plain] at hp,v,hv,slot_of_rel (hR.ext hC.ext) hp⟩
 ·intro id es b h1 h2
  rcases Nat.lt_or_ge id st.σ.length with hid | hid
  ·rw [List.getElem?_append_left hid] at h1
   rw [List.getElem?_append_left (by omega)] at h2
   exact .inl ⟨h1,h2,not_false⟩
  ·have e:id=st.σ.length:=by have:=(List.getElem?_eq_some_iff.1 h1).1;simp at this;omega
   subst e
   rw [List.getElem?_append_right (by omega)] at h1
   simp at h1
 ·intro id alts l h1
  rcases Nat.lt_or_ge id st.σ.length with hid | hid
  ·rw [List.getElem?_append_left hid] at h1
   exact .inl ⟨h1,fun _=>not_false,rfl⟩
  ·have e:id=st.σ.length:=by have:=(List.getElem?_eq_some_iff.1 h1).1;simp at this;omega
   subst e
   rw [List.getElem?_append_right (by omega)] at h1
   simp at h1
 ·intro id b hk hb
  show (if b=w.heap.size then some (Own.box st.σ.length) else g.ow b)=_
  rcases Nat.lt_or_ge id g.rho.length with hid | hid
  ·rw [List.getElem?_append_left hid] at hb
   have:=h.rown id b (by unfold famAt at hk ⊢;rwa [List.getElem?_append_left (by omega)] at hk) hb
   rw [if_neg (by have:=h.olt b _ this;omega)];exact this
  ·rw [List.getElem?_append_right hid] at hb
   have e:id=g.rho.length:=by have:=(List.getElem?_eq_some_iff.1 hb).1;simp at this;omega
   subst e
   simp only [Nat.sub_self,List.getElem?_cons_zero,Option.some.injEq] at hb
   rw [if_pos hb.symm,hrl]
 ·intro id i v hv
  have:=h.fdom id i v hv
  simp only [List.length_append,List.length_singleton];omega
 ·intro b o hb
  rw [size_alloc]
  have hb':(if b=w.heap.size then some (Own.box st.σ.length) else g.ow b)=some o:=hb
  split at hb'
  ·omega
  ·have:=h.olt b o hb';omega
 ·intro b i hb
  rw [size_alloc]
  have:=h.flt b i hb;omega
 ·intro b i id hb
  have hb':(if b=w.heap.size then some (Own.box st.σ.length) else g.ow b)=some (.box id):=hb
  split at hb'
  ·rename_i e;subst e;exact FP_new h i
  ·exact h.fbox b i id hb'
theorem slot_own {P:Program} {st:St} {g:Gh} {vs:Array Value} {w:World} {p:Plc} {fl:Flag} {n:Bool} {xs:Xs} {v:Value} (ho:fl.isOwn=true)
  (h:OwnOk P g w p fl.isExcl fl.e n xs.els v):Slot P st g vs w p (.sl fl n xs) v:=by
 cases fl with
 | view=>simp [Flag.isOwn] at ho
 | own e=>exact h
 | excl e=>exact h
theorem Inv.newOwn {P:Program} {st:St} {g:Gh} {vs:Array Value} {w:World} (h:Inv P g st vs w) {d:Nat} (hd:d<st.n) {e:TypeId} {fl:Flag} (hfl:fl.isOwn=true) (hfe:fl.e=e) {xs:List (List PV)} {zs:Xs} (hz:zs.els=xs) {c:Array Value} {cap:Nat} {fz:Nat×Nat}
  (hcap:xs.length≤cap) (hsz:c.size=cap*P.cellsOf e) (hfz:Unfz fz c.size)
  (hlen:∀i,(h:i<xs.length)→xs[i].length=P.cellsOf e)
  (hrel:∀i j (hi:i<xs.length) (hj:j<xs[i].length),∃v,c[i*P.cellsOf e+j]? = some v∧Rel g w xs[i][j] v) :
  Inv P (g.setOw w.heap.size (.plc (.tmp d))) (st.setP (.tmp d) (.sl fl false zs)) (vs.setIfInBounds d (.slice (some ⟨w.heap.size,0,none⟩) xs.length cap)) (w.alloc (.cells c e fz))∧
  Ext g (g.setOw w.heap.size (.plc (.tmp d))) w (w.alloc (.cells c e fz)):=by
 subst hz
 have hC:=chg_alloc h (g':=g.setOw w.heap.size (.plc (.tmp d))) (fun o=>o=.plc (.tmp d)) (.cells c e fz) (.plc (.tmp d)) (by simp) List.prefix_rfl rfl rfl (fun b=>rfl)
 refine ⟨?_,hC.ext⟩
 refine h.setTmp hd hC rfl (fun r y hr _ _ e=>hr (by injection e)) (fun id e=>by cases e) (fun _ _ e=>by cases e) rfl ?_ ?_ ?_ ?_ ?_
 ·refine slot_own hfl (.inr ⟨rfl,_,cap,rfl,?_⟩)
  rw [hfe]
  refine ⟨hcap,⟨c,fz,heap_alloc_new _ _,hsz,hfz⟩,by simp [Gh.setOw],⟨hlen,fun i j hi hj=>?_⟩,fun _ i=>FP_new h i,fun i _=>FP_new h i⟩
  obtain ⟨v,hv,hR⟩:=hrel i j hi hj
  refine ⟨v,?_,hR.ext hC.ext⟩
  simp only [World.cell?,heap_alloc_new,Nat.zero_add]
  simpa using hv
 ·intro id b hk hb
  have:=h.rown id b hk hb
  show (if b=w.heap.size then _ else g.ow b)=_
  rw [if_neg (by have:=h.olt b _ this;omega)];exact this
 ·intro b o hb
  rw [size_alloc]
  have hb':(if b=w.heap.size then some (Own.plc (.tmp d)) else g.ow b)=some o:=hb
  split at hb'
  ·omega
  ·have:=h.olt b o hb';omega
 ·intro b i hb
  rw [size_alloc]
  have:=h.flt b i hb;omega
 ·intro b i id hb
  have hb':(if b=w.heap.size then some (Own.plc (.tmp d)) else g.ow b)=some (.box id):=hb
  split at hb'
  ·cases hb'
  ·exact h.fbox b i id hb'
theorem chg_setOw {g:Gh} {w:World} {b:Nat} {p q:Plc} (ho:g.ow b=some (.plc p)) {A:Own→Prop} (hA:A (.plc p)):Chg A g (g.setOw b (.plc q)) w w where
 ext:=
  {rho:=List.prefix_rfl
   fam:=fun _ _ _ h=>h
   obx:=fun c id _ hc=>by
    show (if c=b then _ else g.ow c)=_
    rw [if_neg (by rintro rfl;rw [ho] at hc;cases hc)];exact hc
   fp:=fun _ _ h=>h
   fpc:=fun _ _ _=>rfl
   keep:=fun _ _ _=>rfl
   size:=Nat.le_refl _
   frame:=fun c hc=>by
    show (if c=b then _ else g.ow c)=_
    rw [if_neg (by rintro rfl;rw [ho] at hc;cases hc)];exact hc
   noframe:=fun c hc=>by
    show (if c=b then some (Own.plc q) else g.ow c)≠_
    split
    ·simp
    ·exact hc
   none_:=fun c _ hc=>by
    show (if c=b then _ else g.ow c)=_
    rw [if_neg (by rintro rfl;rw [ho] at hc;cases hc)];exact hc
   fnew:=fun _ _ _ h=>h
   os:=rfl
   tape:=rfl
   output:=rfl }
 heap _ _ _ _ _:=rfl
 ow c o hc hn:=by
  show (if c=b then _ else g.ow c)=_
  rw [if_neg (by rintro rfl;rw [ho] at hc;injection hc with hc;subst hc;exact hn hA)];exact hc
 fp _ _ _ _ _ h:=h
theorem OwnBlk.rename {P:Program} {g:Gh} {w:World} {p q:Plc} {ex:Bool} {e:TypeId} {xs:List (List PV)} {b cap:Nat} (h:OwnBlk P g w p ex e xs b cap) :
  OwnBlk P (g.setOw b (.plc q)) w q ex e xs b cap:=
 ⟨h.hcap,h.blk,by simp [Gh.setOw],⟨h.el.1,fun i j hi hj=>let ⟨v,h1,h2⟩:=h.el.2 i j hi hj;⟨v,h1,Rel.mono (g:=g) (g':=g.setOw b (.plc q)) (w:=w) (w':=w) List.prefix_rfl (fun _ _ _ h=>h) (fun _ _ h=>h) (fun _ _ _=>rfl) h2⟩⟩,h.ex_,h.fr⟩
theorem setOw_rown {P:Program} {st:St} {g:Gh} {vs:Array Value} {w:World} (h:Inv P g st vs w) {b:Nat} {p q:Plc} (ho:g.ow b=some (.plc p)) :
  (∀(id c:Nat),famAt st.σ id=false→(g.setOw b (.plc q)).rho[id]? = some c→(g.setOw b (.plc q)).ow c=some (.box id))∧
  (∀c o,(g.setOw b (.plc q)).ow c=some o→c<w.heap.size)∧(∀c i id,(g.setOw b (.plc q)).ow c=some (.box id)→¬(g.setOw b (.plc q)).FP c i):=by
 refine ⟨fun id c hk hc=>?_,fun c o hc=>?_,fun c i id hc=>?_⟩
 ·have:=h.rown id c hk hc
  show (if c=b then _ else g.ow c)=_
  rw [if_neg (by rintro rfl;rw [ho] at this;cases this)];exact this
 ·have hc':(if c=b then some (Own.plc q) else g.ow c)=some o:=hc
  split at hc'
  ·rename_i e;subst e;exact h.olt c _ ho
  ·exact h.olt c o hc'
 ·have hc':(if c=b then some (Own.plc q) else g.ow c)=some (.box id):=hc
  split at hc'
  ·cases hc'
  ·exact h.fbox c i id hc'
theorem Inv.moveTmp {P:Program} {st:St} {g:Gh} {vs:Array Value} {w:World} (h:Inv P g st vs w) {d:Nat} (hd:d<st.n) {p:Plc} (hpd:p≠.tmp d) {fl:Flag} {n:Bool} {xs:Xs}
  (hc:contentAt st p=some (.sl fl n xs)) (ho:fl.isOwn=true) {v:Value} (hv:realAt g vs w p=some v) :
  ∃g',Inv P g' ((st.setP p .dead).setP (.tmp d) (.sl fl n xs)) (vs.setIfInBounds d v) w∧Ext g g' w w:=by
 obtain ⟨v',hv',hok⟩:=own_at h hc ho
 rw [hv] at hv'
 injection hv' with hv'
 subst hv'
 have h1:=h.forgetP hc
 have hd1:d<(st.setP p .dead).n:=by rw [tsLen_setP];exact hd
 rcases hok with ⟨hx,rfl⟩ | ⟨rfl,b,cap,rfl,hb⟩
 ·exact ⟨g,h1.setPlain hd1 (slot_own ho (.inl ⟨hx,rfl⟩)),Ext.refl _ _⟩
 ·obtain ⟨k1,k2,k3⟩:=setOw_rown (q:=.tmp d) h hb.ow
  have hC:=chg_setOw (w:=w) (q:=.tmp d) hb.ow (A:=fun o=>o=.plc p∨o=.plc (.tmp d)) (.inl rfl)
  refine ⟨g.setOw b (.plc (.tmp d)),?_,hC.ext⟩
  refine h1.setTmp hd1 hC rfl ?_ (fun id e=>by rcases e with e | e <;> cases e) (fun _ _ e=>by rcases e with e | e <;> cases e) rfl (slot_own ho (.inr ⟨rfl,b,cap,rfl,hb.rename⟩)) (rown_setP k1) k2 h.flt k3
  intro r y hr hy hyo e
  rcases e with e | e
  ·injection e with e
   subst e
   rw [contentAt_set_self hc] at hy
   injection hy with hy
   subst hy
   cases hyo
  ·injection e with e
   exact hr e
theorem Chg.trans {A:Own→Prop} {g g1 g2:Gh} {w w1 w2:World} (h:Chg A g g1 w w1) (k:Chg A g1 g2 w1 w2):Chg A g g2 w w2 where
 ext:=h.ext.trans k.ext
 heap b o ho hA hb:=(k.heap b o (h.ow b o ho hA) hA (Nat.lt_of_lt_of_le hb h.ext.size)).trans (h.heap b o ho hA hb)
 ow b o ho hA:=k.ow b o (h.ow b o ho hA) hA
 fp b o i ho hA hf:=h.fp b o i ho hA (k.fp b o i (h.ow b o ho hA) hA hf)
theorem Inv.putOwn {P:Program} {st:St} {g g':Gh} {vs:Array Value} {w w':World} (h:Inv P g st vs w) {p:Plc} {fl fl':Flag} {n:Bool} {xs xs':Xs}
  (hc:contentAt st p=some (.sl fl n xs)) (ho:fl.isOwn=true) (ho':fl'.isOwn=true) (he:fl'.e=fl.e) (hl:xs'.els.length=xs.els.length)
  (hC:Chg (fun o=>o=.plc p) g g' w w') (hr:g'.rho=g.rho) (hfam:g'.fam=g.fam)
  (hnew:∀v,realAt g vs w p=some v→OwnOk P g' w' p fl'.isExcl fl'.e n xs'.els v)
  (hrown:∀(id b:Nat),famAt st.σ id=false→g'.rho[id]? = some b→g'.ow b=some (.box id))
  (holt:∀b o,g'.ow b=some o→b<w'.heap.size)
  (hflt:∀b i,g'.FP b i→b<w'.heap.size)
  (hfbox:∀b i id,g'.ow b=some (.box id)→¬g'.FP b i):Inv P g' (st.putP p (.sl fl' n xs')) vs w':=by
 have hreal:∀q y,contentAt st q=some y→realAt g' vs w' q=realAt g vs w q:=by
  intro q y hy
  cases q with
  | tmp u=>rfl
  | cell id off=>exact realAt_cell_same h hC hr (by simp) (famAt_content hy)
 have hself:contentAt (st.putP p (.sl fl' n xs')) p=some (.sl fl' n xs'):=contentAt_put_self hc
 have hcon:∀q,q≠p→contentAt (st.putP p (.sl fl' n xs')) q=contentAt st q:=fun q hq=>contentAt_put_ne hq
 have hts:∀t,p≠.tmp t→(st.putP p (.sl fl' n xs')).get t=st.get t:=by
  intro t ht
  cases p with
  | tmp u=>simp [St.putP,St.get,lkp_upd_ne _ _ (show u≠t from fun e=>ht (by rw [e]))]
  | cell id off=>rfl
 obtain ⟨v0,hv0,hok0⟩:=own_at h hc ho
 refine h.step hC ?_ ?_ ?_ ?_ ?_ ?_ (rown_putP hrown) (by rw [hfam];intro id i v hv;have:=h.fdom id i v hv;cases p <;> simpa [St.putP] using this) holt hflt hfbox
 ·cases p <;> simp [St.putP,h.size]
 ·intro t x hx
  by_cases ht:p=.tmp t
  ·subst ht
   have hx':contentAt (st.putP (.tmp t) (.sl fl' n xs')) (.tmp t)=some x:=hx
   rw [hself] at hx'
   injection hx' with hx'
   subst hx'
   exact .inr (.inr ⟨v0,hv0,slot_own ho' (hnew v0 hv0)⟩)
  ·rw [hts t ht] at hx
   have hAt:∀o,o=Own.plc p→o≠.plc (.tmp t):=by rintro o rfl e;injection e with e;exact ht e
   cases x with
   | alias q=>
    obtain ⟨v,hv,⟨fl1,n1,xs1,k1,k2⟩,k3⟩:=h.slot t _ hx
    refine .inr (.inr ⟨v,hv,?_,(hreal q _ k1).trans k3⟩)
    by_cases e:q=p
    ·subst e;exact ⟨fl',n,xs',hself,ho'⟩
    ·exact ⟨fl1,n1,xs1,(hcon q e).trans k1,k2⟩
   | elem q k off=>
    obtain ⟨v,hv,fl1,xs1,b,cap,k1,k2,k3,k4,k5⟩:=h.slot t _ hx
    refine .inr (.inr ⟨v,hv,?_⟩)
    by_cases e:q=p
    ·subst e
     have hrq:=hreal q _ k1
     rw [hc] at k1
     injection k1 with k1
     injection k1 with e1 e2 e3
     subst e1;subst e2;subst e3
     exact ⟨fl',xs',b,cap,hself,ho',hrq.trans (by rw [hl];exact k3),by omega,by rw [he];exact k5⟩
    ·exact ⟨fl1,xs1,b,cap,(hcon q e).trans k1,k2,(hreal q _ k1).trans k3,k4,k5⟩
   | _=>
    refine .inr (.inl ⟨hx,rfl,fun _ e=>hAt _ e rfl,fun q hq=>?_⟩)
    rcases hq with hq | ⟨_,_,hq⟩ <;> cases hq
 ·rw [hr];cases p <;> simp [St.putP,h.rlen]
 ·intro id ty cs b h1 h2
  rw [hr] at h2
  cases p with
  | tmp u=>exact .inl ⟨h1,h2,by simp,fun off x hx hxo e=>by cases e⟩
  | cell id0 off0=>
   by_cases e:id0=id
   ·subst e
    simp only [contentAt] at hc
    split at hc
    ·rename_i ty0 cs0 hσ
     simp only [St.putP,List.getElem?_modify,if_pos,hσ,Option.map_eq_map,Option.map_some,setBx,Option.some.injEq,Bx.cells.injEq] at h1
     obtain ⟨rfl,rfl⟩:=h1
     obtain ⟨c,fz,hb,hz,hs,hx⟩:=h.box id0 ty0 cs0 b hσ h2
     have hown:=h.rown id0 b (famAt_cells hσ) h2
     refine .inr ⟨c,fz,(hC.heap b _ hown (by simp) (h.olt b _ hown)).trans hb,hz,by simp [hs],fun off x hox=>?_⟩
     by_cases eo:off0=off
     ·subst eo
      have hlt:off0<cs0.length:=(List.getElem?_eq_some_iff.1 hc).1
      rw [List.getElem?_set_self hlt] at hox
      injection hox with hox
      subst hox
      have:c[off0]? = some v0:=by
       simp only [realAt,h2,World.cell?,hb] at hv0
       simpa using hv0
      exact ⟨rfl,v0,this,slot_own ho' (hnew v0 hv0)⟩
     ·rw [List.getElem?_set_ne eo] at hox
      obtain ⟨k1,v,k2,k3⟩:=hx off x hox
      refine ⟨k1,v,k2,k3.chg hC (fun _ e=>by injection e with e;injection e with _ e;exact eo e.symm) ?_⟩
      rintro q (rfl | ⟨_,_,rfl⟩) <;> simp [PV.noAl] at k1
    ·cases hc
   ·have h1':st.σ[id]? = some (Bx.cells ty cs):=by
     simp only [St.putP,List.getElem?_modify] at h1
     cases hh:st.σ[id]? with
     | none=>simp [hh] at h1
     | some z=>simpa [hh,e] using h1
    exact .inl ⟨h1',h2,by simp,fun off x hx hxo e'=>by injection e' with e';injection e' with e' _;exact e e'.symm⟩
 ·intro id es b h1 h2
  rw [hr] at h2
  cases p with
  | tmp u=>exact .inl ⟨h1,h2,by simp⟩
  | cell id0 off0=>
   have h1':st.σ[id]? = some (Bx.mp es):=by
    simp only [St.putP,List.getElem?_modify] at h1
    cases hh:st.σ[id]? with
    | none=>simp [hh] at h1
    | some z=>
     rw [hh] at h1
     by_cases e:id0=id
     ·simp only [e,if_true,Option.map_eq_map,Option.map_some,Option.some.injEq] at h1
      cases z with
      | cells ty cs=>simp [setBx] at h1
      | mp es'=>simpa [setBx] using h1
      | fam a l=>simp [setBx] at h1
     ·simpa [e] using h1
   exact .inl ⟨h1',h2,by simp⟩
 ·intro id alts l h1
  cases p with
  | tmp u=>exact .inl ⟨h1,by simp,by rw [hfam]⟩
  | cell id0 off0=>
   have h1':st.σ[id]? = some (Bx.fam alts l):=by
    simp only [St.putP,List.getElem?_modify] at h1
    cases hh:st.σ[id]? with
    | none=>simp [hh] at h1
    | some z=>
     rw [hh] at h1
     by_cases e:id0=id
     ·simp only [e,if_true,Option.map_eq_map,Option.map_some,Option.some.injEq] at h1
      cases z with
      | cells ty cs=>simp [setBx] at h1
      | mp es'=>simp [setBx] at h1
      | fam a l=>rw [←h1];rfl
     ·simpa [e] using h1
   exact .inl ⟨h1',by simp,by rw [hfam]⟩
theorem rel_nil {g:Gh} {w:World} {xs:Xs} (h:xs.els=[]):Rel g w (.sl .view false xs) (.slice none 0 0):=by
 obtain ⟨s,l⟩:=xs
 have:l=[]:=by cases l with | nil=>rfl | cons a r=>cases h
 subst this;exact .slz s
theorem Inv.share {P:Program} {st:St} {g:Gh} {vs:Array Value} {w:World} (h:Inv P g st vs w) {p:Plc} {fl:Flag} {xs:Xs}
  (hc:contentAt st p=some (.sl fl false xs)) (ho:fl.isOwn=true):∃g' v,Inv P g' (st.putP p (.sl (.own fl.e) false xs)) vs w∧Ext g g' w w∧realAt g' vs w p=some v∧Rel g' w (.sl .view false xs) v∧
   g'.rho=g.rho:=by
 obtain ⟨v,hv,hok⟩:=own_at h hc ho
 rcases hok with ⟨hx,rfl⟩ | ⟨_,b,cap,rfl,hb⟩
 ·exact ⟨g,_,h.putOwn hc ho rfl rfl rfl (Chg.refl _ g w) rfl rfl (fun v' hv'=>by rw [hv] at hv';injection hv' with hv';exact .inl ⟨hx,hv'.symm⟩) h.rown h.olt h.flt h.fbox,Ext.refl _ _,hv,rel_nil hx,rfl⟩
 ·obtain ⟨c,fz,hblk,hsz,hz⟩:=hb.blk
  have hlt:b<w.heap.size:=(Array.getElem?_eq_some_iff.1 hblk).1
  let g':Gh:={ g with FP:=fun b' i=>g.FP b' i∨(b'=b∧i<xs.els.length*P.cellsOf fl.e) }
  have hE:Ext g g' w w:=
   {rho:=List.prefix_rfl,fam:=fun _ _ _ h=>h,obx:=fun _ _ _ h=>h,fp:=fun _ _ h=>.inl h,fpc:=fun _ _ _=>rfl,keep:=fun _ _ _=>rfl,size:=Nat.le_refl _,frame:=fun _ h=>h,noframe:=fun _ h=>h,none_:=fun _ _ h=>h
    fnew:=fun b' i hf hb'=>by
     rcases hb' with hb' | ⟨rfl,_⟩
     ·exact hb'
     ·rw [hb.ow] at hf;cases hf
    os:=rfl,tape:=rfl,output:=rfl }
  have hC:Chg (fun o=>o=.plc p) g g' w w:=
   ⟨hE,fun _ _ _ _ _=>rfl,fun _ _ h _=>h,fun b' o i hb' hn hf=>by
    rcases hf with hf | ⟨rfl,_⟩
    ·exact hf
    ·rw [hb.ow] at hb';injection hb' with hb';exact absurd hb'.symm hn⟩
  have hel:∀i j (hi:i<xs.els.length) (hj:j<P.cellsOf fl.e),g'.FP b (0+i*P.cellsOf fl.e+j):=by
   intro i j hi hj
   refine .inr ⟨rfl,?_⟩
   have:(i+1)*P.cellsOf fl.e≤xs.els.length*P.cellsOf fl.e:=Nat.mul_le_mul_right _ hi
   rw [Nat.succ_mul] at this
   omega
  have hreal:realAt g' vs w p=some (.slice (some ⟨b,0,none⟩) xs.els.length cap):=hv
  refine ⟨g',_,?_,hE,hreal,?_,rfl⟩
  ·refine h.putOwn hc ho rfl rfl rfl hC rfl rfl ?_ h.rown h.olt ?_ ?_
   ·intro v' hv'
    rw [hv] at hv'
    injection hv' with hv'
    subst hv'
    refine .inr ⟨rfl,b,cap,rfl,hb.hcap,hb.blk,hb.ow,hb.el.mono hE (fun _=>rfl),(fun e=>by cases e),fun i hi hf=>?_⟩
    have hi':xs.els.length*P.cellsOf fl.e≤i:=hi
    rcases hf with hf | ⟨_,hf⟩
    ·exact hb.fr i hi' hf
    ·omega
   ·intro b' i hf
    rcases hf with hf | ⟨rfl,_⟩
    ·exact h.flt b' i hf
    ·exact hlt
   ·intro b' i id hid hf
    rcases hf with hf | ⟨rfl,_⟩
    ·exact h.fbox b' i id hid hf
    ·rw [hb.ow] at hid;cases hid
  ·refine .slv xs _ rfl b 0 cap (P.cellsOf fl.e) (fun i j=>(w.cell? ⟨b,0+i*P.cellsOf fl.e+j,none⟩).getD undef) hb.hcap hb.el.1 ?_ ?_
   ·intro i j hi hj
    refine ⟨hel i j hi hj,?_⟩
    obtain ⟨v,k1,_⟩:=hb.el.2 i j hi (by rw [hb.el.1 i hi];exact hj)
    show _=some ((w.cell? ⟨b,0+i*P.cellsOf fl.e+j,none⟩).getD undef)
    rw [k1];rfl
   ·intro i j hi hj
    obtain ⟨v,k1,k2⟩:=hb.el.2 i j hi hj
    show Rel g' w _ ((w.cell? ⟨b,0+i*P.cellsOf fl.e+j,none⟩).getD undef)
    rw [k1]
    exact k2.ext hE
theorem Inv.moveCell {P:Program} {st:St} {g:Gh} {vs:Array Value} {w:World} (h:Inv P g st vs w) {id off b0:Nat} {ty:TypeId} {cs:List PV} (hσ:st.σ[id]? = some (Bx.cells ty cs)) (hoff:off<cs.length)
  (hrho:g.rho[id]? = some b0) {p:Plc} (hpd:p≠.cell id off) {fl:Flag} {n:Bool} {xs:Xs}
  (hc:contentAt st p=some (.sl fl n xs)) (ho:fl.isOwn=true) {v:Value} (hv:realAt g vs w p=some v) :
  ∃g',Inv P g' ((st.setP p .dead).setP (.cell id off) (.sl fl n xs)) vs (w.setCell ⟨b0,off,none⟩ v)∧Ext g g' w (w.setCell ⟨b0,off,none⟩ v):=by
 obtain ⟨v',hv',hok⟩:=own_at h hc ho
 rw [hv] at hv'
 injection hv' with hv'
 subst hv'
 have h1:=h.forgetP hc
 have hσ1:∃cs1,(st.setP p .dead).σ[id]? = some (Bx.cells ty cs1):=by
  cases p with
  | tmp t=>rw [cellAt_setP_tmp];exact ⟨cs,hσ⟩
  | cell id' off'=>
   rw [σ_setP_cell,List.getElem?_modify,hσ]
   by_cases e:id'=id
   ·simp [e,setBx]
   ·simp [e]
 obtain ⟨cs1,hσ1⟩:=hσ1
 rcases hok with ⟨hx,rfl⟩ | ⟨rfl,b,cap,rfl,hb⟩
 ·obtain ⟨k1,k2⟩:=h1.storeSlot (off:=off) hσ1 hrho (x:=.sl fl n xs) rfl (fun _ _=>slot_own ho (.inl ⟨hx,rfl⟩))
  exact ⟨g,k1,k2⟩
 ·have hbox:=h.rown id b0 (famAt_cells hσ) hrho
  have hne:b≠b0:=by rintro rfl;rw [hb.ow] at hbox;cases hbox
  obtain ⟨k1,k2,k3⟩:=setOw_rown (q:=.cell id off) h hb.ow
  have hC1:=chg_setOw (w:=w) (q:=.cell id off) hb.ow (A:=fun o=>o=.plc p∨o=.plc (.cell id off)∨o=.box id) (.inl rfl)
  have hbox':(g.setOw b (.plc (.cell id off))).ow b0=some (.box id):=k1 id b0 (famAt_cells hσ) hrho
  have hC:=hC1.trans (chg_setCell (w:=w) (off:=off) hbox' (by simp) (k3 b0 off id hbox') (.slice (some ⟨b,0,none⟩) xs.els.length cap) (A:=fun o=>o=.plc p∨o=.plc (.cell id off)∨o=.box id) (.inr (.inr rfl)))
  refine ⟨g.setOw b (.plc (.cell id off)),?_,hC.ext⟩
  refine h1.setCell hσ1 hrho hC rfl ?_ (fun id' hid e=>by rcases e with e | e | e <;> cases e;exact hid rfl) (fun _ _ e=>by rcases e with e | e | e <;> cases e) rfl (fun c fz hh=>heap_setCell_self w b0 off _ hh) rfl ?_ (rown_setP k1)
   (fun b' o hb'=>by rw [size_setCell];exact k2 b' o hb') (fun b' i hb'=>by rw [size_setCell];exact h.flt b' i hb') k3
  ·intro r y hr hy hyo e
   rcases e with e | e | e
   ·injection e with e
    subst e
    rw [contentAt_set_self hc] at hy
    injection hy with hy
    subst hy
    cases hyo
   ·injection e with e
    exact hr e
   ·cases e
  ·refine slot_own ho (.inr ⟨rfl,b,cap,rfl,?_⟩)
   obtain ⟨c,fz,hblk,hsz,hz⟩:=hb.blk
   have hh:(w.setCell ⟨b0,off,none⟩ (.slice (some ⟨b,0,none⟩) xs.els.length cap)).heap[b]? = w.heap[b]?:=heap_setCell_ne _ _ _ _ hne
   exact ⟨hb.hcap,⟨c,fz,hh.trans hblk,hsz,hz⟩,by simp [Gh.setOw],hb.el.mono hC.ext (cell_of_heap hh),hb.ex_,hb.fr⟩
def overw (c:Array Value) (off:Nat):List Value→Array Value
 | []=>c
 | v :: vs=>overw (c.setIfInBounds off v) (off+1) vs
theorem overw_size (vs:List Value):∀(c:Array Value) (off:Nat),(overw c off vs).size=c.size:=by
 induction vs with
 | nil=>intro c off;rfl
 | cons v vs ih=>intro c off;simp [overw,ih]
theorem overw_get (vs:List Value):∀(c:Array Value) (off:Nat),off+vs.length≤c.size→∀i,(overw c off vs)[i]? = if off≤i∧i<off+vs.length then vs[i - off]? else c[i]?:=by
 induction vs with
 | nil=>intro c off _ i;rw [if_neg (fun h=>by simp only [List.length_nil] at h;omega)];rfl
 | cons v vs ih=>
  intro c off hs i
  simp only [List.length_cons] at hs
  rw [overw,ih _ _ (by simp;omega)]
  by_cases h1:off+1≤i∧i<off+1+vs.length
  ·rw [if_pos h1,if_pos (by simp;omega)]
   rw [show i - off=(i - (off+1))+1 by omega,List.getElem?_cons_succ]
  ·rw [if_neg h1]
   by_cases h2:i=off
   ·subst h2
    rw [if_pos (by simp),Array.getElem?_setIfInBounds_self_of_lt (by omega),Nat.sub_self]
    rfl
   ·rw [if_neg (by simp;omega),Array.getElem?_setIfInBounds_ne (by omega)]
def wblit (w:World) (b off:Nat):List Value→World
 | []=>w
 | v :: vs=>wblit (w.setCell ⟨b,off,none⟩ v) b (off+1) vs
theorem wblit_facts (b:Nat) (vs:List Value):∀(w:World) (off:Nat),(wblit w b off vs).os=w.os∧(wblit w b off vs).tape=w.tape∧(wblit w b off vs).output=w.output∧
  (wblit w b off vs).heap.size=w.heap.size∧(∀k,k≠b→(wblit w b off vs).heap[k]? = w.heap[k]?)∧
  ∀c ty fz,w.heap[b]? = some (.cells c ty fz)→(wblit w b off vs).heap[b]? = some (.cells (overw c off vs) ty fz):=by
 induction vs with
 | nil=>intro w off;exact ⟨rfl,rfl,rfl,rfl,fun _ _=>rfl,fun _ _ _ h=>h⟩
 | cons v vs ih=>
  intro w off
  obtain ⟨h1,h2,h3,h4,h5,h6⟩:=ih (w.setCell ⟨b,off,none⟩ v) (off+1)
  exact ⟨h1,h2,h3,h4.trans (size_setCell ..),fun k hk=>(h5 k hk).trans (heap_setCell_ne _ _ _ _ hk),fun c ty fz hb=>h6 _ _ _ (heap_setCell_self w b off v hb)⟩
theorem chg_blit {g:Gh} {w:World} {b off:Nat} {vs:List Value} {o:Own} (ho:g.ow b=some o) (hf:o≠.frame) {c:Array Value} {ty:TypeId} {fz:Nat×Nat}
  (hb:w.heap[b]? = some (.cells c ty fz)) (hs:off+vs.length≤c.size) (hp:∀i,off≤i→i<off+vs.length→¬g.FP b i) {A:Own→Prop} (hA:A o) :
  Chg A g g w (wblit w b off vs):=by
 obtain ⟨h1,h2,h3,h4,h5,h6⟩:=wblit_facts b vs w off
 refine ⟨⟨List.prefix_rfl,fun _ _ _ h=>h,fun _ _ _ h=>h,fun _ _ h=>h,?_,?_,Nat.le_of_eq h4.symm,fun _ h=>h,fun _ h=>h,fun _ _ h=>h,fun _ _ _ h=>h,h1,h2,h3⟩,?_,fun _ _ h _=>h,fun _ _ _ _ _ h=>h⟩
 ·intro b' i hi
  by_cases e:b'=b
  ·subst e
   simp only [World.cell?,hb,h6 c ty fz hb]
   simp only [Option.isSome_none,Bool.false_eq_true,if_false]
   rw [overw_get vs c off hs,if_neg (fun hh=>hp i hh.1 hh.2 hi)]
  ·exact cell_of_heap (h5 b' e) i
 ·intro b' _ hb'
  refine h5 b' ?_
  rintro rfl
  rw [ho] at hb'
  rcases hb' with hb' | hb'
  ·cases hb'
  ·injection hb' with hb';exact hf hb'
 ·intro b' o' h1' h2' _
  refine h5 b' ?_
  rintro rfl
  rw [ho] at h1';injection h1' with h1';subst h1';exact h2' hA
theorem Inv.appendIn {P:Program} {st:St} {g:Gh} {vs:Array Value} {w:World} (h:Inv P g st vs w) {d:Nat} (hd:d<st.n) {p:Plc} (hpd:p≠.tmp d) {fl:Flag} {xz zz:Xs} {xs ys:List (List PV)} (hxz:xz.els=xs) (hzz:zz.els=xs++ys)
  (hc:contentAt st p=some (.sl fl false xz)) (ho:fl.isOwn=true) {b cap:Nat} (hb:OwnBlk P g w p fl.isExcl fl.e xs b cap)
  (hroom:xs.length+ys.length≤cap) {us:List Value} (hul:us.length=ys.length*P.cellsOf fl.e) (hyl:∀i,(h:i<ys.length)→ys[i].length=P.cellsOf fl.e)
  (hyr:∀i j (hi:i<ys.length) (hj:j<ys[i].length),∃v,us[i*P.cellsOf fl.e+j]? = some v∧Rel g w ys[i][j] v) :
  ∃g',Inv P g' ((st.setP p .dead).setP (.tmp d) (.sl fl false zz)) (vs.setIfInBounds d (.slice (some ⟨b,0,none⟩) (xs.length+ys.length) cap)) (wblit w b (xs.length*P.cellsOf fl.e) us)∧
   Ext g g' w (wblit w b (xs.length*P.cellsOf fl.e) us):=by
 obtain ⟨c,fz,hblk,hsz,hz⟩:=hb.blk
 have hmul:(xs.length+ys.length)*P.cellsOf fl.e≤cap*P.cellsOf fl.e:=Nat.mul_le_mul_right _ hroom
 rw [Nat.add_mul] at hmul
 have hs:xs.length*P.cellsOf fl.e+us.length≤c.size:=by rw [hul,hsz];exact hmul
 have hCb:Chg (fun o=>o=.plc p∨o=.plc (.tmp d)) g g w (wblit w b (xs.length*P.cellsOf fl.e) us):=
  chg_blit hb.ow (by simp) hblk hs (fun i hi _=>hb.fr i hi) (.inl rfl)
 obtain ⟨f1,f2,f3,f4,f5,f6⟩:=wblit_facts b us w (xs.length*P.cellsOf fl.e)
 have hnb:=f6 c _ fz hblk
 have hC:=hCb.trans (chg_setOw (w:=wblit w b (xs.length*P.cellsOf fl.e) us) (q:=.tmp d) hb.ow (A:=fun o=>o=.plc p∨o=.plc (.tmp d)) (.inl rfl))
 have h1:=h.forgetP hc
 obtain ⟨k1,k2,k3⟩:=setOw_rown (q:=.tmp d) h hb.ow
 refine ⟨g.setOw b (.plc (.tmp d)),?_,hC.ext⟩
 have hlen:(xs++ys).length=xs.length+ys.length:=List.length_append
 refine h1.setTmp (by rw [tsLen_setP];exact hd) hC rfl ?_ (fun id e=>by rcases e with e | e <;> cases e) (fun _ _ e=>by rcases e with e | e <;> cases e) rfl (slot_own ho (.inr ⟨rfl,b,cap,by rw [hzz,hlen],by rw [hzz,hlen];exact hroom,⟨_,fz,hnb,by rw [overw_size];exact hsz,by rw [overw_size];exact hz⟩,by simp [Gh.setOw],⟨?_,?_⟩,?_,?_⟩)) (rown_setP k1)
  (fun b' o hb'=>by rw [f4];exact k2 b' o hb') (fun b' i hb'=>by rw [f4];exact h.flt b' i hb') k3
 ·intro r y hr hy hyo e
  rcases e with e | e
  ·injection e with e
   subst e
   rw [contentAt_set_self hc] at hy
   injection hy with hy
   subst hy
   cases hyo
  ·injection e with e
   exact hr e
 ·rw [hzz];intro i hi
  rw [hlen] at hi
  rcases Nat.lt_or_ge i xs.length with hx | hx
  ·rw [List.getElem_append_left hx];exact hb.el.1 i hx
  ·rw [List.getElem_append_right hx];exact hyl _ _
 ·rw [hzz];intro i j hi hj
  rw [hlen] at hi
  have hcell:∀k,(wblit w b (xs.length*P.cellsOf fl.e) us).cell? ⟨b,k,none⟩=(overw c (xs.length*P.cellsOf fl.e) us)[k]?:=by
   intro k
   simp only [World.cell?,hnb]
   simp
  rcases Nat.lt_or_ge i xs.length with hx | hx
  ·simp only [List.getElem_append_left hx] at hj ⊢
   obtain ⟨v,e1,e2⟩:=hb.el.2 i j hx hj
   refine ⟨v,?_,e2.ext hC.ext⟩
   rw [hcell,overw_get us c _ hs,if_neg]
   ·simp only [World.cell?,hblk] at e1
    simpa using e1
   ·have:=hb.el.1 i hx
    have h3:(i+1)*P.cellsOf fl.e≤xs.length*P.cellsOf fl.e:=Nat.mul_le_mul_right _ hx
    rw [Nat.succ_mul] at h3
    omega
  ·simp only [List.getElem_append_right hx] at hj ⊢
   have hi':i - xs.length<ys.length:=by omega
   obtain ⟨v,e1,e2⟩:=hyr (i - xs.length) j hi' hj
   refine ⟨v,?_,e2.ext hC.ext⟩
   have hj':j<P.cellsOf fl.e:=by rw [←hyl _ hi'];exact hj
   have e3:i*P.cellsOf fl.e=xs.length*P.cellsOf fl.e+(i - xs.length)*P.cellsOf fl.e:=by rw [←Nat.add_mul];congr 1;omega
   have e4:(i - xs.length+1)*P.cellsOf fl.e≤ys.length*P.cellsOf fl.e:=Nat.mul_le_mul_right _ hi'
   rw [Nat.succ_mul] at e4
   rw [hcell,overw_get us c _ hs,if_pos (by rw [hul];omega),←e1]
   congr 1
   omega
 ·intro he i hf
  exact hb.ex_ he i hf
 ·intro i hi hf
  rw [hzz,hlen,Nat.add_mul] at hi
  exact hb.fr i (by omega) hf
theorem OwnBlk.set {P:Program} {g:Gh} {w:World} {p:Plc} {e:TypeId} {xs:List (List PV)} {b cap:Nat} (hb:OwnBlk P g w p true e xs b cap) {k off:Nat} (hk:k<xs.length) (hoff:off<xs[k].length) {x:PV} {v:Value}
  (hx:Rel g w x v):OwnBlk P g (w.setCell ⟨b,k*P.cellsOf e+off,none⟩ v) p true e (xs.set k (xs[k].set off x)) b cap∧Chg (fun o=>o=.plc p) g g w (w.setCell ⟨b,k*P.cellsOf e+off,none⟩ v):=by
 have hC:=chg_setCell (w:=w) (off:=k*P.cellsOf e+off) hb.ow (by simp) (hb.ex_ rfl _) v (A:=fun o=>o=.plc p) rfl
 obtain ⟨c,fz,hblk,hsz,hz⟩:=hb.blk
 refine ⟨?_,hC⟩
 have hnb:=heap_setCell_self w b (k*P.cellsOf e+off) v hblk
 refine ⟨by simpa using hb.hcap,⟨_,fz,hnb,by rw [Array.size_setIfInBounds];exact hsz,by simpa using hz⟩,hb.ow,⟨?_,?_⟩,hb.ex_,fun i hi=>hb.ex_ rfl i⟩
 ·intro i hi
  simp only [List.length_set] at hi
  by_cases e':k=i
  ·subst e';simp [hb.el.1 k hk]
  ·rw [List.getElem_set_ne e'];exact hb.el.1 i hi
 ·intro i j hi hj
  simp only [List.length_set] at hi
  have hcell:∀q,(w.setCell ⟨b,k*P.cellsOf e+off,none⟩ v).cell? ⟨b,q,none⟩=(c.setIfInBounds (k*P.cellsOf e+off) v)[q]?:=by
   intro q
   simp only [World.cell?,hnb]
   simp
  have hoff':off<P.cellsOf e:=by rw [←hb.el.1 k hk];exact hoff
  have hin:k*P.cellsOf e+off<c.size:=by
   have:(k+1)*P.cellsOf e≤cap*P.cellsOf e:=Nat.mul_le_mul_right _ (Nat.le_trans hk hb.hcap)
   rw [Nat.succ_mul] at this
   omega
  by_cases e':k=i
  ·subst e'
   simp only [List.getElem_set_self,List.length_set] at hj ⊢
   by_cases eo:off=j
   ·subst eo
    refine ⟨v,?_,by simpa using hx.ext hC.ext⟩
    rw [hcell]
    simp only [Flag.e,Nat.zero_add]
    rw [Array.getElem?_setIfInBounds_self_of_lt hin]
   ·obtain ⟨u,d1,d2⟩:=hb.el.2 k j hk hj
    refine ⟨u,?_,by rw [List.getElem_set_ne eo];exact d2.ext hC.ext⟩
    rw [hcell]
    simp only [Flag.e,Nat.zero_add] at d1 ⊢
    rw [Array.getElem?_setIfInBounds_ne (by omega)]
    simp only [World.cell?,hblk] at d1
    simpa using d1
  ·rw [List.getElem_set_ne e'] at hj
   obtain ⟨u,d1,d2⟩:=hb.el.2 i j hi hj
   refine ⟨u,?_,by simp only [List.getElem_set_ne e'];exact d2.ext hC.ext⟩
   rw [hcell]
   simp only [Flag.e,Nat.zero_add] at d1 ⊢
   have hj':j<P.cellsOf e:=by rw [←hb.el.1 i hi];exact hj
   rw [Array.getElem?_setIfInBounds_ne]
   ·simp only [World.cell?,hblk] at d1
    simpa using d1
   ·intro e3
    have:=Nat.lt_or_gt_of_ne e'
    rcases this with h5 | h5
    ·have h6:(k+1)*P.cellsOf e≤i*P.cellsOf e:=Nat.mul_le_mul_right _ h5
     rw [Nat.succ_mul] at h6
     omega
    ·have h6:(i+1)*P.cellsOf e≤k*P.cellsOf e:=Nat.mul_le_mul_right _ h5
     rw [Nat.succ_mul] at h6
     omega
theorem Inv.ownChg {P:Program} {st:St} {g:Gh} {vs:Array Value} {w w':World} (h:Inv P g st vs w) {p:Plc} {e:TypeId} {xs zs:Xs}
  (hc:contentAt st p=some (.sl (.excl e) false xs)) {b cap:Nat} (hv:realAt g vs w p=some (.slice (some ⟨b,0,none⟩) xs.els.length cap)) (hl:zs.els.length=xs.els.length)
  (hC:Chg (fun o=>o=.plc p) g g w w') (hb:OwnBlk P g w' p true e zs.els b cap) (hs:w'.heap.size=w.heap.size):Inv P g (st.putP p (.sl (.excl e) false zs)) vs w':=by
 refine h.putOwn hc rfl rfl rfl hl hC rfl rfl ?_ h.rown (fun b' o hb'=>by rw [hs];exact h.olt b' o hb') (fun b' i hb'=>by rw [hs];exact h.flt b' i hb') h.fbox
 intro v' hv'
 rw [hv] at hv'
 injection hv' with hv'
 subst hv'
 exact .inr ⟨rfl,b,cap,by rw [hl],hb⟩
noncomputable section
noncomputable def nrm {α β:Type} (l:List α):(List α→β)→β:=
 List.rec (motive:=fun _=>(List α→β)→β) (fun k=>k []) (fun x _ ih k=>ih fun ys=>k (x :: ys)) l
theorem nrm_eq {α β:Type} (l:List α):∀k:List α→β,nrm l k=k l:=by
 induction l with
 | nil=>intro k;rfl
 | cons x xs ih=>intro k;exact ih fun ys=>k (x :: ys)
noncomputable def nrmL {β:Type} (v:Value) (k:PV→β):β:=
 match v with
 | .int a n=>k (.lit (.int a n))
 | .bool b=>k (.lit (.bool b))
 | v=>k (.lit v)
theorem nrmL_eq {β:Type} (v:Value) (k:PV→β):nrmL v k=k (.lit v):=by cases v <;> rfl
noncomputable def nrmF {β:Type} (fl:Flag) (n:Bool) (xs:Xs) (k:PV→β):β:=
 Flag.rec (motive:=fun _=>β) (cond n (k (.sl .view true xs)) (k (.sl .view false xs))) (fun e=>cond n (k (.sl (.own e) true xs)) (k (.sl (.own e) false xs))) (fun e=>cond n (k (.sl (.excl e) true xs)) (k (.sl (.excl e) false xs))) fl
theorem nrmF_eq {β:Type} (fl:Flag) (n:Bool) (xs:Xs) (k:PV→β):nrmF fl n xs k=k (.sl fl n xs):=by cases fl <;> cases n <;> rfl
noncomputable def nrmV {β:Type} (x:PV):(PV→β)→β:=
 PV.rec (motive_1:=fun _=>(PV→β)→β) (motive_2:=fun _=>(List PV→β)→β)
  (fun v k=>nrmL v k)
  (fun i o k=>k (.ptr i o))
  (fun k=>k .nilp)
  (fun fl n xs k=>nrmF fl n xs k)
  (fun _ ih k=>ih fun cs=>k (.agg cs))
  (fun _ ih k=>ih fun cs=>k (.tup cs))
  (fun t _ ih k=>ih fun x=>k (.ifc t x))
  (fun f _ _ ih1 ih2 k=>ih1 fun a=>ih2 fun b=>k (.fn f a b))
  (fun i k=>k (.map i))
  (fun p k=>Plc.rec (motive:=fun _=>β) (fun t=>k (.alias (.tmp t))) (fun i o=>k (.alias (.cell i o))) p)
  (fun p a b k=>Plc.rec (motive:=fun _=>β) (fun t=>k (.elem (.tmp t) a b)) (fun i o=>k (.elem (.cell i o) a b)) p)
  (fun _ o ih k=>ih fun cs=>k (.elemv cs o))
  (fun k=>k .dead)
  (fun i j k=>k (.oref i j))
  (fun k=>k [])
  (fun _ _ ih1 ih2 k=>ih1 fun x=>ih2 fun xs=>k (x :: xs)) x
noncomputable def nrmVs {β:Type} (l:List PV):(List PV→β)→β:=
 PV.rec_1 (motive_1:=fun _=>(PV→β)→β) (motive_2:=fun _=>(List PV→β)→β)
  (fun v k=>nrmL v k)
  (fun i o k=>k (.ptr i o))
  (fun k=>k .nilp)
  (fun fl n xs k=>nrmF fl n xs k)
  (fun _ ih k=>ih fun cs=>k (.agg cs))
  (fun _ ih k=>ih fun cs=>k (.tup cs))
  (fun t _ ih k=>ih fun x=>k (.ifc t x))
  (fun f _ _ ih1 ih2 k=>ih1 fun a=>ih2 fun b=>k (.fn f a b))
  (fun i k=>k (.map i))
  (fun p k=>Plc.rec (motive:=fun _=>β) (fun t=>k (.alias (.tmp t))) (fun i o=>k (.alias (.cell i o))) p)
  (fun p a b k=>Plc.rec (motive:=fun _=>β) (fun t=>k (.elem (.tmp t) a b)) (fun i o=>k (.elem (.cell i o) a b)) p)
  (fun _ o ih k=>ih fun cs=>k (.elemv cs o))
  (fun k=>k .dead)
  (fun i j k=>k (.oref i j))
  (fun k=>k [])
  (fun _ _ ih1 ih2 k=>ih1 fun x=>ih2 fun xs=>k (x :: xs)) l
theorem nrmV_eq {β:Type} (x:PV):∀k:PV→β,nrmV x k=k x:=by
 refine PV.rec (motive_1:=fun x=>∀k:PV→β,nrmV x k=k x) (motive_2:=fun l=>∀k:List PV→β,nrmVs l k=k l)
  (fun v k=>nrmL_eq v k) (fun i o k=>rfl) (fun k=>rfl) (fun fl n xs k=>nrmF_eq fl n xs k) (fun cs ih k=>ih fun cs=>k (.agg cs)) (fun cs ih k=>ih fun cs=>k (.tup cs)) (fun t x ih k=>ih fun x=>k (.ifc t x))
  (fun f a b ih1 ih2 k=>(ih1 fun a=>nrmVs b fun b=>k (.fn f a b)).trans (ih2 fun b=>k (.fn f a b))) (fun i k=>rfl) (fun p k=>by cases p <;> rfl) (fun p a b k=>by cases p <;> rfl) (fun cs o ih k=>ih fun cs=>k (.elemv cs o)) (fun k=>rfl) (fun i j k=>rfl) (fun k=>rfl)
  (fun x xs ih1 ih2 k=>(ih1 fun x=>nrmVs xs fun xs=>k (x :: xs)).trans (ih2 fun xs=>k (x :: xs))) x
theorem nrmVs_eq {β:Type} (l:List PV):∀k:List PV→β,nrmVs l k=k l:=by
 induction l with
 | nil=>intro k;rfl
 | cons x xs ih=>intro k;exact (nrmV_eq x fun x=>nrmVs xs fun ys=>k (x :: ys)).trans (ih fun ys=>k (x :: ys))
noncomputable def nrmT {β:Type} (l:List (Nat×PV)):(List (Nat×PV)→β)→β:=
 List.rec (motive:=fun _=>(List (Nat×PV)→β)→β) (fun k=>k []) (fun p _ ih k=>Prod.rec (motive:=fun _=>β) (fun t x=>nrmV x fun x=>ih fun ys=>k ((t,x) :: ys)) p) l
theorem nrmT_eq {β:Type} (l:List (Nat×PV)):∀k:List (Nat×PV)→β,nrmT l k=k l:=by
 induction l with
 | nil=>intro k;rfl
 | cons p xs ih=>intro k;obtain ⟨t,x⟩:=p;exact (nrmV_eq x _).trans (ih fun ys=>k ((t,x) :: ys))
noncomputable def nrmB {β:Type}:List Bx→(List Bx→β)→β
 | [],k=>k []
 | .cells ty cs :: r,k=>nrmVs cs fun cs=>nrmB r fun r=>k (.cells ty cs :: r)
 | .mp ⟨ks,vs,l⟩ :: r,k=>nrmB r fun r=>k (.mp ⟨ks,vs,l⟩ :: r)
 | .fam a l :: r,k=>nrmB r fun r=>k (.fam a l :: r)
theorem nrmB_eq {β:Type} (l:List Bx):∀k:List Bx→β,nrmB l k=k l:=by
 induction l with
 | nil=>intro k;rfl
 | cons x xs ih=>intro k;rcases x with _ | ⟨_,_,_⟩ | _ <;> simp [nrmB,nrmVs_eq,ih]
def det {α:Type} (P:Program):Sem α→Option α
 | .pure a=>some a
 | .program k=>det P (k P)
 | _=>none
def nthI {α:Type} (l:List α) (i:Int):Option α:=if 0≤i then l[i.toNat]? else none
def sliceI {α:Type} (l:List α) (lo hi:Int):Option (List α):=if 0≤lo∧lo≤hi∧hi≤l.length then some ((l.drop lo.toNat).take (hi.toNat - lo.toNat)) else none
def castX {a b:Sh} (h:a=b) (l:List a.den):List b.den:=h▸l
def Sh.mk:(s:Sh)→List PV→Option (s.den×List PV)
 | .int k,l=>match l with
  | .lit (.int k' n) :: r=>if k'=k then some (n,r) else none
  | _=>none
 | .bool,l=>match l with
  | .lit (.bool b) :: r=>some (b,r)
  | _=>none
 | .flt k,l=>match l with
  | .lit (.float k' n) :: r=>if k'=k then some (n,r) else none
  | _=>none
 | .cpx k,l=>match l with
  | .lit (.complex k' a b) :: r=>if k'=k then some ((a,b),r) else none
  | _=>none
 | .str,l=>match l with
  | .lit (.string s) :: r=>some (s,r)
  | _=>none
 | .sl e,l=>match l with
  | .sl fl n xs :: r=>if n then some (([]:List e.den),r) else if fl.isOwn then none else if h:xs.sh=e then some (castX h xs.l,r) else none
  | _=>none
 | .cons a b,l=>match a.mk l with
  | some (x,r)=>match b.mk r with
   | some (y,q)=>some ((x,y),q)
   | none=>none
  | none=>none
 | .fz s,l=>match l with
  | .elemv cs 0 :: r=>match s.mk cs with
   | some (x,[])=>some (x,r)
   | _=>none
  | _=>none
 | .unit,l=>some ((),l)
 | .oix,_=>none
 | .sum _ _,_=>none
 | .void,_=>none
def Sh.of (s:Sh) (l:List PV):Option s.den:=
 match s.mk l with
 | some (x,[])=>some x
 | _=>none
def const1:Value→PV
 | .slice none 0 0=>.sl .view true ⟨.bool,[]⟩
 | .pointer none=>.nilp
 | v=>.lit v
def constPV:Value→PV
 | .slice none 0 0=>.sl (.excl 0) true ⟨.bool,[]⟩
 | .pointer none=>.nilp
 | .agg cs=>.agg (cs.toList.map const1)
 | v=>.lit v
def PV.lit? : PV→Option Value
 | .lit v=>some v
 | .nilp=>some (.pointer none)
 | .sl _ true ⟨_,[]⟩=>some (.slice none 0 0)
 | _=>none
def lits:List PV→Option (List Value)
 | []=>some []
 | x :: xs=>match x.lit?,lits xs with
  | some v,some vs=>some (v :: vs)
  | _,_=>none
def PV.val:PV→Option Value
 | .agg cs=>match lits cs with
  | some vs=>some (.agg vs.toArray)
  | none=>none
 | x=>x.lit?
structure Hint where
 keep:List Nat
 frz:List Nat:=[]
 nils:List (Plc×TypeId×Sh):=[]
 cut:Option Nat:=none
 fb:Bool:=false
 deriving Inhabited
structure Ctx where
 P:Program
 mv:FuncId→Nat→Bool
 res:Nat→Bool
 live:Nat→Option Hint
 call:FuncId→List PV→List Bx→Option (PV×List Bx)
 sh:TypeId→Sh
 inv:String→List PV→List Bx→Option (PV×List Bx):=fun _ _ _=>none
def szOf (P:Program) (t:TypeId):Option Nat:=match P.info? t with | some i=>some i.size | none=>none
def aggT (P:Program) (t:TypeId):Option Bool:=
 match P.underlying t with
 | some (.struct _)=>some true
 | some (.array _ _)=>some true
 | some _=>some false
 | none=>none
def zeroPV (P:Program) (t:TypeId):Option (List PV):=
 match P.info? t with
 | some i=>match i.zero with
  | some v=>some (v.cells.toList.map const1)
  | none=>none
 | none=>none
def PV.one:PV→Bool
 | .agg _=>false
 | .tup _=>false
 | .lit (.agg _)=>false
 | .lit (.tuple _)=>false
 | _=>true
def PV.cells:PV→List PV
 | .agg cs=>cs
 | .lit (.agg cs)=>cs.toList.map const1
 | x=>[x]
def St.useP (st:St) (p:Plc):Option (PV×St):=
 match contentAt st p with
 | some (.sl fl false xs)=>if fl.isOwn then some (.sl .view false xs,st.putP p (.sl (.own fl.e) false xs)) else some (.sl fl false xs,st)
 | some (.sl _ true xs)=>some (.sl .view true ⟨xs.sh,[]⟩,st)
 | some .dead=>none
 | some (.alias _)=>none
 | some (.elem _ _ _)=>none
 | some x=>some (x,st)
 | none=>none
def St.use (st:St):Operand→Option (PV×St)
 | .tmp t=>match st.get t with
  | some (.alias q)=>st.useP q
  | _=>st.useP (.tmp t)
 | .const v=>some (constPV v,st)
 | .func f=>some (.fn (.func f) [] [],st)
 | .global _=>none
def St.peek (st:St):Operand→Option PV
 | .tmp t=>match st.get t with
  | some (.alias q)=>contentAt st q
  | x=>x
 | .const v=>some (constPV v)
 | .func f=>some (.fn (.func f) [] [])
 | .global _=>none
def St.sl (st:St) (o:Operand):Option (Bool×Xs):=
 match st.peek o with
 | some (.sl _ n xs)=>some (n,xs)
 | _=>none
def St.int (st:St) (o:Operand):Option Int:=
 match st.peek o with
 | some (.lit (.int _ n))=>some n
 | _=>none
def St.bool (st:St) (o:Operand):Option Bool:=
 match st.peek o with
 | some (.lit (.bool b))=>some b
 | _=>none
def St.plc (st:St):Operand→Option Plc
 | .tmp t=>match st.get t with
  | some (.alias q)=>some q
  | some (.sl fl _ _)=>if fl.isOwn then some (.tmp t) else none
  | _=>none
 | _=>none
def St.setD (st:St) (d:Option Tmp) (x:PV):Option St:=
 match d with
 | none=>some st
 | some d=>if d<st.n then some (st.setP (.tmp d) x) else none
def St.mvD (st:St) (p:Plc) (d:Option Tmp):Option St:=
 match d,contentAt st p with
 | some d,some x=>if d<st.n∧p≠.tmp d then some ((st.setP p .dead).setP (.tmp d) x) else none
 | _,_=>none
def evMove (st:St) (x:Operand) (d:Option Tmp):Option St:=
 match x with
 | .tmp s=>match st.get s with
  | some (.sl fl n xs)=>if fl.isOwn then (if d=some s then none else st.setD d (.alias (.tmp s))) else st.setD d (.sl fl n xs)
  | some (.alias q)=>match d with | some t=>if q=.tmp t then none else st.setD d (.alias q) | none=>some st
  | some (.elem q k off)=>match d with | some t=>if q=.tmp t then none else st.setD d (.elem q k off) | none=>some st
  | some .dead=>none
  | some x=>st.setD d x
  | none=>none
 | .const v=>st.setD d (constPV v)
 | .func f=>st.setD d (.fn (.func f) [] [])
 | .global _=>none
def isRes (C:Ctx) (d:Option Tmp):Bool:=
 match d with
 | some t=>C.res t
 | none=>false
def evAssign (C:Ctx) (st:St) (x:Operand) (d:Option Tmp):Option St:=
 match st.plc x with
 | some q=>match x with
  | .tmp s=>if q=.tmp s∨isRes C d=true then st.mvD q d else match st.useP q with
   | some (y,st1)=>st1.setD d y
   | none=>none
  | _=>none
 | none=>match st.use x with
  | some (y,st1)=>st1.setD d y
  | none=>none
def St.takeC (st:St) (id:Nat):Nat→Nat→Option (List PV×St)
 | _,0=>some ([],st)
 | off,n+1=>match st.useP (.cell id off) with
  | some (x,st1)=>match st1.takeC id (off+1) n with
   | some (xs,st2)=>some (x :: xs,st2)
   | none=>none
  | none=>none
def partOf (P:Program) (t:TypeId) (cs:List PV) (off:Nat):Option PV:=
 match aggT P t,szOf P t with
 | some true,some n=>if off+n≤cs.length then some (.agg ((cs.drop off).take n)) else none
 | some false,some _=>cs[off]?
 | _,_=>none
def elemCells (st:St) (p:Plc) (k:Nat):Option (List PV):=
 match contentAt st p with
 | some (.sl fl false xs)=>if fl.isOwn then (match xs.l[k]? with | some x=>some (xs.sh.cells x) | none=>none) else none
 | _=>none
def evLoad (P:Program) (st:St) (t:TypeId) (a:Operand) (d:Option Tmp):Option St:=
 match st.peek a with
 | some (.ptr id off)=>match aggT P t,szOf P t with
  | some true,some n=>match st.takeC id off n with
   | some (cs,st1)=>st1.setD d (.agg cs)
   | none=>none
  | some false,some _=>match contentAt st (.cell id off) with
   | some (.sl fl n xs)=>if fl.isOwn then st.setD d (.alias (.cell id off)) else st.setD d (.sl fl n xs)
   | some .dead=>none
   | some (.alias _)=>none
   | some (.elem _ _ _)=>none
   | some x=>st.setD d x
   | none=>none
  | _,_=>none
 | some (.elem q k off)=>match elemCells st q k with
  | some cs=>match partOf P t cs off with
   | some x=>st.setD d x
   | none=>none
  | none=>none
 | some (.elemv cs off)=>match partOf P t cs off with
  | some x=>st.setD d x
  | none=>none
 | _=>none
def St.putC (st:St) (id:Nat):Nat→List PV→Option St
 | _,[]=>some st
 | off,x :: xs=>match contentAt st (.cell id off) with
  | some _=>if x.one then nrmB (st.setP (.cell id off) x).σ fun σ=>St.putC { (st.setP (.cell id off) x) with σ } id (off+1) xs else none
  | none=>none
def setRange (cs:List PV) (off:Nat):List PV→List PV
 | []=>cs
 | x :: xs=>setRange (cs.set off x) (off+1) xs
def St.putE (st:St) (p:Plc) (k off:Nat) (ys:List PV):Option St:=
 match contentAt st p with
 | some (.sl (.excl e) false xs)=>match xs.l[k]? with
  | some x=>if off+ys.length≤xs.sh.size∧ys.all PV.one=true then (match xs.sh.of (setRange (xs.sh.cells x) off ys) with
   | some y=>some (st.putP p (.sl (.excl e) false ⟨xs.sh,xs.l.set k y⟩))
   | none=>none) else none
  | none=>none
 | _=>none
def evStore (P:Program) (st:St) (t:TypeId) (a x:Operand):Option St:=
 match st.peek a,szOf P t with
 | some (.ptr id off),some n=>match st.plc x with
  | some q=>if n=1∧q≠.cell id off then (match contentAt st (.cell id off),contentAt st q with
    | some _,some y=>match x with
     | .tmp s=>if q=.tmp s then some ((st.setP q .dead).setP (.cell id off) y) else match st.useP q with
      | some (z,st1)=>st1.putC id off [z]
      | none=>none
     | _=>none
    | _,_=>none) else none
  | none=>match st.use x with
   | some (y,st1)=>if y.cells.length=n then st1.putC id off y.cells else none
   | none=>none
 | some (.elem p k off),some n=>match st.use x with
  | some (y,st1)=>if y.cells.length=n then st1.putE p k off y.cells else none
  | none=>none
 | _,_=>none
def addOff (x:PV) (n:Nat):Option PV:=
 match x with
 | .ptr id off=>some (.ptr id (off+n))
 | .elem p k off=>some (.elem p k (off+n))
 | .elemv cs off=>some (.elemv cs (off+n))
 | _=>none
def St.setAddr (st:St) (d:Option Tmp) (x:PV):Option St:=
 match x,d with
 | .elem q _ _,some t=>if q=.tmp t then none else st.setD d x
 | .ptr _ _,_=>st.setD d x
 | .elemv _ _,_=>st.setD d x
 | _,_=>none
def evFieldAddr (P:Program) (st:St) (t:TypeId) (x:Operand) (f:Nat) (d:Option Tmp):Option St:=
 match P.underlying t with
 | some (.struct fs)=>match fs[f]? with
  | some fd=>match szOf P fd.type,st.peek x with
   | some (n+1),some y=>match addOff y fd.offset with
    | some z=>st.setAddr d z
    | none=>none
   | _,_=>none
  | none=>none
 | _=>none
def evIndexAddr (P:Program) (st:St) (t:TypeId) (x i:Operand) (d:Option Tmp):Option St:=
 match P.underlying t,st.int i with
 | some (.array len e),some i=>match szOf P e,st.peek x with
  | some n,some y=>if 0≤i∧i<len then (match addOff y (i.toNat*n) with
    | some z=>st.setAddr d z
    | none=>none) else none
  | _,_=>none
 | some (.slice e),some i=>match szOf P e,st.sl x with
  | some n,some (false,xs)=>if xs.sh.size=n then (match nthI xs.l i with
    | some y=>(match st.plc x with
     | some q=>st.setAddr d (.elem q i.toNat 0)
     | none=>st.setAddr d (.elemv (xs.sh.cells y) 0))
    | none=>none) else none
  | _,_=>none
 | _,_=>none
def evField (P:Program) (st:St) (t:TypeId) (x:Operand) (f:Nat) (d:Option Tmp):Option St:=
 match P.underlying t,st.peek x with
 | some (.struct fs),some (.agg cs)=>match fs[f]? with
  | some fd=>match partOf P fd.type cs fd.offset with
   | some y=>st.setD d y
   | none=>none
  | none=>none
 | _,_=>none
def evIndex (P:Program) (st:St) (t:TypeId) (x i:Operand) (d:Option Tmp):Option St:=
 match P.underlying t,st.peek x,st.int i with
 | some (.array len e),some (.agg cs),some i=>match szOf P e with
  | some n=>if 0≤i∧i<len then (match partOf P e cs (i.toNat*n) with
    | some y=>st.setD d y
    | none=>none) else none
  | none=>none
 | some .string,some (.lit (.string s)),some i=>if 0≤i then (match s[i.toNat]? with
   | some b=>st.setD d (.lit (.int .u8 b.toNat))
   | none=>none) else none
 | _,_,_=>none
def evExtract (st:St) (x:Operand) (i:Nat) (d:Option Tmp):Option St:=
 match st.peek x with
 | some (.tup vs)=>match vs[i]? with
  | some y=>st.setD d y
  | none=>none
 | _=>none
def evPick (st:St) (c a b:Operand) (d:Option Tmp):Option St:=
 match st.bool c with
 | some true=>match st.peek a with | some (.lit v)=>st.setD d (.lit v) | _=>none
 | some false=>match st.peek b with | some (.lit v)=>st.setD d (.lit v) | _=>none
 | none=>none
def evAlloc (P:Program) (st:St) (t:TypeId) (d:Option Tmp):Option St:=
 match zeroPV P t with
 | some cs=>({ st with σ:=st.σ++[.cells t cs] }:St).setD d (.ptr st.σ.length 0)
 | none=>none
def evBox (st:St) (t:TypeId) (x:Operand) (d:Option Tmp):Option St:=
 match st.plc x with
 | some q=>match contentAt st q with
  | some y=>match x with
   | .tmp s=>if q=.tmp s then (((({ st with σ:=st.σ++[.cells t [.dead]] }:St).setP q .dead).setP (.cell st.σ.length 0) y)).setD d (.ptr st.σ.length 0) else none
   | _=>none
  | none=>none
 | none=>match st.use x with
  | some (y,st1)=>({ st1 with σ:=st1.σ++[.cells t y.cells] }:St).setD d (.ptr st1.σ.length 0)
  | none=>none
def St.parts (st:St):List (Nat×Operand)→Option (List (Nat×List PV)×St)
 | []=>some ([],st)
 | (i,x) :: rest=>match st.use x with
  | some (y,st1)=>match st1.parts rest with
   | some (ys,st2)=>some ((i,y.cells) :: ys,st2)
   | none=>none
  | none=>none
def fillP (place:Nat→Option (Nat×Nat)) (cs:List PV):List (Nat×List PV)→Option (List PV)
 | []=>some cs
 | (i,xs) :: rest=>match place i with
  | some (off,size)=>if xs.length=size∧off+size≤cs.length then nrm (setRange cs off xs) fun cs=>fillP place cs rest else none
  | none=>none
def fieldPlaces (P:Program):List Field→Option (List (Nat×Nat))
 | []=>some []
 | f :: fs=>match szOf P f.type,fieldPlaces P fs with
  | some n,some r=>some ((f.offset,n) :: r)
  | _,_=>none
def evBuild (P:Program) (st:St) (t:TypeId) (ps:Array (Nat×Operand)) (d:Option Tmp):Option St:=
 match zeroPV P t,st.parts ps.toList with
 | some zs,some (ys,st1)=>match P.underlying t with
  | some (.struct fs)=>match fieldPlaces P fs.toList with
   | some pl=>match fillP (pl[·]?) zs ys with
    | some cs=>st1.setD d (.agg cs)
    | none=>none
   | none=>none
  | some (.array _ e)=>match szOf P e with
   | some n=>match fillP (fun i=>some (i*n,n)) zs ys with
    | some cs=>st1.setD d (.agg cs)
    | none=>none
   | none=>none
  | _=>none
 | _,_=>none
def fillE (s:Sh) (xs:List s.den):List (Nat×List PV)→Option (List s.den)
 | []=>some xs
 | (i,c) :: rest=>match s.of c with
  | some x=>if i<xs.length then nrm (xs.set i x) fun xs=>fillE s xs rest else none
  | none=>none
def evBuildSlice (C:Ctx) (st:St) (t:TypeId) (len:Nat) (ps:Array (Nat×Operand)) (d:Option Tmp):Option St:=
 match C.P.underlying t with
 | some (.slice e)=>match szOf C.P e,zeroPV C.P e,st.parts ps.toList with
  | some (n+1),some zs,some (ys,st1)=>if len*(n+1)≤2 ^ 24∧(C.sh e).size=n+1 then (match (C.sh e).of zs with
    | some z=>(match fillE (C.sh e) (List.replicate len z) ys with
     | some xs=>st1.setD d (.sl (.excl e) false ⟨C.sh e,xs⟩)
     | none=>none)
    | none=>none) else none
  | _,_,_=>none
 | _=>none
def evSlice (P:Program) (st:St) (t:TypeId) (x:Operand) (lo hi mx:Option Operand) (d:Option Tmp):Option St:=
 match P.underlying t,mx with
 | some (.slice e),none=>
  match szOf P e,(match lo with | some o=>st.int o | none=>some 0),(match hi with | some o=>st.int o | none=>(st.sl x).map fun p=>(p.2.l.length:Int)),st.use x with
  | some sz,some l,some h,some (.sl .view n xs,st1)=>if xs.sh.size=sz∨n=true then (match sliceI xs.l l h with
    | some m=>st1.setD d (.sl .view n ⟨xs.sh,m⟩)
    | none=>none) else none
  | _,_,_,_=>none
 | _,_=>none
def elemsOf (st:St) (n:Nat) (x:Operand):Option (Option Xs):=
 match st.peek x with
 | some (.sl _ true _)=>some none
 | some (.sl _ false ys)=>if ys.sh.size=n then some (some ys) else none
 | some (.lit (.string s))=>if n=1 then some (some ⟨.int .u8,s.data.toList.map fun b=>(b.toNat:Int)⟩) else none
 | _=>none
def optLen:Option Xs→Nat
 | some ys=>ys.l.length
 | none=>0
def appX (xs:Xs):Option Xs→Option Xs
 | none=>some xs
 | some ys=>if h:ys.sh=xs.sh then some ⟨xs.sh,xs.l++castX h ys.l⟩ else none
def appN (s:Sh):Option Xs→Xs
 | none=>⟨s,[]⟩
 | some ys=>ys
def isIntT:TypeDesc→Bool
 | .int _=>true
 | _=>false
def zeroFits (i:TypeInfo):Bool:=
 match i.zero with
 | some z=>z.cells.size == i.size
 | none=>false
def evAppend (C:Ctx) (st:St) (tys:Array TypeId) (s x:Operand) (d:Option Tmp):Option St:=
 match tys[0]?,tys[1]? with
 | some ts,some tx=>match C.P.underlying ts,C.P.underlying tx with
  | some (.slice e),some ux=>if isIntT ux=true then none else
   match C.P.info? e,st.peek s with
   | some i,some (.sl fl nil xs)=>match elemsOf st i.size x with
    | some ys=>if 0<i.bytes∧zeroFits i=true then
      (match nil with
      | true=>(match d with
       | some t=>if optLen ys*i.bytes≤2 ^ 46 then st.setD (some t) (.sl (.excl e) false (appN (C.sh e) ys)) else none
       | none=>none)
      | false=>if fl.isOwn∧fl.e=e then (match st.plc s,d,appX xs ys with
       | some p,some t,some zs=>if t<st.n∧p≠.tmp t then (if (xs.l.length+optLen ys)*i.bytes≤2 ^ 46 then some ((st.setP p .dead).setP (.tmp t) (.sl fl false zs)) else none) else none
       | _,_,_=>none)
      else none) else none
    | none=>none
   | _,_=>none
  | _,_=>none
 | _,_=>none
def intBin (op:BinOp) (k:IntKind) (a:Int) (k':IntKind) (b:Int):Option Value:=
 match op with
 | .shl=>if b<0 then none else some (.int k (k.wrap (a*2 ^ (min b.toNat k.bits))))
 | .shr=>if b<0 then none else some (.int k (a.fdiv (2 ^ (min b.toNat k.bits))))
 | op=>if k≠k' then none else match op with
  | .add=>some (.int k (k.wrap (a+b)))
  | .sub=>some (.int k (k.wrap (a - b)))
  | .mul=>some (.int k (k.wrap (a*b)))
  | .quo=>if b=0 then none else some (.int k (k.wrap (a.tdiv b)))
  | .rem=>if b=0 then none else some (.int k (a.tmod b))
  | .eql=>some (.bool (a == b))
  | .neq=>some (.bool (a != b))
  | .lss=>some (.bool (a<b))
  | .leq=>some (.bool (a≤b))
  | .gtr=>some (.bool (a>b))
  | .geq=>some (.bool (a≥b))
  | .and=>some (.int k (k.wrap (BitVec.ofInt k.bits a &&& BitVec.ofInt k.bits b).toNat))
  | .or=>some (.int k (k.wrap (BitVec.ofInt k.bits a ||| BitVec.ofInt k.bits b).toNat))
  | .xor=>some (.int k (k.wrap (BitVec.ofInt k.bits a ^^^ BitVec.ofInt k.bits b).toNat))
  | .andNot=>some (.int k (k.wrap (BitVec.ofInt k.bits a &&& ~~~BitVec.ofInt k.bits b).toNat))
  | _=>none
def nilNe (P:Program) (t:TypeId) (x y:PV):Bool:=
 match P.underlying t with
 | some (.pointer _)=>match x,y with
  | .ptr _ _,.nilp=>true
  | .elemv _ _,.nilp=>true
  | _,_=>false
 | some (.interface _)=>match x,y with
  | .ifc _ _,.lit .nilIface=>true
  | .oref _ _,.lit .nilIface=>true
  | _,_=>false
 | some (.slice _)=>match x,y with
  | .sl _ false xs,.sl _ true _=>Nat.blt 0 xs.l.length
  | _,_=>false
 | _=>false
def eqOp:BinOp→Option Bool
 | .eql=>some false
 | .neq=>some true
 | _=>none
def evNil (P:Program) (st:St) (op:BinOp) (t:TypeId) (x y:Operand) (d:Option Tmp):Option St:=
 match eqOp op,st.peek x,st.peek y with
 | some b,some u,some v=>match nilNe P t u v with
  | true=>st.setD d (.lit (.bool b))
  | false=>none
 | _,_,_=>none
def isNilC:Operand→Bool
 | .const (.slice none 0 0)=>true
 | .const (.pointer none)=>true
 | .const .nilIface=>true
 | _=>false
def evBin0 (P:Program) (st:St) (op:BinOp) (t:TypeId) (x y:Operand) (d:Option Tmp):Option St:=
 match st.peek x,st.peek y with
 | some (.lit (.int k a)),some (.lit (.int k' b))=>match intBin op k a k' b with
  | some v=>st.setD d (.lit v)
  | none=>none
 | some u,some v=>match u.val,v.val with
  | some a,some b=>match det P (do eqGuard op t x y a b;binOp op t a b) with
   | some r=>st.setD d (constPV r)
   | none=>none
  | _,_=>none
 | _,_=>none
def evBin1 (P:Program) (st:St) (op:BinOp) (t:TypeId) (x y:Operand) (d:Option Tmp):Option St:=
 match isNilC y with
 | true=>(match evNil P st op t x y d with
  | some s=>some s
  | none=>evBin0 P st op t x y d)
 | false=>evBin0 P st op t x y d
def eqI (a b:Int):Bool:=decide (a=b)
def eqS (a b:ByteArray):Bool:=a == b
def eqLeaf (d:Option TypeDesc) (x y:Option PV):Option Bool:=
 match x,y with
 | some (.lit (.int k a)),some (.lit (.int k' b))=>(match d with
  | some (.int _)=>if k=k' then some (eqI a b) else none
  | _=>none)
 | some (.lit (.bool a)),some (.lit (.bool b))=>(match d with
  | some .bool=>some (a == b)
  | _=>none)
 | some (.lit (.string a)),some (.lit (.string b))=>(match d with
  | some .string=>some (eqS a b)
  | _=>none)
 | some (.lit (.complex k a b)),some (.lit (.complex k' a' b'))=>(match d with
  | some (.complex _)=>if k=k' then some (Op.floatEq k a a' && Op.floatEq k b b') else none
  | _=>none)
 | _,_=>none
def eqFs (P:Program) (xs ys:List PV):List Field→Option Bool
 | []=>some true
 | f :: r=>if f.name≠ "_" then (match eqLeaf (P.underlying f.type) xs[f.offset]? ys[f.offset]?,eqFs P xs ys r with
  | some a,some b=>some (a && b)
  | _,_=>none) else none
def eqPV (P:Program) (t:TypeId) (x y:PV):Option Bool:=
 match x,y with
 | .lit (.string a),.lit (.string b)=>some (eqS a b)
 | .lit (.float k a),.lit (.float k' b)=>if k=k' then some (Op.floatEq k a b) else none
 | .lit (.complex k a b),.lit (.complex k' a' b')=>if k=k' then some (Op.floatEq k a a' && Op.floatEq k b b') else none
 | .agg xs,.agg ys=>(match P.underlying t with
  | some (.struct fs)=>if !P.eqGuardType P.depth t && !P.stoodInHeld t then eqFs P xs ys fs.toList else none
  | _=>none)
 | _,_=>none
def eqCand (st:St) (op:BinOp) (x y:Operand):Bool:=
 match eqOp op with
 | none=>false
 | some _=>(match st.peek x,st.peek y with
  | some (.lit (.string _)),some (.lit (.string _))=>true
  | some (.lit (.float _ _)),some (.lit (.float _ _))=>true
  | some (.lit (.complex _ _ _)),some (.lit (.complex _ _ _))=>true
  | some (.agg _),some (.agg _)=>true
  | _,_=>false)
def negB (n b:Bool):Bool:=
 match n with
 | true=>!b
 | false=>b
def evEq (P:Program) (st:St) (op:BinOp) (t:TypeId) (x y:Operand) (d:Option Tmp):Option St:=
 match eqOp op,st.peek x,st.peek y with
 | some n,some u,some v=>(match eqPV P t u v with
  | some b=>st.setD d (.lit (.bool (negB n b)))
  | none=>none)
 | _,_,_=>none
def evBin (P:Program) (st:St) (op:BinOp) (t:TypeId) (x y:Operand) (d:Option Tmp):Option St:=
 match eqCand st op x y with
 | true=>evEq P st op t x y d
 | false=>evBin1 P st op t x y d
def vals (st:St):List Operand→Option (List Value)
 | []=>some []
 | o :: os=>match st.peek o with
  | some x=>match x.val,vals st os with
   | some v,some vs=>some (v :: vs)
   | _,_=>none
  | none=>none
def isConst:Operand→Bool
 | .const _=>true
 | _=>false
def evBuiltin (C:Ctx) (st:St) (b:Builtin) (tys:Array TypeId) (ty:TypeId) (args:List Operand) (d:Option Tmp):Option St:=
 match b,args with
 | .append,[s,x]=>evAppend C st tys s x d
 | .len,[x]=>match st.peek x with
  | some (.sl _ _ xs)=>match tys[0]? with
   | some t=>match C.P.underlying t with
    | some (.slice _)=>st.setD d (.lit (.int .i64 xs.l.length))
    | _=>none
   | none=>none
  | some y=>match y.val with
   | some v=>match det C.P (builtin .len tys ty #[isConst x] #[v]) with
    | some (.value r)=>st.setD d (constPV r)
    | _=>none
   | none=>none
  | none=>none
 | .append,_=>none
 | .recover,_=>none
 | b,args=>match vals st args with
  | some vs=>match det C.P (builtin b tys ty (args.map isConst).toArray vs.toArray) with
   | some (.value r)=>st.setD d (constPV r)
   | _=>none
  | none=>none
def evUn (P:Program) (st:St) (op:UnOp) (x:Operand) (d:Option Tmp):Option St:=
 match op,st.peek x with
 | .not,some (.lit (.bool b))=>st.setD d (.lit (.bool !b))
 | op,some u=>match u.val with
  | some a=>match det P (Op.unary op a) with
   | some r=>st.setD d (constPV r)
   | none=>none
  | none=>none
 | _,none=>none
def bytesOf:Xs→Option ByteArray
 | ⟨.int .u8,l⟩=>some ⟨(l.map fun n=>UInt8.ofNat n.toNat).toArray⟩
 | _=>none
def evConvert (P:Program) (st:St) (src dst:TypeId) (x:Operand) (d:Option Tmp):Option St:=
 match st.peek x with
 | some (.lit (.int k n))=>match P.underlying src,P.underlying dst with
  | some _,some (.int k')=>st.setD d (.lit (.int k' (k'.wrap n)))
  | _,_=>match det P (convert src dst (.int k n)) with
   | some r=>st.setD d (constPV r)
   | none=>none
 | some (.sl _ _ xs)=>match P.underlying src,P.underlying dst with
  | some (.slice e),some .string=>match P.underlying e with
   | some (.int .u8)=>match bytesOf xs with
    | some bs=>st.setD d (.lit (.string bs))
    | none=>none
   | _=>none
  | _,_=>none
 | some u=>match u.val with
  | some a=>match det P (convert src dst a) with
   | some r=>st.setD d (constPV r)
   | none=>none
  | none=>none
 | none=>none
def evNilCheck (st:St) (x:Operand) (d:Option Tmp):Option St:=
 match st.peek x with
 | some (.ptr id off)=>st.setD d (.ptr id off)
 | some (.elemv cs off)=>st.setD d (.elemv cs off)
 | some (.ifc t v)=>st.setD d (.ifc t v)
 | some (.oref id i)=>st.setD d (.oref id i)
 | _=>none
def evIface (P:Program) (st:St) (t:TypeId) (x:Operand) (d:Option Tmp):Option St:=
 match P.underlying t with
 | some (.interface _)=>none
 | some _=>match st.use x with
  | some (y,st1)=>st1.setD d (.ifc t y)
  | none=>none
 | none=>none
def St.useL (st:St):List Operand→Option (List PV×St)
 | []=>some ([],st)
 | o :: os=>match st.use o with
  | some (x,st1)=>match st1.useL os with
   | some (xs,st2)=>some (x :: xs,st2)
   | none=>none
  | none=>none
def evFunc (st:St) (f:Fn) (a b:List Operand) (d:Option Tmp):Option St:=
 match st.useL a with
 | some (xs,st1)=>match st1.useL b with
  | some (ys,st2)=>st2.setD d (.fn f xs ys)
  | none=>none
 | none=>none
def Sh.scalar:Sh→Bool
 | .int _=>true
 | .bool=>true
 | .flt _=>true
 | .cpx _=>true
 | .str=>true
 | _=>false
def eqK:(s:Sh)→s.den→s.den→Bool
 | .int _=>eqI
 | .str=>eqS
 | _=>fun _ _=>false
def mput {α β:Type} (eq:α→α→Bool):List (α×β)→α→β→List (α×β)
 | [],a,b=>[(a,b)]
 | e :: r,a,b=>bif eq a e.1 then (a,b) :: r else e :: mput eq r a b
def mget {α β:Type} (eq:α→α→Bool):List (α×β)→α→β→β
 | [],_,z=>z
 | e :: r,a,z=>bif eq a e.1 then e.2 else mget eq r a z
def mhas {α β:Type} (eq:α→α→Bool):List (α×β)→α→Bool
 | [],_=>false
 | e :: r,a=>bif eq a e.1 then true else mhas eq r a
def keyOk (s:Sh) (d:Option TypeDesc):Bool:=
 match s,d with
 | .int k,some (.int k')=>decide (k=k')
 | .str,some .string=>true
 | _,_=>false
def mapZ (P:Program) (t:TypeId):Option PV:=
 match P.info? t with
 | some i=>(match i.zero with
  | some v=>some (const1 v)
  | none=>none)
 | none=>none
def mapAt (st:St) (m:Operand):Option (Nat×Mp):=
 match st.peek m with
 | some (.map id)=>(match st.σ[id]? with
  | some (.mp x)=>some (id,x)
  | _=>none)
 | _=>none
def evMakeMap (C:Ctx) (st:St) (t:TypeId) (r:Option Operand) (d:Option Tmp):Option St:=
 match r,C.P.underlying t with
 | none,some (.map kt vt)=>if keyOk (C.sh kt) (C.P.underlying kt) && (C.sh vt).scalar then ({ st with σ:=st.σ++[.mp ⟨C.sh kt,C.sh vt,[]⟩] }:St).setD d (.map st.σ.length) else none
 | _,_=>none
def evMapSet (P:Program) (st:St) (t:TypeId) (m k x:Operand) (d:Option Tmp):Option St:=
 match P.underlying t with
 | some (.map kt _)=>(match mapAt st m,st.peek k,st.peek x with
  | some (id,y),some a,some b=>if keyOk y.ks (P.underlying kt) && y.vs.scalar then (match y.ks.of [a],y.vs.of [b] with
    | some a,some b=>({ st with σ:=st.σ.set id (.mp ⟨y.ks,y.vs,mput (eqK y.ks) y.l a b⟩) }:St).setD d (.lit undef)
    | _,_=>none) else none
  | _,_,_=>none)
 | _=>none
def evLookup (P:Program) (st:St) (t:TypeId) (m k:Operand) (ok:Bool) (d:Option Tmp):Option St:=
 match P.underlying t with
 | some (.map kt vt)=>(match mapAt st m,st.peek k,mapZ P vt with
  | some (_,y),some a,some z=>if keyOk y.ks (P.underlying kt) && y.vs.scalar then (match y.ks.of [a],y.vs.of [z] with
    | some a,some z=>(match y.vs.cells (mget (eqK y.ks) y.l a z) with
     | [r]=>st.setD d (match ok with
      | true=>.tup [r,.lit (.bool (mhas (eqK y.ks) y.l a))]
      | false=>r)
     | _=>none)
    | _,_=>none) else none
  | _,_,_=>none)
 | _=>none
def evOp (C:Ctx) (o:Oper) (st:St):Option St:=
 match o.op with
 | .move x=>evMove st x o.dst
 | .assign x=>evAssign C st x o.dst
 | .pick c a b=>evPick st c a b o.dst
 | .alloc t=>evAlloc C.P st t o.dst
 | .box t x=>evBox st t x o.dst
 | .build t ps=>evBuild C.P st t ps o.dst
 | .buildSlice t n ps=>evBuildSlice C st t n ps o.dst
 | .load t a=>evLoad C.P st t a o.dst
 | .store t a x=>match evStore C.P st t a x with
  | some st1=>st1.setD o.dst (.lit undef)
  | none=>none
 | .nilCheck x=>evNilCheck st x o.dst
 | .makeInterface t x=>evIface C.P st t x o.dst
 | .makeFunc f a b=>evFunc st f a.toList b.toList o.dst
 | .binOp op t x y _=>evBin C.P st op t x y o.dst
 | .unOp op _ x=>evUn C.P st op x o.dst
 | .convert s t x=>evConvert C.P st s t x o.dst
 | .slice t x lo hi mx=>evSlice C.P st t x lo hi mx o.dst
 | .fieldAddr t x f=>evFieldAddr C.P st t x f o.dst
 | .field t x f=>evField C.P st t x f o.dst
 | .indexAddr t x i=>evIndexAddr C.P st t x i o.dst
 | .index t x i=>evIndex C.P st t x i o.dst
 | .extract x i=>evExtract st x i o.dst
 | .call c=>match c.callee with
  | .builtin b=>evBuiltin C st b c.argTypes o.type c.args.toList o.dst
  | _=>none
 | .makeMap t r=>evMakeMap C st t r o.dst
 | .insert t m k x=>evMapSet C.P st t m k x o.dst
 | .mapUpdate t m k x=>evMapSet C.P st t m k x o.dst
 | .lookup t m k ok=>evLookup C.P st t m k ok o.dst
 | _=>none
def St.passL (st:St) (mv:Nat→Bool) (N:Nat):Nat→List (PV⊕Operand)→Option St
 | _,[]=>some st
 | j,.inl x :: r=>match st.setD (some (N+j)) x with
  | some st1=>st1.passL mv N (j+1) r
  | none=>none
 | j,.inr o :: r=>
  match (if mv j then st.plc o else none) with
  | some q=>match st.mvD q (some (N+j)) with
   | some st1=>st1.passL mv N (j+1) r
   | none=>none
  | none=>match st.use o with
   | some (y,st1)=>match st1.setD (some (N+j)) y with
    | some st2=>st2.passL mv N (j+1) r
    | none=>none
   | none=>none
def getArgs (ts:List (Nat×PV)):Nat→Nat→List PV
 | _,0=>[]
 | t,k+1=>lkp ts t :: getArgs ts (t+1) k
def fixC (N:Nat) (x:PV):PV:=
 match x with
 | .alias (.tmp s)=>if s<N then x else .dead
 | .elem (.tmp s) _ _=>if s<N then x else .dead
 | .alias (.cell _ _)=>.dead
 | .elem (.cell _ _) _ _=>.dead
 | _=>x
def cutC (N:Nat):List (Nat×PV)→List (Nat×PV)
 | []=>[]
 | (k,x) :: r=>if k<N then (k,fixC N x) :: cutC N r else cutC N r
def fixN (N:Nat) (x:PV):PV:=
 match x with
 | .alias (.tmp s)=>if s<N then x else .dead
 | .elem (.tmp s) _ _=>if s<N then x else .dead
 | _=>x
def cutN (N:Nat):List (Nat×PV)→List (Nat×PV)
 | []=>[]
 | (k,x) :: r=>if k<N then (k,fixN N x) :: cutN N r else cutN N r
def St.shrink (st:St) (N:Nat):St:={ st with ts:=cutN N st.ts,n:=N }
def afterCall (st:St) (N:Nat) (d:Option Tmp) (r:PV) (σ:List Bx):Option St:=
 match (if r.isOwn then (match d with
   | some _=>({ ts:=(N,r) :: cutC N st.ts,n:=N+1,σ }:St).mvD (.tmp N) d
   | none=>some { ts:=(N,r) :: cutC N st.ts,n:=N+1,σ })
  else ({ ts:=(N,r) :: cutC N st.ts,n:=N+1,σ }:St).setD d r) with
 | some st1=>some (st1.shrink N)
 | none=>none
def PV.isDead:PV→Bool
 | .dead=>true
 | _=>false
def opLt (N:Nat):Operand→Bool
 | .tmp t=>decide (t<N)
 | _=>true
def evCallG (st:St) (mv:Nat→Bool) (call:List PV→List Bx→Option (PV×List Bx)) (first captured:List PV) (args:List Operand) (d:Option Tmp):Option St:=
 if args.all (opLt st.n) then match ({ ts:=cutN st.n st.ts,n:=st.n+(first.length+args.length+captured.length),σ:=st.σ }:St).passL mv st.n 0 (first.map .inl++args.map .inr++captured.map .inl) with
 | some st1=>nrm (getArgs st1.ts st.n (first.length+args.length+captured.length)) fun xs=>
  if xs.all PV.noAl then (match call xs st1.σ with
   | some (r,σ)=>if r.noAl=true∧r.isDead=false then afterCall st1 st.n d r σ else none
   | none=>none) else none
 | none=>none else none
def evCallW (C:Ctx) (st:St) (k:FuncId) (first captured:List PV) (args:List Operand) (d:Option Tmp):Option St:=evCallG st (C.mv k) (C.call k) first captured args d
def evCall (C:Ctx) (st:St) (f:Operand) (args:List Operand) (d:Option Tmp):Option St:=
 match st.peek f with
 | some (.fn (.func k) first captured)=>evCallW C st k first captured args d
 | _=>none
def recvOf (P:Program) (st:St) (T:TypeId) (v:PV) (name:String):Option (FuncId×PV):=
 match P.info? T with
 | some i=>match i.methods.find? (·.name == name) with
  | some m=>match m.func with
   | some (f,true)=>match m.path.toList with
    | []=>match P.underlying T with
     | some (.pointer _)=>some (f,v)
     | _=>none
    | [s]=>match s.deref,v,P.underlying s.struct with
     | true,.ptr id off,some (.struct fs)=>match fs[s.index]? with
      | some fd=>match szOf P fd.type,P.underlying fd.type with
       | some (_+1),some (.pointer _)=>match contentAt st (.cell id (off+fd.offset)) with
        | some (.ptr id' off')=>some (f,.ptr id' off')
        | some (.elemv cs o)=>some (f,.elemv cs o)
        | _=>none
       | some (_+1),some _=>some (f,.ptr id (off+fd.offset))
       | _,_=>none
      | none=>none
     | _,_,_=>none
    | _=>none
   | _=>none
  | none=>none
 | none=>none
def evInvoke (C:Ctx) (st:St) (recv:Operand) (name:String) (args:List Operand) (d:Option Tmp):Option St:=
 match st.peek recv with
 | some (.ifc T v)=>match recvOf C.P st T v name with
  | some (k,x)=>if x.noAl then evCallW C st k [x] [] args d else none
  | none=>none
 | some (.oref id i)=>evCallG st (fun _=>false) (C.inv name) [.oref id i] [] args d
 | _=>none
def evOp' (C:Ctx) (o:Oper) (st:St):Option St:=
 match o.op with
 | .call c=>match c.callee with
  | .value f=>evCall C st f c.args.toList o.dst
  | .invoke r name=>evInvoke C st r name c.args.toList o.dst
  | _=>evOp C o st
 | _=>evOp C o st
def wantedA (ops:Array Oper) (o:Oper) (st:St):Option Bool:=
 match o.guard with
 | none=>some true
 | some (j,want)=>match ops[j]? with
  | some p=>match p.dst with
   | some t=>match st.get t with
    | some (.lit (.bool b))=>some (b == want)
    | some (.lit _)=>some false
    | _=>none
   | none=>some false
  | none=>some false
def touches:Op→Bool
 | .store ..=>true
 | .alloc ..=>true
 | .box ..=>true
 | .call _=>true
 | .makeMap ..=>true
 | .insert ..=>true
 | .mapUpdate ..=>true
 | _=>false
noncomputable def nrmS {β:Type} (b:Bool) (st:St) (k:St→β):β:=
 nrmT st.ts fun ts=>if b then nrmB st.σ fun σ=>k { ts,n:=st.n,σ } else k { ts,n:=st.n,σ:=st.σ }
theorem nrmS_eq {β:Type} (b:Bool) (st:St) (k:St→β):nrmS b st k=k st:=by
 simp only [nrmS,nrmT_eq,nrmB_eq,ite_self]
mutual
def noRef (n:Nat):PV→Bool
 | .ptr id _=>id<n
 | .map id=>id<n
 | .oref id _=>id<n
 | .sl _ _ _=>true
 | .agg cs=>noRefs n cs
 | .tup vs=>noRefs n vs
 | .ifc _ v=>noRef n v
 | .fn _ a b=>noRefs n a && noRefs n b
 | .alias _=>false
 | .elem _ _ _=>false
 | .elemv cs _=>noRefs n cs
 | _=>true
def noRefs (n:Nat):List PV→Bool
 | []=>true
 | x :: xs=>noRef n x && noRefs n xs
end
def fixA (keep:List Nat) (x:PV):PV:=
 match x with
 | .alias (.tmp s)=>if keep.contains s then x else .dead
 | .elem (.tmp s) _ _=>if keep.contains s then x else .dead
 | _=>x
def keepL (keep:List Nat) (ts:List (Nat×PV)):List Nat→List (Nat×PV)
 | []=>[]
 | t :: r=>(t,fixA keep (lkp ts t)) :: keepL keep ts r
def St.freeze:List Nat→St→St
 | [],st=>st
 | t :: r,st=>St.freeze r (match st.use (.tmp t) with
  | some (x,st1)=>(match st1.setD (some t) x with
   | some st2=>st2
   | none=>st1)
  | none=>st)
def St.renil:List (Plc×TypeId×Sh)→St→St
 | [],st=>st
 | (p,e,s) :: r,st=>St.renil r (match contentAt st p with
  | some (.sl _ true _)=>st.setP p (.sl (.excl e) false ⟨s,[]⟩)
  | _=>st)
def noRefT (n:Nat) (x:PV):Bool:=
 match x with
 | .alias (.tmp _)=>true
 | .elem (.tmp _) _ _=>true
 | x=>noRef n x
def noRefB (n:Nat):Bx→Bool
 | .cells _ cs=>noRefs n cs
 | .mp _=>true
 | .fam _ _=>true
def St.cutOk (n:Nat) (st:St):Bool:=st.ts.all (fun p=>noRefT n p.2) && (st.σ.take n).all (noRefB n)
def St.keepTo (h:Hint) (st:St):St:=
 match St.renil h.nils (St.freeze h.frz st) with
 | st1=>{ st1 with ts:=keepL h.keep st1.ts h.keep }
def retVar (P:Program) (st:St):ResultVar→Option (PV×St)
 | .tmp t=>st.use (.tmp t)
 | .cell a t=>match st.get a with
  | some (.ptr id off)=>match aggT P t,szOf P t with
   | some true,some n=>match st.takeC id off n with
    | some (cs,st1)=>some (.agg cs,st1)
    | none=>none
   | some false,some _=>st.useP (.cell id off)
   | _,_=>none
  | _=>none
def retVars (P:Program):List ResultVar→St→Option (List PV×St)
 | [],st=>some ([],st)
 | r :: rs,st=>match retVar P st r with
  | some (x,st1)=>match retVars P rs st1 with
   | some (xs,st2)=>some (x :: xs,st2)
   | none=>none
  | none=>none
def retAll (P:Program) (rs:List ResultVar) (st:St):Option (PV×St):=
 match rs with
 | [.tmp t]=>match st.get t with
  | some (.sl fl n xs)=>some (.sl fl n xs,st)
  | _=>st.use (.tmp t)
 | [r]=>retVar P st r
 | rs=>match retVars P rs st with
  | some (xs,st1)=>some (.tup xs,st1)
  | none=>none
def number:Nat→List PV→List (Nat×PV)
 | _,[]=>[]
 | k,x :: xs=>(k,x) :: number (k+1) xs
def resOf (fn:Func) (t:Nat):Bool:=fn.results.toList.any fun r=>match r with
 | .tmp u=>u == t
 | _=>false
end
def putT (vs:Array Value) (d:Option Tmp) (v:Value):Array Value:=
 match d with
 | some d=>vs.setIfInBounds d v
 | none=>vs
theorem put_tmps (a:Act) (d:Option Tmp) (v:Value):(a.put d v).tmps=putT a.tmps d v:=by cases d <;> rfl
theorem put_defers (a:Act) (d:Option Tmp) (v:Value):(a.put d v).defers=a.defers:=by cases d <;> rfl
def evalV (vs:Array Value):Operand→Value
 | .tmp t=>vs.getD t undef
 | .const v=>v
 | .global g=>.pointer (some ⟨g,0,none⟩)
 | .func f=>.func (.func f) #[] #[]
theorem eval_eq (a:Act):a.eval=evalV a.tmps:=by funext o;cases o <;> rfl
theorem Rel.plain {g:Gh} {w:World} {x:PV} {v:Value} (h:Rel g w x v):x.plain=true:=by
 cases h <;> first | rfl | simp [PV.plain,Flag.isOwn]
theorem rel_const1 (g:Gh) (w:World) (v:Value):Rel g w (const1 v) v:=by
 unfold const1
 split
 ·exact .slnil _ _
 ·exact .nilp
 ·exact .lit _
theorem rel_constPV (g:Gh) (w:World) (v:Value):Rel g w (constPV v) v:=by
 unfold constPV
 split
 ·exact .slnil _ _
 ·exact .nilp
 ·rename_i cs
  refine .agg _ _ (by simp) fun i hi hv=>?_
  simp only [List.getElem_map]
  have:cs.toList[i]'(by simpa using hv)=cs[i]:=by simp
  rw [this]
  exact rel_const1 g w _
 ·exact .lit _
theorem lit?_rel {g:Gh} {w:World} {x:PV} {u v:Value} (h:x.lit? = some u) (hr:Rel g w x v):v=u:=by
 unfold PV.lit? at h
 split at h
 ·injection h with h;subst h;cases hr;rfl
 ·injection h with h;subst h;cases hr;rfl
 ·injection h with h;subst h;cases hr;rfl
 ·cases h
theorem lits_rel {g:Gh} {w:World}:∀{xs:List PV} {us:List Value} {vs:List Value},lits xs=some us→vs.length=xs.length→
  (∀i (hi:i<xs.length) (hv:i<vs.length),Rel g w xs[i] vs[i])→vs=us:=by
 intro xs
 induction xs with
 | nil=>intro us vs h hl _;simp [lits] at h;subst h;exact List.eq_nil_of_length_eq_zero hl
 | cons x xs ih=>
  intro us vs h hl hr
  simp only [lits] at h
  split at h
  ·rename_i u us' h1 h2
   injection h with h
   subst h
   cases vs with
   | nil=>simp at hl
   | cons v vs=>
    have e1:v=u:=lit?_rel h1 (hr 0 (by simp) (by simp))
    have e2:vs=us':=ih h2 (by simpa using hl) fun i hi hv=>hr (i+1) (by simpa using hi) (by simpa using hv)
    rw [e1,e2]
  ·cases h
theorem val_rel {g:Gh} {w:World} {x:PV} {u v:Value} (h:x.val=some u) (hr:Rel g w x v):v=u:=by
 unfold PV.val at h
 split at h
 ·rename_i cs
  split at h
  ·rename_i us hl
   injection h with h
   subst h
   cases hr with
   | agg _ vs hlen hrel=>
    have:=lits_rel hl (vs:=vs.toList) (by simpa using hlen) fun i hi hv=>by
     have:=hrel i hi (by simpa using hv)
     simpa using this
    rw [←this]
  ·cases h
 ·exact lit?_rel h hr
def ReadSl (g:Gh) (w:World) (n:Bool) (xs:List (List PV)) (v:Value):Prop:=
 (xs=[]∧v=.slice none 0 0)∨
 (n=false∧((∃b o cap s,v=.slice (some ⟨b,o,none⟩) xs.length cap∧xs.length≤cap∧Elems g w b o s xs)∨(xs=[]∧∃a cap,v=.slice (some a) 0 cap)))
theorem Elems.of_fp {g:Gh} {w:World} {b o s:Nat} {xs:List (List PV)} {vals:Nat→Nat→Value} (hlen:∀i,(h:i<xs.length)→xs[i].length=s)
  (hfp:∀i j,i<xs.length→j<s→g.FP b (o+i*s+j)∧w.cell? ⟨b,o+i*s+j,none⟩=some (vals i j))
  (hrel:∀i j (hi:i<xs.length) (hj:j<xs[i].length),Rel g w xs[i][j] (vals i j)):Elems g w b o s xs:=
 ⟨hlen,fun i j hi hj=>⟨_,(hfp i j hi (by rw [←hlen i hi];exact hj)).2,hrel i j hi hj⟩⟩
theorem slot_sl {P:Program} {st:St} {g:Gh} {vs:Array Value} {w:World} {p:Plc} {fl:Flag} {n:Bool} {xs:Xs} {v:Value} (h:Slot P st g vs w p (.sl fl n xs) v):ReadSl g w n xs.els v:=by
 have key:∀ex e,OwnOk P g w p ex e n xs.els v→ReadSl g w n xs.els v:=by
  rintro ex e (h | ⟨hn,b,cap,hv,hb⟩)
  ·exact .inl h
  ·exact .inr ⟨hn,.inl ⟨b,0,cap,_,hv,hb.hcap,hb.el⟩⟩
 cases fl with
 | own e=>exact key _ _ h
 | excl e=>exact key _ _ h
 | view=>
  have h:Rel g w (.sl .view n xs) v:=h
  cases h with
  | slnil=>exact .inl ⟨rfl,rfl⟩
  | slz=>exact .inl ⟨rfl,rfl⟩
  | sle s a cap=>exact .inr ⟨rfl,.inr ⟨rfl,a,cap,rfl⟩⟩
  | slv _ _ hx b o cap s vals hcap hlen hfp hrel=>subst hx;exact .inr ⟨rfl,.inl ⟨b,o,cap,s,rfl,hcap,.of_fp hlen hfp hrel⟩⟩
theorem contentAt_real {P:Program} {st:St} {g:Gh} {vs:Array Value} {w:World} (h:Inv P g st vs w) {p:Plc} {x:PV} (hc:contentAt st p=some x):∃v,realAt g vs w p=some v∧Slot P st g vs w p x v:=by
 cases p with
 | tmp t=>exact h.slot t x hc
 | cell id off=>
  simp only [contentAt] at hc
  split at hc
  ·rename_i ty cs hσ
   have hid:id<g.rho.length:=by rw [h.rlen];exact (List.getElem?_eq_some_iff.1 hσ).1
   obtain ⟨c,fz,hb,_,_,hx⟩:=h.box id ty cs _ hσ (List.getElem?_eq_getElem hid)
   obtain ⟨_,v,hv,hs⟩:=hx off _ hc
   refine ⟨v,?_,hs⟩
   simp only [realAt,List.getElem?_eq_getElem hid,World.cell?,hb]
   simpa using hv
  ·cases hc
theorem evalV_tmp {vs:Array Value} {t:Nat} {v:Value} (h:vs[t]? = some v):evalV vs (.tmp t)=v:=by
 simp [evalV,Array.getD_eq_getD_getElem?,h]
theorem peek_slot {P:Program} {st:St} {g:Gh} {vs:Array Value} {w:World} (h:Inv P g st vs w) {o:Operand} {x:PV} (hp:st.peek o=some x):∃p,Slot P st g vs w p x (evalV vs o):=by
 cases o with
 | tmp t=>
  simp only [St.peek] at hp
  split at hp
  ·rename_i q hq
   obtain ⟨v,hv,hs⟩:=h.slot t _ hq
   obtain ⟨u,hu,hs'⟩:=contentAt_real h hp
   obtain ⟨_,hreal⟩:=hs
   rw [hreal] at hu
   injection hu with hu
   subst hu
   exact ⟨q,by rw [evalV_tmp hv];exact hs'⟩
  ·obtain ⟨v,hv,hs⟩:=h.slot t _ hp
   exact ⟨.tmp t,by rw [evalV_tmp hv];exact hs⟩
 | const v=>injection hp with hp;subst hp;exact ⟨.tmp 0,slot_of_rel (rel_constPV g w v) (rel_constPV g w v).plain⟩
 | func f=>
  injection hp with hp;subst hp
  exact ⟨.tmp 0,Rel.fn _ [] [] #[] #[] rfl rfl (fun _ hi=>by simp at hi) (fun _ hi=>by simp at hi)⟩
 | global _=>cases hp
theorem int_val {P:Program} {st:St} {g:Gh} {vs:Array Value} {w:World} (h:Inv P g st vs w) {o:Operand} {n:Int} (hp:st.int o=some n):∃k,evalV vs o=.int k n:=by
 simp only [St.int] at hp
 split at hp
 ·rename_i k m hx
  injection hp with hp
  subst hp
  obtain ⟨p,hs⟩:=peek_slot h hx
  have hs:Rel g w _ _:=hs
  refine ⟨k,?_⟩
  generalize evalV vs o=u at hs
  cases hs
  rfl
 ·cases hp
theorem bool_val {P:Program} {st:St} {g:Gh} {vs:Array Value} {w:World} (h:Inv P g st vs w) {o:Operand} {b:Bool} (hp:st.bool o=some b):evalV vs o=.bool b:=by
 simp only [St.bool] at hp
 split at hp
 ·rename_i m hx
  injection hp with hp
  subst hp
  obtain ⟨p,hs⟩:=peek_slot h hx
  have hs:Rel g w _ _:=hs
  generalize evalV vs o=u at hs
  cases hs
  rfl
 ·cases hp
theorem slot_rel {P:Program} {st:St} {g:Gh} {vs:Array Value} {w:World} {p:Plc} {x:PV} {v:Value} (h:Slot P st g vs w p x v) (ho:x.isOwn=false) (ha:x.noAl=true) (hd:x≠.dead):Rel g w x v:=by
 cases x with
 | sl fl n xs=>
  cases fl with
  | view=>exact h
  | own e=>simp [PV.isOwn,Flag.isOwn] at ho
  | excl e=>simp [PV.isOwn,Flag.isOwn] at ho
 | alias _=>simp [PV.noAl] at ha
 | elem _ _ _=>simp [PV.noAl] at ha
 | dead=>exact absurd rfl hd
 | _=>exact h
theorem val_slot {P:Program} {st:St} {g:Gh} {vs:Array Value} {w:World} {p:Plc} {x:PV} {u v:Value} (h:x.val=some u) (hs:Slot P st g vs w p x v):v=u:=by
 by_cases ho:x.isOwn=true
 ·cases x with
  | sl fl n xs=>
   have hr:=slot_sl hs
   cases n with
   | false=>simp [PV.val,PV.lit?] at h
   | true=>
    obtain ⟨s,xs⟩:=xs
    cases xs with
    | cons y ys=>simp [PV.val,PV.lit?] at h
    | nil=>
     simp only [PV.val,PV.lit?,Option.some.injEq] at h
     rcases hr with ⟨_,hv⟩ | ⟨hn,_⟩
     ·rw [hv,h]
     ·cases hn
  | _=>simp [PV.isOwn] at ho
 ·refine val_rel h (slot_rel hs (by simpa using ho) ?_ ?_)
  ·cases x <;> first | rfl | simp [PV.val,PV.lit?] at h
  ·rintro rfl;simp [PV.val,PV.lit?] at h
theorem putP_share_n {st:St} {p:Plc} {x:PV}:(st.putP p x).n=st.n:=by cases p <;> rfl
theorem useP_sound {P:Program} {st st1:St} {g:Gh} {vs:Array Value} {w:World} (h:Inv P g st vs w) {p:Plc} {x:PV} (hu:st.useP p=some (x,st1)) :
  ∃g' v,Inv P g' st1 vs w∧Ext g g' w w∧realAt g vs w p=some v∧Rel g' w x v∧g'.rho=g.rho∧st1.n=st.n:=by
 unfold St.useP at hu
 split at hu
 ·rename_i fl xs hc
  split at hu
  ·rename_i ho
   injection hu with hu
   injection hu with h1 h2
   subst h1;subst h2
   obtain ⟨g',v,k1,k2,k3,k4,k5⟩:=h.share hc ho
   obtain ⟨v',hv',_⟩:=contentAt_real h hc
   refine ⟨g',v,k1,k2,?_,k4,k5,putP_share_n⟩
   rw [←k3]
   cases p with
   | tmp t=>rfl
   | cell id off=>simp only [realAt,k5]
  ·rename_i ho
   injection hu with hu
   injection hu with h1 h2
   subst h1;subst h2
   obtain ⟨v,hv,hs⟩:=contentAt_real h hc
   exact ⟨g,v,h,Ext.refl _ _,hv,slot_rel hs (by simpa [PV.isOwn] using ho) rfl (by simp),rfl,rfl⟩
 ·rename_i fl xs hc
  injection hu with hu
  injection hu with h1 h2
  subst h1;subst h2
  obtain ⟨v,hv,hs⟩:=contentAt_real h hc
  have:=slot_sl hs
  rcases this with ⟨_,e⟩ | ⟨e,_⟩
  ·subst e
   exact ⟨g,_,h,Ext.refl _ _,hv,.slnil _ _,rfl,rfl⟩
  ·cases e
 ·cases hu
 ·cases hu
 ·cases hu
 ·rename_i y n1 n2 n3 n4 n5 hc
  injection hu with hu
  injection hu with h1 h2
  subst h1;subst h2
  obtain ⟨v,hv,hs⟩:=contentAt_real h hc
  refine ⟨g,v,h,Ext.refl _ _,hv,slot_rel hs ?_ ?_ ?_,rfl,rfl⟩
  ·cases y with
   | sl fl n xs=>
    cases n with
    | true=>exact absurd rfl (n2 fl xs)
    | false=>exact absurd rfl (n1 fl xs)
   | _=>rfl
  ·cases y with
   | alias q=>exact absurd rfl (n4 q)
   | elem q k off=>exact absurd rfl (n5 q k off)
   | _=>rfl
  ·rintro rfl;exact n3 rfl
 ·cases hu
theorem use_sound {P:Program} {st st1:St} {g:Gh} {vs:Array Value} {w:World} (h:Inv P g st vs w) {o:Operand} {x:PV} (hu:st.use o=some (x,st1)) :
  ∃g',Inv P g' st1 vs w∧Ext g g' w w∧Rel g' w x (evalV vs o)∧g'.rho=g.rho∧st1.n=st.n:=by
 cases o with
 | tmp t=>
  simp only [St.use] at hu
  split at hu
  ·rename_i q hq
   obtain ⟨g',v,k1,k2,k3,k4,k5⟩:=useP_sound h hu
   obtain ⟨v',hv',hs⟩:=h.slot t _ hq
   obtain ⟨_,hreal⟩:=hs
   rw [hreal] at k3
   injection k3 with k3
   subst k3
   exact ⟨g',k1,k2,by rw [evalV_tmp hv'];exact k4,k5⟩
  ·obtain ⟨g',v,k1,k2,k3,k4,k5⟩:=useP_sound h hu
   exact ⟨g',k1,k2,by rw [evalV_tmp k3];exact k4,k5⟩
 | const v=>
  injection hu with hu
  injection hu with h1 h2
  subst h1;subst h2
  exact ⟨g,h,Ext.refl _ _,rel_constPV g w v,rfl,rfl⟩
 | func f=>
  injection hu with hu
  injection hu with h1 h2
  subst h1;subst h2
  exact ⟨g,h,Ext.refl _ _,Rel.fn _ [] [] #[] #[] rfl rfl (fun _ hi=>by simp at hi) (fun _ hi=>by simp at hi),rfl,rfl⟩
 | global _=>cases hu
theorem setD_rel {P:Program} {st st':St} {g:Gh} {vs:Array Value} {w:World} (h:Inv P g st vs w) {d:Option Tmp} {x:PV} {v:Value} (hs:st.setD d x=some st') (hr:Rel g w x v):Inv P g st' (putT vs d v) w:=by
 cases d with
 | none=>injection hs with hs;subst hs;exact h
 | some d=>
  simp only [St.setD] at hs
  split at hs
  ·rename_i hd
   injection hs with hs
   subst hs
   exact h.setRel hd hr.plain hr
  ·cases hs
theorem plc_slot {P:Program} {st:St} {g:Gh} {vs:Array Value} {w:World} (h:Inv P g st vs w) {o:Operand} {q:Plc} (hp:st.plc o=some q) :
  ∃fl n xs,contentAt st q=some (.sl fl n xs)∧fl.isOwn=true∧realAt g vs w q=some (evalV vs o)∧st.peek o=some (.sl fl n xs):=by
 cases o with
 | tmp t=>
  simp only [St.plc] at hp
  split at hp
  ·rename_i q' hq
   injection hp with hp
   subst hp
   obtain ⟨v,hv,⟨fl,n,xs,k1,k2⟩,k3⟩:=h.slot t _ hq
   exact ⟨fl,n,xs,k1,k2,by rw [evalV_tmp hv];exact k3,by simp only [St.peek,hq];exact k1⟩
  ·rename_i fl n xs hq
   split at hp
   ·rename_i ho
    injection hp with hp
    subst hp
    obtain ⟨v,hv,hs⟩:=h.slot t _ hq
    exact ⟨fl,n,xs,hq,ho,by rw [evalV_tmp hv];exact hv,by simp only [St.peek,hq]⟩
   ·cases hp
  ·cases hp
 | const _=>cases hp
 | func _=>cases hp
 | global _=>cases hp
def BoxKeep (g:Gh) (w w':World):Prop:=∀id b:Nat,g.rho[id]? = some b→g.ow b=some (.box id)→w'.heap[b]? = w.heap[b]?
theorem BoxKeep.refl (g:Gh) (w:World):BoxKeep g w w:=fun _ _ _ _=>rfl
def keepKind:Op→Bool
 | .store ..=>false
 | .box ..=>false
 | .insert ..=>false
 | .mapUpdate ..=>false
 | _=>true
theorem BoxKeep.alloc {P:Program} {st:St} {g:Gh} {vs:Array Value} {w:World} (h:Inv P g st vs w) (o:Obj):BoxKeep g w (w.alloc o):=fun id b hb ho=>by
 have hlt:=h.olt b _ ho
 simp only [World.alloc]
 rw [Array.getElem?_push,if_neg (by omega)]
def OpOk (P:Program) (o:Oper) (vs:Array Value) (w:World) (g:Gh) (st':St):Prop:=
 ∃r v w' g',(execOp (evalV vs) o).run P w=.ok r w'∧(r=.value v∨(r=.skip∧v=undef))∧Inv P g' st' (putT vs o.dst v) w'∧Ext g g' w w'∧(keepKind o.op=true→BoxKeep g w w')
theorem OpOk.rel {P:Program} {o:Oper} {vs:Array Value} {w:World} {g g1:Gh} {st1 st':St} {x:PV} {v:Value} (h:Inv P g1 st1 vs w) (hE:Ext g g1 w w)
  (hrun:(execOp (evalV vs) o).run P w=.ok (.value v) w) (hs:st1.setD o.dst x=some st') (hr:Rel g1 w x v):OpOk P o vs w g st':=
 ⟨_,v,w,g1,hrun,.inl rfl,setD_rel h hs hr,hE,fun _=>.refl _ _⟩
theorem setD_alias {P:Program} {st st':St} {g:Gh} {vs:Array Value} {w:World} (h:Inv P g st vs w) {d:Option Tmp} {q:Plc} {v:Value} (hs:st.setD d (.alias q)=some st') (hq:∀t,d=some t→q≠.tmp t)
  {fl:Flag} {n:Bool} {xs:Xs} (hc:contentAt st q=some (.sl fl n xs)) (ho:fl.isOwn=true) (hv:realAt g vs w q=some v):Inv P g st' (putT vs d v) w:=by
 cases d with
 | none=>injection hs with hs;subst hs;exact h
 | some d=>
  simp only [St.setD] at hs
  split at hs
  ·rename_i hd
   injection hs with hs
   subst hs
   exact h.setAlias hd (hq d rfl) hc ho hv
  ·cases hs
theorem setD_elem {P:Program} {st st':St} {g:Gh} {vs:Array Value} {w:World} (h:Inv P g st vs w) {d:Option Tmp} {q:Plc} {k off:Nat} {v:Value} (hs:st.setD d (.elem q k off)=some st') (hq:∀t,d=some t→q≠.tmp t)
  {p:Plc} (hsl:Slot P st g vs w p (.elem q k off) v):Inv P g st' (putT vs d v) w:=by
 cases d with
 | none=>injection hs with hs;subst hs;exact h
 | some d=>
  simp only [St.setD] at hs
  split at hs
  ·rename_i hd
   injection hs with hs
   subst hs
   exact h.setElem hd (hq d rfl) hsl
  ·cases hs
theorem tmp_val {P:Program} {st:St} {g:Gh} {vs:Array Value} {w:World} (h:Inv P g st vs w) {t:Nat} {x:PV} (hx:st.get t=some x):vs[t]? = some (evalV vs (.tmp t))∧Slot P st g vs w (.tmp t) x (evalV vs (.tmp t)):=by
 obtain ⟨v,hv,hs⟩:=h.slot t x hx
 rw [evalV_tmp hv]
 exact ⟨hv,hs⟩
theorem move_inv {P:Program} {st st':St} {g:Gh} {vs:Array Value} {w:World} (h:Inv P g st vs w) {x:Operand} {d:Option Tmp} (he:evMove st x d=some st'):Inv P g st' (putT vs d (evalV vs x)) w:=by
 cases x with
 | const v=>exact setD_rel h he (rel_constPV g w v)
 | func f=>exact setD_rel h he (Rel.fn _ [] [] #[] #[] rfl rfl (fun _ hi=>by simp at hi) (fun _ hi=>by simp at hi))
 | global _=>cases he
 | tmp s=>
  simp only [evMove] at he
  split at he
  ·rename_i fl n xs hc
   obtain ⟨hv,hs⟩:=tmp_val h hc
   split at he
   ·rename_i ho
    split at he
    ·cases he
    ·rename_i hd
     exact setD_alias h he (fun t ht e=>by injection e with e;subst e;exact hd ht) hc ho hv
   ·rename_i ho
    exact setD_rel h he (slot_rel hs (by simpa [PV.isOwn] using ho) rfl (by simp))
  ·rename_i q hc
   obtain ⟨hv,⟨fl,n,xs,k1,k2⟩,k3⟩:=tmp_val h hc
   cases d with
   | none=>injection he with he;subst he;exact h
   | some t=>
    simp only at he
    split at he
    ·cases he
    ·rename_i hne
     exact setD_alias h he (fun t' ht=>by injection ht with ht;subst ht;exact hne) k1 k2 k3
  ·rename_i q k off hc
   obtain ⟨hv,hs⟩:=tmp_val h hc
   cases d with
   | none=>injection he with he;subst he;exact h
   | some t=>
    simp only at he
    split at he
    ·cases he
    ·rename_i hne
     exact setD_elem h he (fun t' ht=>by injection ht with ht;subst ht;exact hne) hs
  ·cases he
  ·rename_i y n1 n2 n3 n4 hc
   obtain ⟨hv,hs⟩:=tmp_val h hc
   refine setD_rel h he (slot_rel hs ?_ ?_ ?_)
   ·cases y with
    | sl fl n xs=>exact absurd rfl (n1 fl n xs)
    | _=>rfl
   ·cases y with
    | alias q=>exact absurd rfl (n2 q)
    | elem q k off=>exact absurd rfl (n3 q k off)
    | _=>rfl
   ·rintro rfl;exact n4 rfl
  ·cases he
theorem mvD_inv {P:Program} {st st':St} {g:Gh} {vs:Array Value} {w:World} (h:Inv P g st vs w) {q:Plc} {d:Option Tmp} {fl:Flag} {n:Bool} {xs:Xs} (hc:contentAt st q=some (.sl fl n xs)) (ho:fl.isOwn=true) {v:Value}
  (hv:realAt g vs w q=some v) (he:st.mvD q d=some st'):∃g',Inv P g' st' (putT vs d v) w∧Ext g g' w w:=by
 unfold St.mvD at he
 rw [hc] at he
 cases d with
 | none=>cases he
 | some d=>
  simp only at he
  split at he
  ·rename_i hh
   injection he with he
   subst he
   exact h.moveTmp hh.1 hh.2 hc ho hv
  ·cases he
theorem assign_inv {P:Program} {C:Ctx} {st st':St} {g:Gh} {vs:Array Value} {w:World} (h:Inv P g st vs w) {x:Operand} {d:Option Tmp} (he:evAssign C st x d=some st'):∃g',Inv P g' st' (putT vs d (evalV vs x)) w∧Ext g g' w w:=by
 unfold evAssign at he
 split at he
 ·rename_i q hq
  obtain ⟨fl,n,xs,k1,k2,k3,_⟩:=plc_slot h hq
  cases x with
  | tmp s=>
   simp only at he
   split at he
   ·exact mvD_inv h k1 k2 k3 he
   ·split at he
    ·rename_i y st1 hu
     obtain ⟨g',v,i1,i2,i3,i4,i5,_⟩:=useP_sound h hu
     rw [k3] at i3
     injection i3 with i3
     subst i3
     exact ⟨g',setD_rel i1 he i4,i2⟩
    ·cases he
  | const _=>cases he
  | func _=>cases he
  | global _=>cases he
 ·split at he
  ·rename_i y st1 hu
   obtain ⟨g',i1,i2,i3,_⟩:=use_sound h hu
   exact ⟨g',setD_rel i1 he i3,i2⟩
  ·cases he
theorem move_ok {P:Program} {o:Oper} {st st':St} {g:Gh} {vs:Array Value} {w:World} (h:Inv P g st vs w) {x:Operand} (ho:o.op=.move x) (he:evMove st x o.dst=some st'):OpOk P o vs w g st':=
 ⟨_,evalV vs x,w,g,by simp only [execOp,ho];rfl,.inl rfl,move_inv h he,Ext.refl _ _,fun _=>.refl _ _⟩
theorem assign_ok {P:Program} {C:Ctx} {o:Oper} {st st':St} {g:Gh} {vs:Array Value} {w:World} (h:Inv P g st vs w) {x:Operand} (ho:o.op=.assign x) (he:evAssign C st x o.dst=some st'):OpOk P o vs w g st':=by
 obtain ⟨g',h1,h2⟩:=assign_inv h he
 exact ⟨_,evalV vs x,w,g',by simp only [execOp,ho];rfl,.inl rfl,h1,h2,fun _=>.refl _ _⟩
theorem pick_ok {P:Program} {o:Oper} {st st':St} {g:Gh} {vs:Array Value} {w:World} (h:Inv P g st vs w) {c x y:Operand} (ho:o.op=.pick c x y) (he:evPick st c x y o.dst=some st'):OpOk P o vs w g st':=by
 unfold evPick at he
 split at he
 ·rename_i hb
  have hv:=bool_val h hb
  split at he
  ·rename_i v hx
   obtain ⟨p,hs⟩:=peek_slot h hx
   have e:=val_slot (u:=v) rfl hs
   exact .rel (v:=v) h (Ext.refl _ _) (by simp [execOp,ho,hv,asBool,e]) he (.lit v)
  ·cases he
 ·rename_i hb
  have hv:=bool_val h hb
  split at he
  ·rename_i v hx
   obtain ⟨p,hs⟩:=peek_slot h hx
   have e:=val_slot (u:=v) rfl hs
   exact .rel (v:=v) h (Ext.refl _ _) (by simp [execOp,ho,hv,asBool,e]) he (.lit v)
  ·cases he
 ·cases he
theorem szOf_info {P:Program} {t:TypeId} {n:Nat} (h:szOf P t=some n):∃i,P.info? t=some i∧i.size=n:=by
 unfold szOf at h
 split at h
 ·rename_i i hi
  injection h with h
  exact ⟨i,hi,h⟩
 ·cases h
theorem szOf_cells {P:Program} {t:TypeId} {n:Nat} (h:szOf P t=some n):P.cellsOf t=n:=by
 obtain ⟨i,hi,hn⟩:=szOf_info h
 simp [Program.cellsOf,hi,hn]
theorem run_size {P:Program} {t:TypeId} {n:Nat} (h:szOf P t=some n) (w:World):(sizeOf t).run P w=.ok n w:=by
 obtain ⟨i,hi,hn⟩:=szOf_info h
 simp [sizeOf,typeInfo,hi,hn]
theorem run_agg {P:Program} {t:TypeId} {b:Bool} (h:aggT P t=some b) (w:World):(isAgg t).run P w=.ok b w:=by
 unfold aggT at h
 split at h
 ·rename_i hu;injection h with h;subst h;simp [isAgg,underlying,hu]
 ·rename_i hu;injection h with h;subst h;simp [isAgg,underlying,hu]
 ·rename_i d n1 n2 hu
  injection h with h;subst h
  cases d <;> first | (simp [isAgg,underlying,hu];done) | (rename_i fs;exact absurd rfl (n1 fs)) | (rename_i k e;exact absurd rfl (n2 k e))
 ·cases h
theorem run_zero {P:Program} {t:TypeId} {zs:List PV} (h:zeroPV P t=some zs) (w:World):∃v:Value,(zeroValue t).run P w=.ok v w∧zs=v.cells.toList.map const1:=by
 unfold zeroPV at h
 split at h
 ·rename_i i hi
  split at h
  ·rename_i v hv
   injection h with h
   exact ⟨v,by simp [zeroValue,typeInfo,hi,hv],h.symm⟩
  ·cases h
 ·cases h
theorem run_und {P:Program} {t:TypeId} {d:TypeDesc} (h:P.underlying t=some d) (w:World):(underlying t).run P w=.ok d w:=by simp [underlying,h]
def RelL (g:Gh) (w:World) (cs:List PV) (vs:List Value):Prop:=vs.length=cs.length∧∀i (hi:i<cs.length) (hv:i<vs.length),Rel g w cs[i] vs[i]
theorem RelL.agg {g:Gh} {w:World} {cs:List PV} {vs:List Value} (h:RelL g w cs vs):Rel g w (.agg cs) (.agg vs.toArray):=
 .agg _ _ (by simpa using h.1) fun i hi hv=>by simpa using h.2 i hi (by simpa using hv)
theorem RelL.of_agg {g:Gh} {w:World} {cs:List PV} {vs:Array Value} (h:Rel g w (.agg cs) (.agg vs)):RelL g w cs vs.toList:=by
 cases h with
 | agg _ _ hl hr=>exact ⟨by simpa using hl,fun i hi hv=>by rw [Array.getElem_toList];exact hr i hi (by simpa using hv)⟩
theorem RelL.zero (g:Gh) (w:World) (v:Value):RelL g w (v.cells.toList.map const1) v.cells.toList:=
 ⟨by simp,fun i hi hv=>by simpa using rel_const1 g w _⟩
theorem RelL.single {g:Gh} {w:World} {x:PV} {v:Value} (h:Rel g w x v):RelL g w [x] [v]:=
 ⟨rfl,fun i hi hv=>by simp at hi;subst hi;exact h⟩
theorem RelL.cells {g:Gh} {w:World} {x:PV} {v:Value} (h:Rel g w x v):RelL g w x.cells v.cells.toList:=by
 cases h with
 | agg cs vs hl hr=>exact ⟨by simpa [PV.cells,Value.cells] using hl,fun i hi hv=>by
   have hv':i<vs.size:=by simpa [Value.cells] using hv
   exact hr i hi hv'⟩
 | lit v=>
  cases v with
  | agg cs=>exact RelL.zero g w (.agg cs)
  | _=>exact RelL.single (.lit _)
 | ptr id off b h=>exact RelL.single (.ptr id off b h)
 | nilp=>exact RelL.single .nilp
 | slnil fl s=>exact RelL.single (.slnil fl s)
 | slz s=>exact RelL.single (.slz s)
 | sle s a cap=>exact RelL.single (.sle s a cap)
 | slv x xs hx b o cap s vals a1 a2 a3 a4=>exact RelL.single (.slv x xs hx b o cap s vals a1 a2 a3 a4)
 | tup cs vs a1 a2=>exact RelL.single (.tup cs vs a1 a2)
 | ifc t x v h=>exact RelL.single (.ifc t x v h)
 | fn f fs cs vf vc a1 a2 a3 a4=>exact RelL.single (.fn f fs cs vf vc a1 a2 a3 a4)
 | map id b h=>exact RelL.single (.map id b h)
 | oref id i v hv h=>obtain ⟨t,u,rfl⟩:=hv;exact RelL.single (.oref id i _ ⟨t,u,rfl⟩ h)
 | elemv cs off b o vals a1 a2=>exact RelL.single (.elemv cs off b o vals a1 a2)
theorem RelL.append {g:Gh} {w:World} {cs ds:List PV} {us vs:List Value} (h:RelL g w cs us) (k:RelL g w ds vs):RelL g w (cs++ds) (us++vs):=by
 refine ⟨by simp [h.1,k.1],fun i hi hv=>?_⟩
 rcases Nat.lt_or_ge i cs.length with hl | hl
 ·rw [List.getElem_append_left hl,List.getElem_append_left (by rw [h.1];exact hl)];exact h.2 _ _ _
 ·rw [List.getElem_append_right hl,List.getElem_append_right (by rw [h.1];exact hl)]
  have:i - us.length=i - cs.length:=by rw [h.1]
  simp only [this];exact k.2 _ _ _
theorem RelL.split {g:Gh} {w:World} {cs ds:List PV} {us:List Value} (h:RelL g w (cs++ds) us):∃us1 us2,us=us1++us2∧RelL g w cs us1∧RelL g w ds us2:=by
 obtain ⟨h1,h2⟩:=h
 rw [List.length_append] at h1
 refine ⟨us.take cs.length,us.drop cs.length,(List.take_append_drop _ _).symm,⟨by simp;omega,fun i hi hv=>?_⟩,⟨by simp;omega,fun i hi hv=>?_⟩⟩
 ·have:=h2 i (by simp;omega) (by simp at hv;omega)
  rw [List.getElem_append_left hi] at this
  simpa using this
 ·have:=h2 (cs.length+i) (by simp;omega) (by simp at hv;omega)
  rw [List.getElem_append_right (by omega)] at this
  simp only [Nat.add_sub_cancel_left] at this
  simpa using this
theorem Sh.mk_ok:∀(s:Sh) {l r:List PV} {x:s.den},s.mk l=some (x,r)→∃c,l=c++r∧c.length=s.size∧∀{g:Gh} {w:World} {us:List Value},RelL g w c us→RelL g w (s.cells x) us:=by
 intro s
 induction s with
 | int k=>
  intro l r x h
  simp only [Sh.mk] at h
  split at h <;> try cases h
  split at h
  ·rename_i hk;subst hk;injection h with h;injection h with h1 h2;subst h1;subst h2
   exact ⟨[_],rfl,rfl,fun hr=>hr⟩
  ·cases h
 | bool=>
  intro l r x h
  simp only [Sh.mk] at h
  split at h <;> cases h
  exact ⟨[_],rfl,rfl,fun hr=>hr⟩
 | flt k=>
  intro l r x h
  simp only [Sh.mk] at h
  split at h <;> try cases h
  split at h
  ·rename_i hk;subst hk;injection h with h;injection h with h1 h2;subst h1;subst h2
   exact ⟨[_],rfl,rfl,fun hr=>hr⟩
  ·cases h
 | cpx k=>
  intro l r x h
  simp only [Sh.mk] at h
  split at h <;> try cases h
  split at h
  ·rename_i hk;subst hk;injection h with h;injection h with h1 h2;subst h1;subst h2
   exact ⟨[_],rfl,rfl,fun hr=>hr⟩
  ·cases h
 | str=>
  intro l r x h
  simp only [Sh.mk] at h
  split at h <;> cases h
  exact ⟨[_],rfl,rfl,fun hr=>hr⟩
 | sl e _=>
  intro l r x h
  simp only [Sh.mk] at h
  split at h <;> try cases h
  rename_i fl n xs r'
  split at h
  ·rename_i hn
   injection h with h;injection h with h1 h2;subst h1;subst h2;subst hn
   refine ⟨[_],rfl,rfl,fun {g w us} hr=>?_⟩
   obtain ⟨q1,q2⟩:=hr
   match us,q1,q2 with
   | [u],_,q2=>
    have:=q2 0 (by simp) (by simp)
    simp only [List.getElem_cons_zero] at this
    cases this with
    | slnil=>exact RelL.single (.slz _)
  ·split at h
   ·cases h
   ·rename_i hn ho
    split at h
    ·rename_i he
     injection h with h;injection h with h1 h2;subst h1;subst h2
     have hn:n=false:=by simpa using hn
     have hf:fl=.view:=by cases fl <;> simp [Flag.isOwn] at ho;rfl
     subst hn;subst hf
     obtain ⟨s,l⟩:=xs
     simp only at he
     subst he
     exact ⟨[_],rfl,rfl,fun hr=>hr⟩
    ·cases h
 | cons a b iha ihb=>
  intro l r x h
  simp only [Sh.mk] at h
  split at h
  ·rename_i x1 r1 h1
   split at h
   ·rename_i y1 r2 h2
    injection h with h;injection h with e1 e2;subst e1;subst e2
    obtain ⟨c1,rfl,k2,k3⟩:=iha h1
    obtain ⟨c2,rfl,j2,j3⟩:=ihb h2
    refine ⟨c1++c2,(List.append_assoc _ _ _).symm,by simp [Sh.size,k2,j2],fun {g w us} hr=>?_⟩
    obtain ⟨us1,us2,rfl,m1,m2⟩:=hr.split
    exact (k3 m1).append (j3 m2)
   ·cases h
  ·cases h
 | fz s ih=>
  intro l r x h
  simp only [Sh.mk] at h
  split at h <;> try cases h
  rename_i cs r'
  split at h
  rotate_left
  ·cases h
  rename_i _ _ x' hm
  injection h with h;injection h with h1 h2;subst h1;subst h2
  obtain ⟨c,e1,e2,e3⟩:=ih hm
  rw [List.append_nil] at e1
  subst e1
  refine ⟨[_],rfl,rfl,fun {g w us} hr=>?_⟩
  obtain ⟨q1,q2⟩:=hr
  match us,q1,q2 with
  | [u],_,q2=>
   have:=q2 0 (by simp) (by simp)
   simp only [List.getElem_cons_zero] at this
   cases this with
   | elemv _ _ b o vals hfp hrel=>
    refine RelL.single ?_
    have hl:(s.cells x').length=cs.length:=by rw [s.cells_length,e2]
    have hR:RelL g w (s.cells x') ((List.range cs.length).map vals):=e3 ⟨by simp,fun i hi hv=>by simpa using hrel i hi⟩
    exact .elemv _ 0 b o vals (fun j hj=>hfp j (by omega)) fun j hj=>by
     have:=hR.2 j hj (by simp;omega)
     rwa [List.getElem_map,List.getElem_range] at this
 | oix=>intro l r x h;cases h
 | sum _ _ _ _=>intro l r x h;cases h
 | void=>intro l r x h;cases h
 | unit=>
  intro l r x h
  simp only [Sh.mk] at h
  injection h with h;injection h with h1 h2;subst h2
  exact ⟨[],rfl,rfl,fun hr=>hr⟩
theorem Sh.of_ok {s:Sh} {l:List PV} {x:s.den} (h:s.of l=some x):l.length=s.size∧∀{g:Gh} {w:World} {us:List Value},RelL g w l us→RelL g w (s.cells x) us:=by
 unfold Sh.of at h
 split at h
 ·rename_i y hm
  injection h with h;subst h
  obtain ⟨c,e1,e2,e3⟩:=s.mk_ok hm
  rw [List.append_nil] at e1
  subst e1
  exact ⟨e2,e3⟩
 ·cases h
theorem add_off (b o n:Nat):(⟨b,o,none⟩:Addr).add n=⟨b,o+n,none⟩:=by
 unfold Addr.add
 split
 ·rename_i h;subst h;rfl
 ·rfl
theorem run_load_some {P:Program} {w:World} {a:Addr} {v:Value} (h:w.cell? a=some v):(load a).run P w=.ok v w:=by simp [h]
theorem loadVar_part {P:Program} {g:Gh} {w:World} {t:TypeId} {cs:List PV} {b base off:Nat} {x:PV} (h:partOf P t cs off=some x)
  (hc:∀j (hj:j<cs.length),∃v,w.cell? ⟨b,base+j,none⟩=some v∧Rel g w cs[j] v):∃v,(loadVar t ⟨b,base+off,none⟩).run P w=.ok v w∧Rel g w x v:=by
 unfold partOf at h
 split at h
 ·rename_i n ha hn
  split at h
  ·rename_i hle
   injection h with h
   subst h
   have hf:∀j,j<n→w.cell? ((⟨b,base+off,none⟩:Addr).add j)=some ((w.cell? ⟨b,base+(off+j),none⟩).getD undef):=by
    intro j hj
    obtain ⟨v,hv,_⟩:=hc (off+j) (by omega)
    rw [add_off,Nat.add_assoc,hv];rfl
   refine ⟨.agg (((List.range n).map fun j=>(w.cell? ⟨b,base+(off+j),none⟩).getD undef).toArray),by simp only [loadVar,Sem.run_bind,run_agg ha,Result.andThen_ok,if_true,run_size hn,run_loadCells w _ n _ hf,Sem.run_pure],?_⟩
   refine RelL.agg ⟨by simp;omega,fun i hi hv=>?_⟩
   simp only [List.length_take,List.length_drop] at hi
   obtain ⟨v,hv,hr⟩:=hc (off+i) (by omega)
   simp only [List.getElem_take,List.getElem_drop,List.getElem_map,List.getElem_range,hv]
   exact hr
  ·cases h
 ·rename_i n ha hn
  obtain ⟨hlt,e⟩:=List.getElem?_eq_some_iff.1 h
  obtain ⟨v,hv,hr⟩:=hc off hlt
  exact ⟨v,by simp only [loadVar,Sem.run_bind,run_agg ha,Result.andThen_ok,Bool.false_eq_true,if_false,run_load_some hv],by rw [←e];exact hr⟩
 ·cases h
theorem part_part {P:Program} {g:Gh} {w:World} {t:TypeId} {cs:List PV} {us:Array Value} {off:Nat} {x:PV} (h:partOf P t cs off=some x)
  (hr:RelL g w cs us.toList):∃v,(part t us off).run P w=.ok v w∧Rel g w x v:=by
 have hl:us.size=cs.length:=by simpa using hr.1
 unfold partOf at h
 split at h
 ·rename_i n ha hn
  split at h
  ·rename_i hle
   injection h with h
   subst h
   refine ⟨.agg (us.extract off (off+n)),by simp only [part,Sem.run_bind,run_agg ha,Result.andThen_ok,if_true,run_size hn,Sem.run_pure],?_⟩
   refine .agg _ _ (by simp;omega) fun i hi hv=>?_
   simp only [List.length_take,List.length_drop] at hi
   have:=hr.2 (off+i) (by omega) (by simpa using (by omega:off+i<us.size))
   simpa using this
  ·cases h
 ·rename_i n ha hn
  obtain ⟨hlt,e⟩:=List.getElem?_eq_some_iff.1 h
  have hu:us[off]? = some (us[off]'(by omega)):=Array.getElem?_eq_getElem (by omega)
  refine ⟨us[off]'(by omega),by simp only [part,Sem.run_bind,run_agg ha,Result.andThen_ok,Bool.false_eq_true,if_false,hu,Sem.run_pure],?_⟩
  have:=hr.2 off hlt (by simpa using (by omega:off<us.size))
  rw [←e]
  simpa using this
 ·cases h
theorem takeC_sound {P:Program} {vs:Array Value} {w:World} {id:Nat}:∀{n off:Nat} {st st1:St} {cs:List PV} {g:Gh},Inv P g st vs w→st.takeC id off n=some (cs,st1)→
  ∃g' us,Inv P g' st1 vs w∧Ext g g' w w∧RelL g' w cs us∧g'.rho=g.rho∧st1.n=st.n∧us.length=n∧∀j (hj:j<us.length),realAt g vs w (.cell id (off+j))=some us[j]:=by
 intro n
 induction n with
 | zero=>
  intro off st st1 cs g h he
  injection he with he
  injection he with h1 h2
  subst h1;subst h2
  exact ⟨g,[],h,Ext.refl _ _,⟨rfl,fun i hi=>by simp at hi⟩,rfl,rfl,rfl,fun j hj=>by simp at hj⟩
 | succ n ih=>
  intro off st st1 cs g h he
  simp only [St.takeC] at he
  split at he
  ·rename_i x st2 hu
   split at he
   ·rename_i xs st3 ht
    injection he with he
    injection he with h1 h2
    subst h1;subst h2
    obtain ⟨g1,v,i1,i2,i3,i4,i5,i6⟩:=useP_sound h hu
    obtain ⟨g2,us,j1,j2,j3,j4,j5,j6,j7⟩:=ih i1 ht
    refine ⟨g2,v :: us,j1,i2.trans j2,⟨by simp [j3.1],?_⟩,j4.trans i5,j5.trans i6,by simp [j6],?_⟩
    ·intro i hi hv
     cases i with
     | zero=>exact i4.ext j2
     | succ i=>exact j3.2 i (by simpa using hi) (by simpa using hv)
    ·intro j hj
     cases j with
     | zero=>simpa using i3
     | succ j=>
      have:=j7 j (by simpa using hj)
      simp only [realAt,i5] at this ⊢
      rw [show off+(j+1)=off+1+j by omega]
      simpa using this
   ·cases he
  ·cases he
theorem run_loadCells_at {P:Program} {w:World} {b off:Nat} {us:List Value} (h:∀j (hj:j<us.length),w.cell? ⟨b,off+j,none⟩=some us[j]):(loadCells ⟨b,off,none⟩ us.length).run P w=.ok us.toArray w:=by
 refine run_loadCells_list w _ us fun j v hj=>?_
 obtain ⟨h1,h2⟩:=List.getElem?_eq_some_iff.1 hj
 rw [add_off,h j h1,h2]
theorem load_ok {P:Program} {o:Oper} {st st':St} {g:Gh} {vs:Array Value} {w:World} (h:Inv P g st vs w) {t:TypeId} {x:Operand} (ho:o.op=.load t x) (he:evLoad P st t x o.dst=some st') (hd:∀t,o.dst=some t→∀id off,Plc.cell id off≠.tmp t):OpOk P o vs w g st':=by
 have hrun:∀{v w'} {b q},evalV vs x=.pointer (some ⟨b,q,none⟩)→(loadVar t ⟨b,q,none⟩).run P w=.ok v w'→(execOp (evalV vs) o).run P w=.ok (.value v) w':=by
  intro v w' b q h1 h2
  simp [execOp,ho,Instr.loadAt,Instr.sureAddr,h1,h2]
 unfold evLoad at he
 split at he
 ·rename_i id off hp
  obtain ⟨p,hs⟩:=peek_slot h hp
  have hs:Rel g w _ _:=hs
  generalize hev:evalV vs x=u at hs
  cases hs with
  | ptr _ _ b hb=>
   split at he
   ·rename_i n ha hn
    split at he
    ·rename_i cs st1 ht
     obtain ⟨g1,us,i1,i2,i3,i4,i5,i6,i7⟩:=takeC_sound h ht
     have hc:∀j (hj:j<us.length),w.cell? ⟨b,off+j,none⟩=some us[j]:=by
      intro j hj
      have:=i7 j hj
      simpa only [realAt,hb] using this
     refine .rel (v:=.agg us.toArray) i1 i2 (hrun hev ?_) he (RelL.agg i3)
     subst i6
     simp only [loadVar,Sem.run_bind,run_agg ha,Result.andThen_ok,if_true,run_size hn,run_loadCells_at hc,Sem.run_pure]
    ·cases he
   ·rename_i n ha hn
    have hload:∀{v},realAt g vs w (.cell id off)=some v→(execOp (evalV vs) o).run P w=.ok (.value v) w:=by
     intro v hv
     simp only [realAt,hb] at hv
     exact hrun hev (by simp only [loadVar,Sem.run_bind,run_agg ha,Result.andThen_ok,Bool.false_eq_true,if_false,run_load_some hv])
    split at he
    ·rename_i fl n xs hc
     obtain ⟨v,hv,hsl⟩:=contentAt_real h hc
     split at he
     ·rename_i hown
      exact ⟨_,v,w,g,hload hv,.inl rfl,setD_alias h he (fun t ht=>hd t ht id off) hc hown hv,Ext.refl _ _,fun _=>.refl _ _⟩
     ·rename_i hown
      exact .rel h (Ext.refl _ _) (hload hv) he (slot_rel hsl (by simpa [PV.isOwn] using hown) rfl (by simp))
    ·cases he
    ·cases he
    ·cases he
    ·rename_i y n1 n2 n3 n4 hc
     obtain ⟨v,hv,hsl⟩:=contentAt_real h hc
     refine .rel h (Ext.refl _ _) (hload hv) he (slot_rel hsl ?_ ?_ ?_)
     ·cases y with
      | sl fl n xs=>exact absurd rfl (n1 fl n xs)
      | _=>rfl
     ·cases y with
      | alias q=>exact absurd rfl (n3 q)
      | elem q k off=>exact absurd rfl (n4 q k off)
      | _=>rfl
     ·rintro rfl;exact n2 rfl
    ·cases he
   ·cases he
 ·rename_i q k off hp
  obtain ⟨p,hs⟩:=peek_slot h hp
  obtain ⟨fl,xs,b,cap,k1,k2,k3,k4,k5⟩:=hs
  split at he
  ·rename_i cs hec
   simp only [elemCells,k1,k2,if_true] at hec
   have hec:xs.els[k]? = some cs:=by
    simp only [Xs.els,List.getElem?_map]
    split at hec
    ·rename_i x' hx';rw [hx'];exact hec
    ·cases hec
   split at he
   ·rename_i y hpart
    obtain ⟨v0,hv0,hok⟩:=own_at h k1 k2
    rw [k3] at hv0
    injection hv0 with hv0
    subst hv0
    rcases hok with ⟨_,hn⟩ | ⟨_,b',cap',hbv,hb⟩
    ·cases hn
    ·injection hbv with e1 _ _
     injection e1 with e1
     injection e1 with e1 _
     subst e1
     obtain ⟨hlt,hxe⟩:=List.getElem?_eq_some_iff.1 hec
     obtain ⟨v,hv,hr⟩:=loadVar_part (b:=b) (base:=k*P.cellsOf fl.e) hpart (fun j hj=>by
      obtain ⟨v,e1,e2⟩:=hb.el.2 k j hlt (by rw [hxe];exact hj)
      refine ⟨v,by simpa using e1,?_⟩
      subst hxe
      exact e2)
     exact .rel h (Ext.refl _ _) (hrun k5 hv) he hr
   ·cases he
  ·cases he
 ·rename_i cs off hp
  obtain ⟨p,hs⟩:=peek_slot h hp
  have hs:Rel g w _ _:=hs
  generalize hev:evalV vs x=u at hs
  cases hs with
  | elemv _ _ b o' vals hfp hrel=>
   split at he
   ·rename_i y hpart
    obtain ⟨v,hv,hr⟩:=loadVar_part (g:=g) (w:=w) (b:=b) (base:=o') hpart (fun j hj=>⟨_,(hfp j hj).2,hrel j hj⟩)
    exact .rel h (Ext.refl _ _) (hrun hev hv) he hr
   ·cases he
 ·cases he
theorem one_val {g:Gh} {w:World} {x:PV} {v:Value} (h:Rel g w x v) (ho:x.one=true):(∀cs,v≠.agg cs)∧∀cs,v≠.tuple cs:=by
 cases h with
 | lit v=>cases v <;> simp [PV.one] at ho ⊢
 | agg=>simp [PV.one] at ho
 | tup=>simp [PV.one] at ho
 | oref i j v hv h=>obtain ⟨t,u,rfl⟩:=hv;exact ⟨fun _ e=>(by cases e),fun _ e=>(by cases e)⟩
 | _=>exact ⟨fun _ e=>(by cases e),fun _ e=>(by cases e)⟩
theorem run_store1 {P:Program} {w:World} {b off:Nat} {u v:Value} (hc:w.cell? ⟨b,off,none⟩=some u) (hf:w.frozen? ⟨b,off,none⟩=false) (h1:∀cs,v≠.agg cs) (h2:∀cs,v≠.tuple cs) :
  (store ⟨b,off,none⟩ v).run P w=.ok () (w.setCell ⟨b,off,none⟩ v):=by
 cases v with
 | agg cs=>exact absurd rfl (h1 cs)
 | tuple cs=>exact absurd rfl (h2 cs)
 | _=>simp [store,Sem.run,hc,hf]
theorem unfz_frozen {w:World} {b:Nat} {c:Array Value} {ty:TypeId} {fz:Nat×Nat} (h:w.heap[b]? = some (.cells c ty fz)) (hz:Unfz fz c.size) {i:Nat} (hi:i<c.size):w.frozen? ⟨b,i,none⟩=false:=by
 obtain ⟨lo,hi'⟩:=fz
 simp only [World.frozen?,h]
 have:=hz i hi
 simp only at this
 by_cases h1:lo≤i <;> by_cases h2:i<hi' <;> simp [h1,h2]
 exact this ⟨h1,h2⟩
theorem putC_sound {P:Program} {vs:Array Value} {g:Gh} {id b:Nat} (hb:g.rho[id]? = some b):∀{xs:List PV} {us:List Value} {i off0:Nat} {st st':St} {w:World},Inv P g st vs w→RelL g w xs us→st.putC id (off0+i) xs=some st'→
  ∃w',(storeCells ⟨b,off0,none⟩ us i).run P w=.ok () w'∧Inv P g st' vs w'∧Ext g g w w':=by
 intro xs
 induction xs with
 | nil=>
  intro us i off0 st st' w h hr he
  injection he with he
  subst he
  have:us=[]:=List.eq_nil_of_length_eq_zero hr.1
  subst this
  exact ⟨w,by simp [storeCells],h,Ext.refl _ _⟩
 | cons x xs ih=>
  intro us i off0 st st' w h hr he
  cases us with
  | nil=>have:=hr.1;simp at this
  | cons u us=>
   simp only [St.putC,nrmB_eq] at he
   split at he
   ·rename_i y hc
    split at he
    ·rename_i hone
     have hru:Rel g w x u:=hr.2 0 (by simp) (by simp)
     obtain ⟨n1,n2⟩:=one_val hru hone
     have hc0:=hc
     simp only [contentAt] at hc
     split at hc
     ·rename_i ty cs hσ
      obtain ⟨c,fz,hblk,hz,hcs,hx⟩:=h.box id ty cs b hσ hb
      have hlt:off0+i<cs.length:=(List.getElem?_eq_some_iff.1 hc).1
      obtain ⟨k1,k2⟩:=h.storeRel (off:=off0+i) hσ hb hru.plain hru
      obtain ⟨w',r1,r2,r3⟩:=ih (i:=i+1) (off0:=off0) k1 ⟨by simpa using hr.1,fun j hj hv=>(hr.2 (j+1) (by simpa using hj) (by simpa using hv)).ext k2⟩ he
      refine ⟨w',?_,r2,k2.trans r3⟩
      have hcell:w.cell? ⟨b,off0+i,none⟩=some (c[off0+i]'(by omega)):=by
       simp only [World.cell?,hblk]
       simp [show off0+i<c.size by omega]
      simp only [storeCells,Sem.run_bind,add_off,run_store1 hcell (unfz_frozen hblk hz (by omega)) n1 n2,Result.andThen_ok]
      exact r1
     ·cases hc
    ·cases he
   ·cases he
theorem putL_sound {P:Program} {g:Gh} {p:Plc} {b k cap:Nat} {e:TypeId}:∀{xs:List PV} {us:List Value} {i off0:Nat} {w:World} {ys:List (List PV)},OwnBlk P g w p true e ys b cap→(hk:k<ys.length)→off0+i+xs.length≤ys[k].length→
  xs.all PV.one=true→RelL g w xs us→
  ∃w',(storeCells ⟨b,k*P.cellsOf e+off0,none⟩ us i).run P w=.ok () w'∧OwnBlk P g w' p true e (ys.set k (setRange ys[k] (off0+i) xs)) b cap∧Chg (fun o=>o=.plc p) g g w w'∧w'.heap.size=w.heap.size:=by
 intro xs
 induction xs with
 | nil=>
  intro us i off0 w ys hb hk _ _ hr
  have:us=[]:=List.eq_nil_of_length_eq_zero hr.1
  subst this
  refine ⟨w,by simp [storeCells],?_,Chg.refl _ _ _,rfl⟩
  simp only [setRange,List.set_getElem_self]
  exact hb
 | cons x xs ih=>
  intro us i off0 w ys hb hk hl h1 hr
  simp only [List.length_cons] at hl
  simp only [List.all_cons,Bool.and_eq_true] at h1
  cases us with
  | nil=>have:=hr.1;simp at this
  | cons u us=>
   have hru:Rel g w x u:=hr.2 0 (by simp) (by simp)
   obtain ⟨n1,n2⟩:=one_val hru h1.1
   have hoff:off0+i<ys[k].length:=by omega
   obtain ⟨k1,k2⟩:=hb.set hk hoff hru
   have hk':k<(ys.set k (ys[k].set (off0+i) x)).length:=by simpa using hk
   obtain ⟨w',r1,r2,r3,r4⟩:=ih (i:=i+1) (off0:=off0) k1 hk' (by simp;omega) h1.2 ⟨by simpa using hr.1,fun j hj hv=>(hr.2 (j+1) (by simpa using hj) (by simpa using hv)).ext k2.ext⟩
   refine ⟨w',?_,?_,k2.trans r3,by rw [r4,size_setCell]⟩
   ·obtain ⟨cc,fz,hblk,hsz,hz⟩:=hb.blk
    obtain ⟨v4,e4,_⟩:=hb.el.2 k (off0+i) hk hoff
    have hcell:w.cell? ⟨b,k*P.cellsOf e+(off0+i),none⟩=some v4:=by
     rw [show k*P.cellsOf e+(off0+i)=0+k*P.cellsOf e+(off0+i) by omega]
     exact e4
    have hin:k*P.cellsOf e+(off0+i)<cc.size:=by
     simp only [World.cell?,hblk] at hcell
     simp only [Option.isSome_none,Bool.false_eq_true,if_false] at hcell
     exact (Array.getElem?_eq_some_iff.1 hcell).1
    simp only [storeCells,Sem.run_bind,add_off,Nat.add_assoc,run_store1 hcell (unfz_frozen hblk hz hin) n1 n2,Result.andThen_ok]
    exact r1
   ·simpa [setRange,Nat.add_assoc] using r2
theorem Elems.upd {g:Gh} {w:World} {b o s k:Nat} {xs:List (List PV)} {c c':List PV} (h:Elems g w b o s (xs.set k c)) (hk:k<xs.length) (hc:c'.length=c.length) (hr:∀us,RelL g w c us→RelL g w c' us):Elems g w b o s (xs.set k c'):=by
 have hs:c.length=s:=by have:=h.1 k (by simpa using hk);simpa using this
 refine ⟨fun i hi=>?_,fun i j hi hj=>?_⟩
 ·by_cases e:k=i
  ·subst e;simp;omega
  ·rw [List.getElem_set_ne e]
   have:=h.1 i (by simpa using hi)
   rwa [List.getElem_set_ne e] at this
 ·by_cases e:k=i
  ·subst e
   simp only [List.getElem_set_self] at hj ⊢
   have key:∀q (hq:q<c.length),∃v,w.cell? ⟨b,o+k*s+q,none⟩=some v∧Rel g w c[q] v:=fun q hq=>by
    have:=h.2 k q (by simpa using hk) (by simpa using hq)
    simpa using this
   have hR:RelL g w c ((List.range c.length).map fun q=>(w.cell? ⟨b,o+k*s+q,none⟩).getD undef):=⟨by simp,fun q hq hv=>by
    obtain ⟨v,e1,e2⟩:=key q hq
    simp only [List.getElem_map,List.getElem_range,e1,Option.getD_some];exact e2⟩
   have hj':j<c.length:=by omega
   obtain ⟨v,e1,_⟩:=key j hj'
   refine ⟨v,e1,?_⟩
   have:=(hr _ hR).2 j hj (by simpa using hj')
   simpa [e1] using this
  ·simp only [List.getElem_set_ne e] at hj ⊢
   have:=h.2 i j (by simpa using hi) (by rw [List.getElem_set_ne e];exact hj)
   simpa only [List.getElem_set_ne e] using this
theorem putE_sound {P:Program} {vs:Array Value} {g:Gh} {p:Plc} {b k off cap:Nat} {ys:List PV} {us:List Value} {st st':St} {w:World} {e:TypeId} {xs:Xs} (h:Inv P g st vs w) (hc:contentAt st p=some (.sl (.excl e) false xs))
  (hv:realAt g vs w p=some (.slice (some ⟨b,0,none⟩) xs.els.length cap)) (hr:RelL g w ys us) (he:st.putE p k off ys=some st') :
  ∃w',(storeCells ⟨b,k*P.cellsOf e+off,none⟩ us 0).run P w=.ok () w'∧Inv P g st' vs w'∧Ext g g w w':=by
 unfold St.putE at he
 rw [hc] at he
 simp only at he
 split at he
 ·rename_i x hx
  split at he
  ·rename_i hcond
   split at he
   ·rename_i y hy
    injection he with he
    subst he
    obtain ⟨v3,e3,hok⟩:=own_at h hc rfl
    rw [hv] at e3
    injection e3 with e3
    subst e3
    rcases hok with ⟨_,hn⟩ | ⟨_,b',cap',hbv,hb⟩
    ·cases hn
    ·injection hbv with f1 _ f2
     injection f1 with f1
     injection f1 with f1 _
     subst f1;subst f2
     have hb:OwnBlk P g w p true e xs.els b cap:=hb
     obtain ⟨hlt,hxe⟩:=List.getElem?_eq_some_iff.1 hx
     have hk:k<xs.els.length:=by simpa [Xs.els] using hlt
     have hel:xs.els[k]=xs.sh.cells x:=by simp [Xs.els,hxe]
     obtain ⟨w',r1,r2,r3,r4⟩:=putL_sound (i:=0) (off0:=off) hb hk (by rw [hel,Sh.cells_length];exact hcond.1) hcond.2 hr
     refine ⟨w',r1,?_,r3.ext⟩
     have hzs:(Xs.els ⟨xs.sh,xs.l.set k y⟩)=xs.els.set k (xs.sh.cells y):=by simp only [Xs.els,List.map_set]
     refine h.ownChg hc hv (by rw [hzs,List.length_set]) r3 ?_ r4
     rw [hzs]
     rw [hel,Nat.add_zero] at r2
     obtain ⟨o1,o2⟩:=Sh.of_ok hy
     exact ⟨by simpa using r2.hcap,r2.blk,r2.ow,r2.el.upd hk (by rw [o1,Sh.cells_length]) fun us hu=>o2 hu,r2.ex_,fun i hi=>r2.ex_ rfl i⟩
   ·cases he
  ·cases he
 ·cases he
theorem own_slice {P:Program} {g:Gh} {w:World} {p:Plc} {ex:Bool} {e:TypeId} {n:Bool} {xs:List (List PV)} {v:Value} (h:OwnOk P g w p ex e n xs v):∃a l c,v=.slice a l c:=by
 rcases h with ⟨_,_,rfl⟩ | ⟨_,b,cap,rfl,_⟩
 ·exact ⟨_,_,_,rfl⟩
 ·exact ⟨_,_,_,rfl⟩
theorem store_inv {P:Program} {st st1:St} {g:Gh} {vs:Array Value} {w:World} (h:Inv P g st vs w) {t:TypeId} {a x:Operand} (he:evStore P st t a x=some st1) :
  ∃w' g',(Instr.storeAt t (evalV vs a) (evalV vs x)).run P w=.ok () w'∧Inv P g' st1 vs w'∧Ext g g' w w':=by
 unfold evStore at he
 split at he
 ·rename_i id off n hp hn
  obtain ⟨p,hs⟩:=peek_slot h hp
  have hs:Rel g w _ _:=hs
  generalize hev:evalV vs a=u at hs
  cases hs with
  | ptr _ _ b hb=>
   split at he
   ·rename_i q hq
    obtain ⟨fl,m,xs,k1,k2,k3,k4⟩:=plc_slot h hq
    split at he
    ·rename_i hh
     obtain ⟨rfl,hne⟩:=hh
     rw [k1] at he
     split at he
     ·rename_i y0 y hc0 hy
      injection hy with hy
      subst hy
      have hslice:∃aa l c,evalV vs x=.slice aa l c:=by
       obtain ⟨v,hv,hok⟩:=own_at h k1 k2
       rw [k3] at hv
       injection hv with hv
       subst hv
       exact own_slice hok
      obtain ⟨aa,ll,cc,hsl⟩:=hslice
      have hcc:=hc0
      simp only [contentAt] at hc0
      split at hc0
      ·rename_i ty cs hσ
       obtain ⟨c,fz,hblk,hz,hcs,hx⟩:=h.box id ty cs b hσ hb
       have hlt:off<cs.length:=(List.getElem?_eq_some_iff.1 hc0).1
       have hcell:w.cell? ⟨b,off,none⟩=some (c[off]'(by omega)):=by
        simp only [World.cell?,hblk]
        simp [show off<c.size by omega]
       have hrun:(Instr.storeAt t (.pointer (some ⟨b,off,none⟩)) (evalV vs x)).run P w=.ok () (w.setCell ⟨b,off,none⟩ (evalV vs x)):=by
        have h1:=run_store1 (P:=P) hcell (unfz_frozen hblk hz (by omega)) (v:=evalV vs x) (by rw [hsl];intro _ e;cases e) (by rw [hsl];intro _ e;cases e)
        simp only [Instr.storeAt,Instr.sureAddr,storeVar,Sem.run_bind,Sem.run_pure,Result.andThen_ok,run_size hn]
        rw [if_neg (by rw [hsl];simp [Value.cells])]
        rw [hsl] at h1 ⊢
        simp only [Value.cells,storeCells,Sem.run_bind,add_off,Nat.add_zero,h1,Result.andThen_ok,Sem.run_pure]
       split at he
       ·rename_i s
        split at he
        ·injection he with he
         subst he
         obtain ⟨g',i1,i2⟩:=h.moveCell hσ hlt hb hne k1 k2 k3
         exact ⟨_,g',hrun,i1,i2⟩
        ·split at he
         ·rename_i z st2 hu
          obtain ⟨g',v,i1,i2,i3,i4,i5,_⟩:=useP_sound h hu
          rw [k3] at i3
          injection i3 with i3
          subst i3
          have hb':g'.rho[id]? = some b:=by rw [i5];exact hb
          obtain ⟨w',r1,r2,r3⟩:=putC_sound hb' (i:=0) (off0:=off) i1 (RelL.single i4) (by simpa using he)
          refine ⟨w',g',?_,r2,i2.trans r3⟩
          simp only [Instr.storeAt,Instr.sureAddr,storeVar,Sem.run_bind,Sem.run_pure,Result.andThen_ok,run_size hn]
          rw [if_neg (by rw [hsl];simp [Value.cells])]
          rw [hsl] at r1 ⊢
          exact r1
         ·cases he
       ·cases he
      ·cases hc0
     ·cases he
    ·cases he
   ·split at he
    ·rename_i y st2 hu
     split at he
     ·rename_i hlen
      obtain ⟨g',i1,i2,i3,i4,_⟩:=use_sound h hu
      have hb':g'.rho[id]? = some b:=by rw [i4];exact hb
      have hR:=RelL.cells i3
      obtain ⟨w',r1,r2,r3⟩:=putC_sound hb' (i:=0) (off0:=off) i1 hR (by simpa using he)
      refine ⟨w',g',?_,r2,i2.trans r3⟩
      simp only [Instr.storeAt,Instr.sureAddr,storeVar,Sem.run_bind,Sem.run_pure,Result.andThen_ok,run_size hn]
      rw [if_neg (by have:=hR.1;simp at this;omega)]
      exact r1
     ·cases he
    ·cases he
 ·rename_i q k off n hp hn
  obtain ⟨p,hs⟩:=peek_slot h hp
  obtain ⟨fl,xs,b,cap,k1,k2,k3,k4,k5⟩:=hs
  split at he
  ·rename_i y st2 hu
   split at he
   ·rename_i hlen
    obtain ⟨g',i1,i2,i3,i4,_⟩:=use_sound h hu
    have hR:=RelL.cells i3
    obtain ⟨v0,hv0,hok0⟩:=own_at h k1 k2
    have hst:∃fl2 ,contentAt st2 q=some (.sl fl2 false xs)∧fl2.isOwn=true∧fl2.e=fl.e:=by
     have hput:∀{p':Plc} {fl':Flag} {ys:Xs},contentAt st p'=some (.sl fl' false ys)→fl'.isOwn=true→
       ∃fl2,contentAt (st.putP p' (.sl (.own fl'.e) false ys)) q=some (.sl fl2 false xs)∧fl2.isOwn=true∧fl2.e=fl.e:=by
      intro p' fl' ys hc' ho'
      by_cases e:q=p'
      ·subst e
       rw [k1] at hc'
       injection hc' with hc'
       injection hc' with e1 _ e3
       subst e1;subst e3
       exact ⟨_,contentAt_put_self k1,rfl,rfl⟩
      ·exact ⟨fl,(contentAt_put_ne e).trans k1,k2,rfl⟩
     have huse:∀{p':Plc} {z:PV} {st3:St},st.useP p'=some (z,st3)→∃fl2,contentAt st3 q=some (.sl fl2 false xs)∧fl2.isOwn=true∧fl2.e=fl.e:=by
      intro p' z st3 hh
      unfold St.useP at hh
      split at hh
      ·rename_i fl' ys hc'
       split at hh
       ·rename_i ho'
        injection hh with hh
        injection hh with _ h2
        subst h2
        exact hput hc' ho'
       ·injection hh with hh
        injection hh with _ h2
        subst h2
        exact ⟨fl,k1,k2,rfl⟩
      ·injection hh with hh
       injection hh with _ h2
       subst h2
       exact ⟨fl,k1,k2,rfl⟩
      ·cases hh
      ·cases hh
      ·cases hh
      ·injection hh with hh
       injection hh with _ h2
       subst h2
       exact ⟨fl,k1,k2,rfl⟩
      ·cases hh
     cases x with
     | tmp t0=>
      simp only [St.use] at hu
      split at hu
      ·exact huse hu
      ·exact huse hu
     | const v=>injection hu with hu;injection hu with _ h2;subst h2;exact ⟨fl,k1,k2,rfl⟩
     | func f=>injection hu with hu;injection hu with _ h2;subst h2;exact ⟨fl,k1,k2,rfl⟩
     | global _=>cases hu
    obtain ⟨fl2,m1,m2,m3⟩:=hst
    have hreal:realAt g' vs w q=some (.slice (some ⟨b,0,none⟩) xs.els.length cap):=by
     rw [←k3]
     cases q with
     | tmp t=>rfl
     | cell id off=>simp only [realAt,i4]
    cases hfl:fl2 with
    | view=>rw [hfl] at m2;cases m2
    | own e=>
     rw [hfl] at m1
     unfold St.putE at he
     rw [m1] at he
     cases he
    | excl e=>
     rw [hfl] at m1 m3
     have he':e=fl.e:=m3
     obtain ⟨w',r1,r2,r3⟩:=putE_sound i1 m1 hreal hR he
     refine ⟨w',g',?_,r2,i2.trans r3⟩
     rw [k5,←he']
     simp only [Instr.storeAt,Instr.sureAddr,storeVar,Sem.run_bind,Sem.run_pure,Result.andThen_ok,run_size hn]
     rw [if_neg (by have:=hR.1;simp at this;omega)]
     exact r1
   ·cases he
  ·cases he
 ·cases he
theorem store_ok {P:Program} {o:Oper} {st st1 st':St} {g:Gh} {vs:Array Value} {w:World} (h:Inv P g st vs w) {t:TypeId} {a x:Operand} (ho:o.op=.store t a x) (he:evStore P st t a x=some st1)
  (hs:st1.setD o.dst (.lit undef)=some st'):OpOk P o vs w g st':=by
 obtain ⟨w',g',h1,h2,h3⟩:=store_inv h he
 exact ⟨.skip,undef,w',g',by simp [execOp,ho,h1],.inr ⟨rfl,rfl⟩,setD_rel h2 hs (.lit _),h3,fun hk=>by rw [ho] at hk;cases hk⟩
theorem setAddr_inv {P:Program} {st st':St} {g:Gh} {vs:Array Value} {w:World} (h:Inv P g st vs w) {d:Option Tmp} {x:PV} {v:Value} {p:Plc} (hs:st.setAddr d x=some st') (hx:Slot P st g vs w p x v):Inv P g st' (putT vs d v) w:=by
 cases x with
 | ptr id off=>exact setD_rel h hs hx
 | elemv cs off=>exact setD_rel h hs hx
 | elem q k off=>
  cases d with
  | none=>cases hs
  | some t=>
   simp only [St.setAddr] at hs
   split at hs
   ·cases hs
   ·rename_i hne
    exact setD_elem h hs (fun t' ht=>by injection ht with ht;subst ht;exact hne) hx
 | _=>simp [St.setAddr] at hs
theorem addOff_slot {P:Program} {st:St} {g:Gh} {vs:Array Value} {w:World} {p:Plc} {x z:PV} {v:Value} {n:Nat} (h:Slot P st g vs w p x v) (ha:addOff x n=some z):∃b q,v=.pointer (some ⟨b,q,none⟩)∧Slot P st g vs w p z (.pointer (some ⟨b,q+n,none⟩)):=by
 cases x with
 | ptr id off=>
  injection ha with ha
  subst ha
  have h:Rel g w _ _:=h
  cases h with
  | ptr _ _ b hb=>exact ⟨b,off,rfl,.ptr id (off+n) b hb⟩
 | elem q k off=>
  injection ha with ha
  subst ha
  obtain ⟨fl,xs,b,cap,k1,k2,k3,k4,k5⟩:=h
  exact ⟨b,_,k5,fl,xs,b,cap,k1,k2,k3,k4,by rw [Nat.add_assoc]⟩
 | elemv cs off=>
  injection ha with ha
  subst ha
  have h:Rel g w _ _:=h
  cases h with
  | elemv _ _ b o vals hfp hrel=>exact ⟨b,o+off,rfl,by rw [Nat.add_assoc];exact .elemv cs (off+n) b o vals hfp hrel⟩
 | _=>simp [addOff] at ha
theorem fieldAddr_ok {P:Program} {o:Oper} {st st':St} {g:Gh} {vs:Array Value} {w:World} (h:Inv P g st vs w) {t:TypeId} {x:Operand} {f:Nat} (ho:o.op=.fieldAddr t x f) (he:evFieldAddr P st t x f o.dst=some st'):OpOk P o vs w g st':=by
 unfold evFieldAddr at he
 split at he
 ·rename_i fs hu
  split at he
  ·rename_i fd hf
   split at he
   ·rename_i n y hn hp
    split at he
    ·rename_i z hz
     obtain ⟨p,hs⟩:=peek_slot h hp
     obtain ⟨b,q,hv,hs'⟩:=addOff_slot hs hz
     refine ⟨_,_,w,g,?_,.inl rfl,setAddr_inv h he hs',Ext.refl _ _,fun _=>.refl _ _⟩
     simp [execOp,ho,Instr.fieldAt,run_und hu,hf,Instr.sureAddr,hv,fieldPlace,run_size hn,add_off]
    ·cases he
   ·cases he
  ·cases he
 ·cases he
theorem Xs.els_length (x:Xs):x.els.length=x.l.length:=by simp [Xs.els]
theorem nthI_els {xs:Xs} {i:Int} {y:xs.sh.den} (h:nthI xs.l i=some y):0≤i∧∃hlt:i.toNat<xs.els.length,xs.els[i.toNat]=xs.sh.cells y:=by
 unfold nthI at h
 split at h
 ·rename_i h0
  obtain ⟨h1,h2⟩:=List.getElem?_eq_some_iff.1 h
  exact ⟨h0,by simpa [Xs.els] using h1,by simp [Xs.els,h2]⟩
 ·cases h
theorem indexAddr_ok {P:Program} {o:Oper} {st st':St} {g:Gh} {vs:Array Value} {w:World} (h:Inv P g st vs w) {t:TypeId} {x i:Operand} (ho:o.op=.indexAddr t x i) (he:evIndexAddr P st t x i o.dst=some st'):OpOk P o vs w g st':=by
 unfold evIndexAddr at he
 split at he
 ·rename_i len e ix hu hi
  obtain ⟨kk,hix⟩:=int_val h hi
  split at he
  ·rename_i n y hn hp
   split at he
   ·rename_i hb
    split at he
    ·rename_i z hz
     obtain ⟨p,hs⟩:=peek_slot h hp
     obtain ⟨b,q,hv,hs'⟩:=addOff_slot hs hz
     refine ⟨_,_,w,g,?_,.inl rfl,setAddr_inv h he hs',Ext.refl _ _,fun _=>.refl _ _⟩
     simp [execOp,ho,Instr.indexAt,hix,asIntOf,run_und hu,Instr.sureAddr,hv,run_size hn,add_off,hb.1,hb.2]
    ·cases he
   ·cases he
  ·cases he
 ·rename_i e ix hu hi
  obtain ⟨kk,hix⟩:=int_val h hi
  split at he
  ·rename_i n xs hn hsl
   split at he
   ·rename_i hcl0
    split at he
    ·rename_i y0 hc
     obtain ⟨hb0,hlt,hce⟩:=nthI_els hc
     have hcl:(xs.sh.cells y0).length=n:=by rw [Sh.cells_length];exact hcl0
     generalize xs.sh.cells y0=c at hce hcl he
     have hb:0≤ix∧ix<xs.els.length:=⟨hb0,by omega⟩
     ·have hrun:∀{b q cap},evalV vs x=.slice (some ⟨b,q,none⟩) xs.els.length cap→(execOp (evalV vs) o).run P w=.ok (.value (.pointer (some ⟨b,q+ix.toNat*n,none⟩))) w:=by
       intro b q cap hv
       simp [execOp,ho,Instr.indexAt,hix,asIntOf,run_und hu,hv,run_size hn,add_off,hb.1,hb.2]
      split at he
      ·rename_i q hq
       obtain ⟨fl,m,ys,k1,k2,k3,k4⟩:=plc_slot h hq
       have hys:m=false∧ys=xs:=by
        simp only [St.sl,k4] at hsl
        injection hsl with hsl
        injection hsl with e1 e2
        exact ⟨e1,e2⟩
       obtain ⟨rfl,rfl⟩:=hys
       obtain ⟨v0,hv0,hok⟩:=own_at h k1 k2
       rw [k3] at hv0
       injection hv0 with hv0
       rcases hok with ⟨hn',_⟩ | ⟨_,b,cap,hbv,hbk⟩
       ·rw [hn'] at hlt;simp at hlt
       ·have hv1:evalV vs x=.slice (some ⟨b,0,none⟩) ys.els.length cap:=hv0.trans hbv
        have hsz:=hbk.el.1 ix.toNat hlt
        rw [hce,hcl] at hsz
        refine ⟨_,_,w,g,hrun hv1,.inl rfl,setAddr_inv h he (p:=.tmp 0) ⟨fl,ys,b,cap,k1,k2,by rw [k3,hv1],hlt,by rw [←hsz];simp⟩,Ext.refl _ _,fun _=>.refl _ _⟩
      ·rename_i hq
       have hpk:∃fl,st.peek x=some (.sl fl false xs):=by
        simp only [St.sl] at hsl
        split at hsl
        ·rename_i fl m ys hpk
         injection hsl with hsl
         injection hsl with e1 e2
         subst e1;subst e2
         exact ⟨fl,hpk⟩
        ·cases hsl
       obtain ⟨fl,hpk⟩:=hpk
       obtain ⟨p,hs⟩:=peek_slot h hpk
       have hview:fl=.view:=by
        cases x with
        | tmp t0=>
         simp only [St.plc] at hq
         simp only [St.peek] at hpk
         split at hpk
         ·rename_i q' hq'
          rw [hq'] at hq
          simp at hq
         ·rw [hpk] at hq
          simp only at hq
          cases fl with
          | view=>rfl
          | own e=>simp [Flag.isOwn] at hq
          | excl e=>simp [Flag.isOwn] at hq
        | const v=>
         injection hpk with hpk
         unfold constPV at hpk
         split at hpk
         ·injection hpk with _ e _;cases e
         ·cases hpk
         ·cases hpk
         ·cases hpk
        | func f=>injection hpk with hpk;cases hpk
        | global _=>cases hpk
       subst hview
       have hs:Rel g w _ _:=hs
       generalize hev:evalV vs x=u at hs
       cases hs with
       | slz=>simp [Xs.els] at hlt
       | sle=>simp [Xs.els] at hlt
       | slv _ _ hx b o' cap s vals hcap hlen hfp hrel=>
        subst hx
        have hsn:s=n:=by rw [←hlen ix.toNat hlt,hce,hcl]
        subst hsn
        refine ⟨_,_,w,g,hrun hev,.inl rfl,setAddr_inv h he (p:=.tmp 0) (show Rel g w (.elemv c 0) _ from ?_),Ext.refl _ _,fun _=>.refl _ _⟩
        have:=Rel.elemv (g:=g) (w:=w) c 0 b (o'+ix.toNat*s) (fun j=>vals ix.toNat j) (fun j hj=>hfp ix.toNat j hlt (by rw [←hcl];exact hj)) (fun j hj=>by
         subst hce
         exact hrel ix.toNat j hlt hj)
        simpa using this
    ·cases he
   ·cases he
  ·cases he
 ·cases he
theorem agg_slot {P:Program} {st:St} {g:Gh} {vs:Array Value} {w:World} (h:Inv P g st vs w) {x:Operand} {cs:List PV} (hp:st.peek x=some (.agg cs)):∃us,evalV vs x=.agg us∧RelL g w cs us.toList:=by
 obtain ⟨p,hs⟩:=peek_slot h hp
 have hs:Rel g w _ _:=hs
 generalize evalV vs x=u at hs
 cases hs with
 | agg _ us hl hr=>exact ⟨us,rfl,RelL.of_agg (.agg cs us hl hr)⟩
theorem field_ok {P:Program} {o:Oper} {st st':St} {g:Gh} {vs:Array Value} {w:World} (h:Inv P g st vs w) {t:TypeId} {x:Operand} {f:Nat} (ho:o.op=.field t x f) (he:evField P st t x f o.dst=some st'):OpOk P o vs w g st':=by
 unfold evField at he
 split at he
 ·rename_i fs cs hu hp
  split at he
  ·rename_i fd hf
   split at he
   ·rename_i y hy
    obtain ⟨us,hv,hr⟩:=agg_slot h hp
    obtain ⟨v,h1,h2⟩:=part_part hy hr
    exact .rel (v:=v) h (Ext.refl _ _) (by simp [execOp,ho,Instr.field,run_und hu,hf,hv,asAgg,h1]) he h2
   ·cases he
  ·cases he
 ·cases he
theorem index_ok {P:Program} {o:Oper} {st st':St} {g:Gh} {vs:Array Value} {w:World} (h:Inv P g st vs w) {t:TypeId} {x i:Operand} (ho:o.op=.index t x i) (he:evIndex P st t x i o.dst=some st'):OpOk P o vs w g st':=by
 unfold evIndex at he
 split at he
 ·rename_i len e cs ix hu hp hi
  obtain ⟨kk,hix⟩:=int_val h hi
  split at he
  ·rename_i n hn
   split at he
   ·rename_i hb
    split at he
    ·rename_i y hy
     obtain ⟨us,hv,hr⟩:=agg_slot h hp
     obtain ⟨v,h1,h2⟩:=part_part hy hr
     exact .rel (v:=v) h (Ext.refl _ _) (by simp [execOp,ho,Instr.index,hix,asIntOf,run_und hu,hv,hb.1,hb.2,run_size hn,h1]) he h2
    ·cases he
   ·cases he
  ·cases he
 ·rename_i s ix hu hp hi
  obtain ⟨kk,hix⟩:=int_val h hi
  obtain ⟨p,hs⟩:=peek_slot h hp
  have hv:=val_slot (u:=.string s) rfl hs
  split at he
  ·rename_i hb
   split at he
   ·rename_i b hbb
    exact .rel (v:=.int .u8 b.toNat) h (Ext.refl _ _) (by simp [execOp,ho,Instr.index,hix,asIntOf,run_und hu,hv,hb,hbb]) he (.lit _)
   ·cases he
  ·cases he
 ·cases he
theorem extract_ok {P:Program} {o:Oper} {st st':St} {g:Gh} {vs:Array Value} {w:World} (h:Inv P g st vs w) {x:Operand} {i:Nat} (ho:o.op=.extract x i) (he:evExtract st x i o.dst=some st'):OpOk P o vs w g st':=by
 unfold evExtract at he
 split at he
 ·rename_i cs hp
  split at he
  ·rename_i y hy
   obtain ⟨p,hs⟩:=peek_slot h hp
   have hs:Rel g w _ _:=hs
   generalize hev:evalV vs x=u at hs
   cases hs with
   | tup _ us hl hr=>
    obtain ⟨hlt,e⟩:=List.getElem?_eq_some_iff.1 hy
    have hu:us[i]? = some (us[i]'(by omega)):=Array.getElem?_eq_getElem (by omega)
    refine .rel (v:=us[i]'(by omega)) h (Ext.refl _ _) (by simp [execOp,ho,Instr.extract,hev,hu]) he ?_
    rw [←e]
    exact hr i hlt (by omega)
  ·cases he
 ·cases he
theorem nilCheck_ok {P:Program} {o:Oper} {st st':St} {g:Gh} {vs:Array Value} {w:World} (h:Inv P g st vs w) {x:Operand} (ho:o.op=.nilCheck x) (he:evNilCheck st x o.dst=some st'):OpOk P o vs w g st':=by
 unfold evNilCheck at he
 split at he
 ·rename_i id off hp
  obtain ⟨p,hs⟩:=peek_slot h hp
  have hs:Rel g w _ _:=hs
  generalize hev:evalV vs x=u at hs
  cases hs with
  | ptr _ _ b hb=>exact .rel h (Ext.refl _ _) (by simp [execOp,ho,hev]) he (.ptr id off b hb)
 ·rename_i cs off hp
  obtain ⟨p,hs⟩:=peek_slot h hp
  have hs:Rel g w _ _:=hs
  generalize hev:evalV vs x=u at hs
  cases hs with
  | elemv _ _ b oo vals h1 h2=>exact .rel h (Ext.refl _ _) (by simp [execOp,ho,hev]) he (.elemv cs off b oo vals h1 h2)
 ·rename_i t v hp
  obtain ⟨p,hs⟩:=peek_slot h hp
  have hs:Rel g w _ _:=hs
  generalize hev:evalV vs x=u at hs
  cases hs with
  | ifc _ _ b hb=>exact .rel h (Ext.refl _ _) (by simp [execOp,ho,hev]) he (.ifc t v b hb)
 ·rename_i id i hp
  obtain ⟨p,hs⟩:=peek_slot h hp
  have hs:Rel g w _ _:=hs
  generalize hev:evalV vs x=u at hs
  cases hs with
  | oref _ _ b hv hb=>
   obtain ⟨t,u,rfl⟩:=hv
   exact .rel h (Ext.refl _ _) (by simp [execOp,ho,hev]) he (.oref id i _ ⟨t,u,rfl⟩ hb)
 ·cases he
theorem iface_ok {P:Program} {o:Oper} {st st':St} {g:Gh} {vs:Array Value} {w:World} (h:Inv P g st vs w) {t:TypeId} {x:Operand} (ho:o.op=.makeInterface t x) (he:evIface P st t x o.dst=some st'):OpOk P o vs w g st':=by
 unfold evIface at he
 split at he
 ·cases he
 ·rename_i d hn hu
  split at he
  ·rename_i y st1 hx
   obtain ⟨g',i1,i2,i3,_⟩:=use_sound h hx
   refine .rel (v:=.iface t (evalV vs x)) i1 i2 ?_ he (.ifc t y _ i3)
   simp only [execOp,ho,Instr.makeInterface,Sem.run_bind,run_und hu,Result.andThen_ok]
   cases d <;> first | rfl | exact absurd rfl (hn _)
  ·cases he
 ·cases he
theorem useL_sound {P:Program} {vs:Array Value} {w:World}:∀{os:List Operand} {st st1:St} {g:Gh} {xs:List PV},Inv P g st vs w→st.useL os=some (xs,st1)→∃g',Inv P g' st1 vs w∧Ext g g' w w∧RelL g' w xs (os.map (evalV vs)):=by
 intro os
 induction os with
 | nil=>intro st st1 g xs h he;injection he with he;injection he with e1 e2;subst e1;subst e2;exact ⟨g,h,Ext.refl _ _,rfl,fun i hi=>by simp at hi⟩
 | cons o os ih=>
  intro st st1 g xs h he
  simp only [St.useL] at he
  split at he
  ·rename_i x st2 hx
   split at he
   ·rename_i ys st3 hy
    injection he with he;injection he with e1 e2;subst e1;subst e2
    obtain ⟨g1,i1,i2,i3,_⟩:=use_sound h hx
    obtain ⟨g2,j1,j2,j3⟩:=ih i1 hy
    refine ⟨g2,j1,i2.trans j2,by simpa using j3.1,fun i hi hv=>?_⟩
    cases i with
    | zero=>exact i3.ext j2
    | succ i=>simpa only [List.map_cons,List.getElem_cons_succ] using j3.2 i (by simpa using hi) (by simpa using hv)
   ·cases he
  ·cases he
theorem func_ok {P:Program} {o:Oper} {st st':St} {g:Gh} {vs:Array Value} {w:World} (h:Inv P g st vs w) {f:Fn} {a b:Array Operand} (ho:o.op=.makeFunc f a b) (he:evFunc st f a.toList b.toList o.dst=some st'):OpOk P o vs w g st':=by
 unfold evFunc at he
 split at he
 ·rename_i xs st1 hx
  split at he
  ·rename_i ys st2 hy
   obtain ⟨g1,i1,i2,i3⟩:=useL_sound h hx
   obtain ⟨g2,j1,j2,j3⟩:=useL_sound i1 hy
   refine .rel (v:=.func f (a.map (evalV vs)) (b.map (evalV vs))) j1 (i2.trans j2) (by simp [execOp,ho,Instr.makeFunc]) he ?_
   refine .fn f xs ys _ _ (by have:=i3.1;simpa using this) (by have:=j3.1;simpa using this) (fun i hi hv=>?_) (fun i hi hv=>?_)
   ·have:=i3.2 i hi (by simpa using hv)
    simp only [Array.getElem_map]
    simpa using this.ext j2
   ·have:=j3.2 i hi (by simpa using hv)
    simp only [Array.getElem_map]
    simpa using this
  ·cases he
 ·cases he
theorem det_run {α:Type} {P:Program} {s:Sem α} {x:α} (h:det P s=some x) (w:World):s.run P w=.ok x w:=by
 induction s with
 | pure a=>injection h with h;subst h;rfl
 | program k ih=>exact ih P h
 | _=>simp [det] at h
theorem un_ok {P:Program} {o:Oper} {st st':St} {g:Gh} {vs:Array Value} {w:World} (h:Inv P g st vs w) {op:UnOp} {t:TypeId} {x:Operand} (ho:o.op=.unOp op t x) (he:evUn P st op x o.dst=some st'):OpOk P o vs w g st':=by
 unfold evUn at he
 split at he
 ·rename_i b hp
  obtain ⟨p,hs⟩:=peek_slot h hp
  have hv:=val_slot (u:=.bool b) rfl hs
  exact .rel (v:=.bool !b) h (Ext.refl _ _) (by simp [execOp,ho,hv,Op.unary]) he (.lit _)
 ·rename_i u _ hp
  split at he
  ·rename_i a ha
   split at he
   ·rename_i r hr
    obtain ⟨p,hs⟩:=peek_slot h hp
    have hv:=val_slot ha hs
    exact .rel (v:=r) h (Ext.refl _ _) (by simp [execOp,ho,hv,det_run hr]) he (rel_constPV _ _ _)
   ·cases he
  ·cases he
 ·cases he
theorem intBin_run {P:Program} {op:BinOp} {k k':IntKind} {a b:Int} {v:Value} (h:intBin op k a k' b=some v) (t:TypeId) (w:World):(binOp op t (.int k a) (.int k' b)).run P w=.ok v w:=by
 unfold intBin at h
 split at h
 ·split at h
  ·cases h
  ·rename_i hb;injection h with h;subst h;simp [binOp,Op.shift,hb]
 ·split at h
  ·cases h
  ·rename_i hb;injection h with h;subst h;simp [binOp,Op.shift,hb]
 ·split at h
  ·cases h
  ·rename_i hk
   have hk:k=k':=Classical.not_not.1 hk
   subst hk
   split at h <;> first
    | (injection h with h;subst h;simp [binOp,Op.intArith,Op.intCmp,Op.intBits];done)
    | (split at h
       ·cases h
       ·rename_i hb;injection h with h;subst h;simp [binOp,Op.intDiv,hb])
    | cases h
theorem eqGuard_int {P:Program} {op:BinOp} {t:TypeId} {x y:Operand} {k k':IntKind} {a b:Int} (w:World):(eqGuard op t x y (.int k a) (.int k' b)).run P w=.ok () w:=by
 unfold eqGuard
 cases op <;> simp
theorem bin0_ok {P:Program} {o:Oper} {st st':St} {g:Gh} {vs:Array Value} {w:World} (h:Inv P g st vs w) {op:BinOp} {t ty:TypeId} {x y:Operand} (ho:o.op=.binOp op t x y ty) (he:evBin0 P st op t x y o.dst=some st'):OpOk P o vs w g st':=by
 unfold evBin0 at he
 split at he
 ·rename_i k a k' b hx hy
  split at he
  ·rename_i v hv
   obtain ⟨p,hs⟩:=peek_slot h hx
   obtain ⟨p',hs'⟩:=peek_slot h hy
   have e1:=val_slot (u:=.int k a) rfl hs
   have e2:=val_slot (u:=.int k' b) rfl hs'
   exact .rel (v:=v) h (Ext.refl _ _) (by simp [execOp,ho,e1,e2,eqGuard_int,intBin_run hv]) he (.lit _)
  ·cases he
 ·rename_i u v _ hx hy
  split at he
  ·rename_i a b ha hb
   split at he
   ·rename_i r hr
    obtain ⟨p,hs⟩:=peek_slot h hx
    obtain ⟨p',hs'⟩:=peek_slot h hy
    have e1:=val_slot ha hs
    have e2:=val_slot hb hs'
    refine .rel (v:=r) h (Ext.refl _ _) ?_ he (rel_constPV _ _ _)
    have:=det_run hr w
    simp only [execOp,ho,e1,e2,Sem.run_bind] at this ⊢
    rw [this]
    rfl
   ·cases he
  ·cases he
 ·cases he
theorem nil_ok {P:Program} {o:Oper} {st st':St} {g:Gh} {vs:Array Value} {w:World} (h:Inv P g st vs w) {op:BinOp} {t ty:TypeId} {x y:Operand} (ho:o.op=.binOp op t x y ty) (he:evNil P st op t x y o.dst=some st'):OpOk P o vs w g st':=by
 obtain ⟨n,hn⟩:∃n,Op.maxDepth=n+1:=⟨9999,rfl⟩
 unfold evNil at he
 split at he
 ·rename_i b u v hop hx hy
  split at he
  ·rename_i hne
   obtain ⟨p,hs⟩:=peek_slot h hx
   obtain ⟨p',hs'⟩:=peek_slot h hy
   refine .rel (v:=.bool b) h (Ext.refl _ _) ?_ he (.lit _)
   have key:∀a c:Value,(eqGuard op t x y a c).run P w=.ok () w→(Op.equal t a c).run P w=.ok false w→(∀k n,a≠.int k n)→(∀k n,a≠.float k n)→(∀k n m,a≠.complex k n m)→(∀s,a≠.string s)→(binOp op t a c).run P w=.ok (.bool b) w:=by
    intro a c _ he n1 n2 n3 n4
    cases op <;> simp only [eqOp] at hop <;> first | cases hop | skip
    ·cases a <;> first | exact absurd rfl (n1 _ _) | exact absurd rfl (n2 _ _) | exact absurd rfl (n3 _ _ _) | exact absurd rfl (n4 _) | simp [binOp,he]
    ·cases a <;> first | exact absurd rfl (n1 _ _) | exact absurd rfl (n2 _ _) | exact absurd rfl (n3 _ _ _) | exact absurd rfl (n4 _) | simp [binOp,he]
   have hfin:∀a c:Value,evalV vs x=a→evalV vs y=c→(eqGuard op t x y a c).run P w=.ok () w→(Op.equal t a c).run P w=.ok false w→(∀k n,a≠.int k n)→(∀k n,a≠.float k n)→(∀k n m,a≠.complex k n m)→(∀s,a≠.string s)→(execOp (evalV vs) o).run P w=.ok (.value (.bool b)) w:=by
    intro a c e1 e2 hg he n1 n2 n3 n4
    simp only [execOp,ho,e1,e2,Sem.run_bind,hg,Result.andThen_ok,key a c hg he n1 n2 n3 n4,Sem.run_pure]
   have hgd:∀a c:Value,(a≠.nilIface)→(∀cs,a≠.agg cs)→(eqGuard op t x y a c).run P w=.ok () w:=by
    intro a c m1 m2
    unfold eqGuard
    cases op <;> simp only [eqOp] at hop <;> first | cases hop | skip
    ·cases a <;> first | exact absurd rfl m1 | exact absurd rfl (m2 _) | simp
    ·cases a <;> first | exact absurd rfl m1 | exact absurd rfl (m2 _) | simp
   unfold nilNe at hne
   split at hne
   ·rename_i e hu
    have hq:∀a,(Op.equal t (.pointer (some a)) (.pointer none)).run P w=.ok false w:=fun a=>by
     simp [Op.equal,hn,Op.equalIn,run_und hu]
    split at hne
    ·have hs:Rel g w _ _:=hs
     have hs':Rel g w _ _:=hs'
     generalize hex:evalV vs x=a at hs
     generalize hey:evalV vs y=c at hs'
     cases hs
     cases hs'
     exact hfin _ _ hex hey (hgd _ _ (by simp) (by simp)) (hq _) (by simp) (by simp) (by simp) (by simp)
    ·have hs:Rel g w _ _:=hs
     have hs':Rel g w _ _:=hs'
     generalize hex:evalV vs x=a at hs
     generalize hey:evalV vs y=c at hs'
     cases hs
     cases hs'
     exact hfin _ _ hex hey (hgd _ _ (by simp) (by simp)) (hq _) (by simp) (by simp) (by simp) (by simp)
    ·cases hne
   ·rename_i ms hu
    split at hne
    ·have hs:Rel g w _ _:=hs
     have hs':Rel g w _ _:=hs'
     generalize hex:evalV vs x=a at hs
     generalize hey:evalV vs y=c at hs'
     cases hs
     cases hs'
     refine hfin _ _ hex hey (hgd _ _ (by simp) (by simp)) ?_ (by simp) (by simp) (by simp) (by simp)
     simp [Op.equal,hn,Op.equalIn,run_und hu]
    ·have hs:Rel g w _ _:=hs
     have hs':Rel g w _ _:=hs'
     generalize hex:evalV vs x=a at hs
     generalize hey:evalV vs y=c at hs'
     cases hs with
     | oref _ _ _ hv hb=>
      obtain ⟨tt,uu,rfl⟩:=hv
      cases hs'
      refine hfin _ _ hex hey (hgd _ _ (by simp) (by simp)) ?_ (by simp) (by simp) (by simp) (by simp)
      simp [Op.equal,hn,Op.equalIn,run_und hu]
    ·cases hne
   ·rename_i e hu
    split at hne
    ·rename_i fl xs fl' ys
     have e1:=slot_sl hs
     have e2:=slot_sl hs'
     have hpos:0<xs.els.length:=by rw [xs.els_length];simpa [Nat.blt_eq] using hne
     rcases e1 with ⟨e,_⟩ | ⟨_,⟨bb,qq,cap,ss,hv,_⟩ | ⟨e,_⟩⟩
     rotate_right
     ·rw [e] at hpos;simp at hpos
     ·rw [e] at hpos;simp at hpos
     ·rcases e2 with ⟨_,hv2⟩ | ⟨e,_⟩
      ·refine hfin _ _ hv hv2 (hgd _ _ (by simp) (by simp)) ?_ (by simp) (by simp) (by simp) (by simp)
       simp [Op.equal,hn,Op.equalIn,run_und hu]
      ·cases e
    ·cases hne
   ·cases hne
  ·cases he
 ·cases he
theorem bin1_ok {P:Program} {o:Oper} {st st':St} {g:Gh} {vs:Array Value} {w:World} (h:Inv P g st vs w) {op:BinOp} {t ty:TypeId} {x y:Operand} (ho:o.op=.binOp op t x y ty) (he:evBin1 P st op t x y o.dst=some st'):OpOk P o vs w g st':=by
 unfold evBin1 at he
 split at he
 ·split at he
  ·rename_i s hs
   injection he with he;subst he
   exact nil_ok h ho hs
  ·exact bin0_ok h ho he
 ·exact bin0_ok h ho he
theorem peek_litv {P:Program} {st:St} {g:Gh} {vs:Array Value} {w:World} (h:Inv P g st vs w) {m:Operand} {v:Value} (hp:st.peek m=some (.lit v)):evalV vs m=v:=by
 obtain ⟨p,hs⟩:=peek_slot h hp
 have hs:Rel g w (.lit v) (evalV vs m):=hs
 generalize evalV vs m=u at hs
 cases hs;rfl
theorem eqLeaf_run {P:Program} {g:Gh} {w:World} {t:TypeId} {xs ys:List PV} {us vs:Array Value} {off:Nat} {b:Bool} (hu:RelL g w xs us.toList) (hv:RelL g w ys vs.toList) (h:eqLeaf (P.underlying t) xs[off]? ys[off]? = some b) (d:Nat) :
  (do let a ←part t us off;let c ←part t vs off;Op.equalIn (d+1) t a c:Sem Bool).run P w=.ok b w:=by
 have get:∀{cs:List PV} {zs:Array Value} {u:Value},RelL g w cs zs.toList→cs[off]? = some (.lit u)→zs[off]? = some u:=by
  intro cs zs u hr hc
  obtain ⟨h1,h2⟩:=List.getElem?_eq_some_iff.1 hc
  have hl:off<zs.toList.length:=by rw [hr.1];exact h1
  have:=hr.2 off h1 hl
  rw [h2] at this
  have e:zs.toList[off]=u:=by
   generalize zs.toList[off]=z at this
   cases this;rfl
  rw [←Array.getElem?_toList,List.getElem?_eq_getElem hl,e]
 have fin:∀{u v:Value} {td:TypeDesc},P.underlying t=some td→(∀f,td≠.struct f)→(∀n e,td≠.array n e)→xs[off]? = some (.lit u)→ys[off]? = some (.lit v)→(Op.equalIn (d+1) t u v).run P w=.ok b w→
   (do let a ←part t us off;let c ←part t vs off;Op.equalIn (d+1) t a c:Sem Bool).run P w=.ok b w:=by
  intro u v td ht n1 n2 hx hy he
  have ha:(isAgg t).run P w=.ok false w:=by
   cases td <;> first | (simp [isAgg,underlying,ht];done) | (rename_i fs;exact absurd rfl (n1 fs)) | (rename_i k e;exact absurd rfl (n2 k e))
  simp only [part,Sem.run_bind,ha,Result.andThen_ok,Bool.false_eq_true,if_false,get hu hx,get hv hy,Sem.run_pure]
  exact he
 unfold eqLeaf at h
 split at h
 ·rename_i k a k' c hx hy
  split at h
  ·rename_i q ht
   split at h
   ·rename_i hk
    subst hk
    injection h with h;subst h
    exact fin ht (fun _ e=>by cases e) (fun _ _ e=>by cases e) hx hy (run_equalIn_int w d t k q a c ht)
   ·cases h
  ·cases h
 ·rename_i a c hx hy
  split at h
  ·rename_i ht
   injection h with h;subst h
   exact fin ht (fun _ e=>by cases e) (fun _ _ e=>by cases e) hx hy (run_equalIn_bool w d t a c ht)
  ·cases h
 ·rename_i a c hx hy
  split at h
  ·rename_i ht
   injection h with h;subst h
   exact fin ht (fun _ e=>by cases e) (fun _ _ e=>by cases e) hx hy ((run_equalIn_string w d t a c ht).trans (by rw [←beq_toListBytes];rfl))
  ·cases h
 ·rename_i k a c k' a' c' hx hy
  split at h
  ·rename_i q ht
   split at h
   ·rename_i hk
    subst hk
    injection h with h;subst h
    exact fin ht (fun _ e=>by cases e) (fun _ _ e=>by cases e) hx hy (by simp [Op.equalIn,run_underlying ht])
   ·cases h
  ·cases h
 ·cases h
theorem eqFs_run {P:Program} {g:Gh} {w:World} {xs ys:List PV} {us vs:Array Value} (hu:RelL g w xs us.toList) (hv:RelL g w ys vs.toList) (d:Nat):∀{fs:List Field} {b:Bool},eqFs P xs ys fs=some b→(Op.eqFields (d+1) us vs fs).run P w=.ok b w
 | [],b,h=>by injection h with h;subst h;rfl
 | f :: r,b,h=>by
  simp only [eqFs] at h
  split at h
  ·rename_i hn
   split at h
   ·rename_i a c h1 h2
    injection h with h;subst h
    have k1:=eqLeaf_run hu hv h1 d
    have k2:=eqFs_run hu hv d h2
    simp only [Sem.run_bind] at k1
    simp only [Op.eqFields,if_pos hn,Sem.run_bind]
    revert k1
    generalize (part f.type us f.offset).run P w=r1
    cases r1 with
    | halt _ _=>intro k1;cases k1
    | ok a1 w1=>
     simp only [Result.andThen_ok]
     generalize (part f.type vs f.offset).run P w1=r2
     cases r2 with
     | halt _ _=>intro k1;cases k1
     | ok a2 w2=>
      simp only [Result.andThen_ok]
      intro k1
      rw [k1]
      cases a with
      | true=>simpa using k2
      | false=>simp
   ·cases h
  ·cases h
theorem eq_ok {P:Program} {o:Oper} {st st':St} {g:Gh} {vs:Array Value} {w:World} (h:Inv P g st vs w) {op:BinOp} {t ty:TypeId} {x y:Operand} (ho:o.op=.binOp op t x y ty) (he:evEq P st op t x y o.dst=some st'):OpOk P o vs w g st':=by
 unfold evEq at he
 split at he
 ·rename_i n u v hop hx hy
  split at he
  ·rename_i b hb
   have hop':(op=.eql∧n=false)∨(op=.neq∧n=true):=by
    cases op with
    | eql=>injection hop with hop;exact .inl ⟨rfl,hop.symm⟩
    | neq=>injection hop with hop;exact .inr ⟨rfl,hop.symm⟩
    | _=>cases hop
   unfold eqPV at hb
   split at hb
   ·rename_i a c
    injection hb with hb;subst hb
    have e1:=peek_litv h hx
    have e2:=peek_litv h hy
    refine .rel (v:=.bool (negB n (eqS a c))) h (Ext.refl _ _) ?_ he (.lit _)
    rcases hop' with ⟨rfl,rfl⟩ | ⟨rfl,rfl⟩ <;> simp [execOp,ho,e1,e2,eqGuard,binOp,Op.stringOp,negB,eqS,beq_toListBytes]
   ·rename_i k a k' c
    split at hb
    ·rename_i hk
     subst hk
     injection hb with hb;subst hb
     have e1:=peek_litv h hx
     have e2:=peek_litv h hy
     refine .rel (v:=.bool (negB n (Op.floatEq k a c))) h (Ext.refl _ _) ?_ he (.lit _)
     rcases hop' with ⟨rfl,rfl⟩ | ⟨rfl,rfl⟩ <;> simp [execOp,ho,e1,e2,eqGuard,binOp,Op.floatCmp,negB,Op.floatEq,bne]
    ·cases hb
   ·rename_i k a c k' a' c'
    split at hb
    ·rename_i hk
     subst hk
     injection hb with hb;subst hb
     have e1:=peek_litv h hx
     have e2:=peek_litv h hy
     refine .rel (v:=.bool (negB n (Op.floatEq k a a' && Op.floatEq k c c'))) h (Ext.refl _ _) ?_ he (.lit _)
     have hr:∀u v:Nat,det P (Op.Complex.cmp .eql k u v)=some (Op.floatEq k u v):=fun u v=>rfl
     have hr2:∀u v:Nat,(Op.Complex.cmp .eql k u v).run P w=.ok (Op.floatEq k u v) w:=fun u v=>det_run (hr u v) w
     rcases hop' with ⟨rfl,rfl⟩ | ⟨rfl,rfl⟩
     ·simp [execOp,ho,e1,e2,eqGuard,binOp,Op.complexOp,negB,hr2]
     ·simp [execOp,ho,e1,e2,eqGuard,binOp,Op.complexOp,negB,hr2]
    ·cases hb
   ·rename_i xs ys
    split at hb
    ·rename_i fs hf
     split at hb
     ·rename_i hg
      simp only [Bool.and_eq_true,Bool.not_eq_true'] at hg
      obtain ⟨hg1,hg2⟩:=hg
      obtain ⟨p,hs⟩:=peek_slot h hx
      obtain ⟨p',hs'⟩:=peek_slot h hy
      have hs:Rel g w (.agg xs) (evalV vs x):=hs
      have hs':Rel g w (.agg ys) (evalV vs y):=hs'
      refine .rel (v:=.bool (negB n b)) h (Ext.refl _ _) ?_ he (.lit _)
      have hfs:P.fieldsOf t=fs:=by unfold Program.fieldsOf;rw [hf]
      generalize hX:evalV vs x=X at hs
      generalize hY:evalV vs y=Y at hs'
      cases hs with
      | agg _ us l1 r1=>
       cases hs' with
       | agg _ us' l2 r2=>
        have k:=eqFs_run (RelL.of_agg (.agg _ us l1 r1)) (RelL.of_agg (.agg _ us' l2 r2)) 9998 hb
        have k2:(Op.equalIn 10000 t (.agg us) (.agg us')).run P w=.ok b w:=by
         rw [show (10000:Nat)=9999+1 from rfl,run_equalIn_agg w 9999 t us us' (by rw [hfs];exact hf) hg2,hfs]
         exact k
        rcases hop' with ⟨rfl,rfl⟩ | ⟨rfl,rfl⟩
        ·simp [execOp,ho,hX,hY,run_eqGuard_agg w .eql t x y us us' hg1,run_eql_struct w t us us',k2,negB]
        ·simp [execOp,ho,hX,hY,run_eqGuard_agg w .neq t x y us us' hg1,run_neq_struct w t us us',k2,negB]
     ·cases hb
    ·cases hb
   ·cases hb
  ·cases he
 ·cases he
theorem bin_ok {P:Program} {o:Oper} {st st':St} {g:Gh} {vs:Array Value} {w:World} (h:Inv P g st vs w) {op:BinOp} {t ty:TypeId} {x y:Operand} (ho:o.op=.binOp op t x y ty) (he:evBin P st op t x y o.dst=some st'):OpOk P o vs w g st':=by
 unfold evBin at he
 split at he
 ·exact eq_ok h ho he
 ·exact bin1_ok h ho he
theorem Inv.world {P:Program} {st:St} {g:Gh} {vs:Array Value} {w w':World} (h:Inv P g st vs w) (hh:w'.heap=w.heap) (h1:w'.os=w.os) (h2:w'.tape=w.tape) (h3:w'.output=w.output):Inv P g st vs w'∧Ext g g w w':=by
 have hE:Ext g g w w':=⟨List.prefix_rfl,fun _ _ _ h=>h,fun _ _ _ h=>h,fun _ _ h=>h,fun b i _=>cell_of_heap (by rw [hh]) i,fun b _ _=>by rw [hh],by rw [hh];exact Nat.le_refl _,fun _ h=>h,fun _ h=>h,fun _ _ h=>h,fun _ _ _ h=>h,h1,h2,h3⟩
 have hC:Chg (fun _=>False) g g w w':=⟨hE,fun b _ _ _ _=>by rw [hh],fun _ _ h _=>h,fun _ _ _ _ _ h=>h⟩
 have hreal:∀q,realAt g vs w' q=realAt g vs w q:=by
  intro q
  cases q with
  | tmp t=>rfl
  | cell id off=>simp only [realAt,World.cell?,hh]
 refine ⟨h.step hC h.size (fun t x hx=>.inr (.inl ⟨hx,rfl,fun _=>not_false,fun q _=>⟨rfl,hreal q⟩⟩)) h.rlen (fun id ty cs b h1 h2=>.inl ⟨h1,h2,not_false,fun _ _ _ _=>not_false⟩) (fun id es b h1 h2=>.inl ⟨h1,h2,not_false⟩) (fun id alts l h1=>.inl ⟨h1,fun _=>not_false,rfl⟩) h.rown h.fdom ?_ ?_ h.fbox,hE⟩
 ·intro b o hb;rw [hh];exact h.olt b o hb
 ·intro b i hb;rw [hh];exact h.flt b i hb
theorem Xs.els_nil {s:Sh} {l:List s.den} (h:(Xs.els ⟨s,l⟩)=[]):l=[]:=by simpa [Xs.els] using h
theorem sliceI_els {xs:Xs} {lo hi:Int} {m:List xs.sh.den} (h:sliceI xs.l lo hi=some m):0≤lo∧lo≤hi∧hi≤xs.els.length∧(Xs.els ⟨xs.sh,m⟩)=(xs.els.drop lo.toNat).take (hi.toNat - lo.toNat):=by
 unfold sliceI at h
 split at h
 ·rename_i h0
  injection h with h
  subst h
  exact ⟨h0.1,h0.2.1,by rw [Xs.els_length];exact h0.2.2,by simp [Xs.els,List.map_take,List.map_drop]⟩
 ·cases h
theorem slice_ok {P:Program} {o:Oper} {st st':St} {g:Gh} {vs:Array Value} {w:World} (h:Inv P g st vs w) {t:TypeId} {x:Operand} {lo hi mx:Option Operand} (ho:o.op=.slice t x lo hi mx) (he:evSlice P st t x lo hi mx o.dst=some st'):OpOk P o vs w g st':=by
 unfold evSlice at he
 split at he
 ·rename_i e hu
  split at he
  ·rename_i sz l hgh n xs st1 hsz hl hh hx
   split at he
   ·rename_i hsize
    split at he
    ·rename_i m hm
     obtain ⟨b1,b2,b3,hme⟩:=sliceI_els hm
     obtain ⟨g',i1,i2,i3,i4,_⟩:=use_sound h hx
     have hlo:lo.map (evalV vs)=none∧l=0∨∃k,lo.map (evalV vs)=some (.int k l):=by
      cases lo with
      | none=>left;injection hl with hl;exact ⟨rfl,hl.symm⟩
      | some lo=>right;obtain ⟨k,hk⟩:=int_val h hl;exact ⟨k,by simp [hk]⟩
     have key:∀(a:Option Addr) (cap:Nat),evalV vs x=.slice a xs.els.length cap→xs.els.length≤cap→
       (execOp (evalV vs) o).run P w=.ok (.value (.slice (if cap=l.toNat then a else a.map (·.add (l.toNat*sz))) (hgh.toNat - l.toNat) (cap - l.toNat))) w:=by
      intro a cap hv hcap
      have hhi:hi.map (evalV vs)=none∧hgh=xs.els.length∨∃k,hi.map (evalV vs)=some (.int k hgh):=by
       cases hi with
       | none=>
        left
        refine ⟨rfl,?_⟩
        simp only at hh
        have hpk:(st.sl x).map (fun p=>(p.2.l.length:Int))=some (xs.els.length:Int):=by
         cases hsl:st.sl x with
         | none=>rw [hsl] at hh;cases hh
         | some pr=>
          obtain ⟨m,ys⟩:=pr
          have hpk:∃fl,st.peek x=some (.sl fl m ys):=by
           simp only [St.sl] at hsl
           split at hsl
           ·rename_i fl m' ys' hpk
            injection hsl with hsl
            injection hsl with e1 e2
            subst e1;subst e2
            exact ⟨fl,hpk⟩
           ·cases hsl
          obtain ⟨fl,hpk⟩:=hpk
          obtain ⟨p,hs⟩:=peek_slot h hpk
          have:=slot_sl hs
          rw [hv] at this
          rcases this with ⟨e1,e2⟩ | ⟨_,⟨b,q,c,s,e2,_⟩ | ⟨e1,aa,cc,e2⟩⟩
          rotate_right
          ·injection e2 with _ e3 _
           have e1:ys.l.length=0:=by rw [←ys.els_length,e1];rfl
           simp [e3,e1]
          ·injection e2 with _ e3 _
           have e1:ys.l.length=0:=by rw [←ys.els_length,e1];rfl
           simp [e3,e1]
          ·injection e2 with _ e3 _
           rw [ys.els_length] at e3
           simp [e3]
        rw [hpk] at hh
        injection hh with hh
        exact hh.symm
       | some hi=>right;obtain ⟨k,hk⟩:=int_val h hh;exact ⟨k,by simp [hk]⟩
      have hsb:(Instr.sliceBounds true xs.els.length cap (lo.map (evalV vs)) (hi.map (evalV vs)) none).run P w=.ok (l.toNat,hgh.toNat,cap) w:=by
       rcases hlo with ⟨e1,e2⟩ | ⟨k,e1⟩ <;> rcases hhi with ⟨e3,e4⟩ | ⟨k',e3⟩
       ·simp [Instr.sliceBounds,e1,e3,e2,e4]
       ·rw [e1,e3]
        simp [Instr.sliceBounds,Instr.sliceBound,asIntOf,e2,show (0:Int)≤hgh by omega,show hgh≤(cap:Int) by omega]
       ·rw [e1,e3]
        simp [Instr.sliceBounds,Instr.sliceBound,asIntOf,e4,b1,show l≤(xs.els.length:Int) by omega]
       ·rw [e1,e3]
        simp [Instr.sliceBounds,Instr.sliceBound,asIntOf,b1,show (0:Int)≤hgh by omega,show hgh≤(cap:Int) by omega,show l≤(hgh.toNat:Int) by omega]
        intro h1;omega
      simp only [execOp,ho,Option.map_none,Instr.sliceAt,Sem.run_bind,run_und hu,Result.andThen_ok,Instr.slice,hv,hsb,run_size hsz,Sem.run_pure]
     have hlen:((xs.els.drop l.toNat).take (hgh.toNat - l.toNat)).length=hgh.toNat - l.toNat:=by
      simp only [List.length_take,List.length_drop]
      omega
     generalize hys:(xs.els.drop l.toNat).take (hgh.toNat - l.toNat)=ys at hme hlen
     generalize hev:evalV vs x=u at i3 key
     cases i3 with
     | slnil fl=>
      have hk:=key none 0 rfl (Nat.le_refl _)
      simp only [Xs.els,List.map_nil,List.length_nil] at b3 hk
      have e1:l=0:=by omega
      have e2:hgh=0:=by simp at b3;omega
      subst e1;subst e2
      have:m=[]:=by
       have:ys=[]:=by rw [←hys];rfl
       rw [this] at hme
       exact Xs.els_nil hme
      subst this
      refine .rel (v:=.slice none 0 0) i1 i2 ?_ he (.slnil _ _)
      simpa using hk
     | slz=>
      have hk:=key none 0 rfl (Nat.le_refl _)
      simp only [Xs.els,List.map_nil,List.length_nil] at b3 hk
      have e1:l=0:=by omega
      have e2:hgh=0:=by simp at b3;omega
      subst e1;subst e2
      have:m=[]:=by
       have:ys=[]:=by rw [←hys];rfl
       rw [this] at hme
       exact Xs.els_nil hme
      subst this
      refine .rel (v:=.slice none 0 0) i1 i2 ?_ he (.slz _)
      simpa using hk
     | sle s0 a cap=>
      have hk:=key (some a) cap rfl (by simp [Xs.els])
      simp only [Xs.els,List.map_nil,List.length_nil] at b3 hk
      have e1:l=0:=by omega
      have e2:hgh=0:=by simp at b3;omega
      subst e1;subst e2
      have:m=[]:=by
       have:ys=[]:=by rw [←hys];rfl
       rw [this] at hme
       exact Xs.els_nil hme
      subst this
      have hr:∃q,(if cap=(0:Int).toNat then (some a:Option Addr) else (some a:Option Addr).map (·.add ((0:Int).toNat*sz)))=some q:=by
       split <;> exact ⟨_,rfl⟩
      obtain ⟨q,hq⟩:=hr
      rw [hq] at hk
      refine .rel i1 i2 hk he ?_
      exact .sle _ q _
     | slv _ _ hx b oo cap s vals hcap hlen' hfp hrel=>
      subst hx
      have hk:=key (some ⟨b,oo,none⟩) cap rfl hcap
      have hl0:l.toNat≤hgh.toNat:=by omega
      have hh0:hgh.toNat≤xs.els.length:=by omega
      by_cases hy:ys=[]
      ·subst hy
       have hz:hgh.toNat - l.toNat=0:=by simpa using hlen.symm
       rw [hz] at hk
       have hr:∃q,(if cap=l.toNat then (some ⟨b,oo,none⟩:Option Addr) else (some ⟨b,oo,none⟩:Option Addr).map (·.add (l.toNat*sz)))=some ⟨b,q,none⟩:=by
        split
        ·exact ⟨oo,rfl⟩
        ·exact ⟨oo+l.toNat*sz,by simp [add_off]⟩
       obtain ⟨q,hq⟩:=hr
       rw [hq] at hk
       refine .rel i1 i2 hk he ?_
       exact .slv _ [] hme.symm b q (cap - l.toNat) 0 (fun _ _=>undef) (by simp) (fun i hi=>by simp at hi) (fun i j hi=>by simp at hi) (fun i j hi=>by simp at hi)
      ·have hne:cap≠l.toNat:=by
        intro e
        have:ys.length=0:=by rw [hlen];omega
        exact hy (List.eq_nil_of_length_eq_zero this)
       have hpos:0<hgh.toNat - l.toNat:=by
        rw [←hlen];exact List.length_pos_iff.2 hy
       have hget:∀i (hi:i<ys.length),ys[i]=xs.els[l.toNat+i]'(by omega):=by
        intro i hi
        subst hys
        simp [List.getElem_take,List.getElem_drop]
       have hs:s=sz:=by
        rcases hsize with e | e
        ·rw [←e,←hlen' (l.toNat+0) (by omega)]
         simp [Xs.els,Sh.cells_length]
        ·cases e
       subst hs
       rw [if_neg hne] at hk
       simp only [Option.map_some,add_off] at hk
       refine .rel i1 i2 hk he ?_
       rw [←hlen]
       refine .slv _ ys hme.symm b (oo+l.toNat*s) (cap - l.toNat) s (fun i j=>vals (l.toNat+i) j) (by omega) (fun i hi=>by rw [hget i hi];exact hlen' _ _) ?_ ?_
       ·intro i j hi hj
        have:=hfp (l.toNat+i) j (by omega) hj
        rw [Nat.add_mul] at this
        rw [show oo+l.toNat*s+i*s+j=oo+(l.toNat*s+i*s)+j by omega]
        exact this
       ·intro i j hi hj
        have:=hget i hi
        simp only [this] at hj ⊢
        exact hrel (l.toNat+i) j (by omega) hj
    ·cases he
   ·cases he
  ·cases he
 ·cases he
theorem alloc_ok {P:Program} {o:Oper} {st st':St} {g:Gh} {vs:Array Value} {w:World} (h:Inv P g st vs w) {t:TypeId} (ho:o.op=.alloc t) (he:evAlloc P st t o.dst=some st'):OpOk P o vs w g st':=by
 unfold evAlloc at he
 split at he
 ·rename_i cs hz
  obtain ⟨v,hv,rfl⟩:=run_zero hz w
  obtain ⟨i1,i2⟩:=h.newBox (ty:=t) (c:=v.cells) (cs:=v.cells.toList.map const1) (by simp) (fun i x hx=>by
   simp only [List.getElem?_map,Option.map_eq_some_iff,Array.getElem?_toList] at hx
   obtain ⟨u,hu,rfl⟩:=hx
   exact ⟨u,hu,.inr ⟨(rel_const1 g w u).plain,rel_const1 g w u⟩⟩)
  refine ⟨_,.pointer (some ⟨w.heap.size,0,none⟩),w.alloc (.cells v.cells t),_,?_,.inl rfl,setD_rel i1 he (.ptr _ _ _ (by simp [h.rlen])),i2,fun _=>BoxKeep.alloc h _⟩
  simp [execOp,ho,Instr.alloc,hv,newVar,newRow]
 ·cases he
theorem setCell_self {w:World} {b off:Nat} {c:Array Value} {ty:TypeId} {fz:Nat×Nat} (h:w.heap[b]? = some (.cells c ty fz)) {v:Value} (hv:c[off]? = some v):w.setCell ⟨b,off,none⟩ v=w:=by
 obtain ⟨hlt,he⟩:=Array.getElem?_eq_some_iff.1 h
 unfold World.setCell
 congr 1
 apply Array.ext
 ·simp
 ·intro i h1 h2
  simp only [Array.getElem_modify]
  split
  ·rename_i e
   subst e
   simp only [he]
   simp [setIf_self _ _ _ hv]
  ·rfl
theorem box_ok {P:Program} {o:Oper} {st st':St} {g:Gh} {vs:Array Value} {w:World} (h:Inv P g st vs w) {t:TypeId} {x:Operand} (ho:o.op=.box t x) (he:evBox st t x o.dst=some st'):OpOk P o vs w g st':=by
 have hrun:(execOp (evalV vs) o).run P w=.ok (.value (.pointer (some ⟨w.heap.size,0,none⟩))) (w.alloc (.cells (evalV vs x).cells t)):=by
  simp [execOp,ho,Instr.box,newVar,newRow]
 unfold evBox at he
 split at he
 ·rename_i q hq
  obtain ⟨fl,n,xs,k1,k2,k3,k4⟩:=plc_slot h hq
  rw [k1] at he
  cases x with
  | tmp s=>
   simp only at he
   split at he
   ·rename_i e
    subst e
    obtain ⟨v0,hv0,hok⟩:=own_at h k1 k2
    rw [k3] at hv0
    injection hv0 with hv0
    obtain ⟨aa,ll,cc,hsl⟩:=own_slice hok
    have hcells:(evalV vs (.tmp s)).cells = #[evalV vs (.tmp s)]:=by rw [hv0,hsl];rfl
    obtain ⟨i1,i2⟩:=h.newBox (ty:=t) (c:=(evalV vs (.tmp s)).cells) (cs:=[.dead]) (by rw [hcells];rfl) (fun i x hx=>by
     have:i=0:=by have:=(List.getElem?_eq_some_iff.1 hx).1;simpa using this
     subst this
     injection hx with hx
     exact ⟨evalV vs (.tmp s),by rw [hcells];rfl,.inl hx.symm⟩)
    have hrho:(g.rho++[w.heap.size])[st.σ.length]? = some w.heap.size:=by simp [←h.rlen]
    obtain ⟨g',j1,j2⟩:=i1.moveCell (id:=st.σ.length) (off:=0) (ty:=t) (cs:=[.dead]) (b0:=w.heap.size) (by simp) (by simp) hrho (p:=.tmp s) (by intro e;cases e) (by exact k1) k2 (by exact k3)
    rw [setCell_self (heap_alloc_new w _) (by rw [hcells];rfl)] at j1 j2
    refine ⟨_,_,_,g',hrun,.inl rfl,setD_rel j1 he (.ptr _ _ _ (prefix_get j2.rho hrho)),i2.trans j2,fun hk=>by rw [ho] at hk;cases hk⟩
   ·cases he
  | const _=>cases he
  | func _=>cases he
  | global _=>cases he
 ·split at he
  ·rename_i y st1 hu
   obtain ⟨g',i1,i2,i3,i4,_⟩:=use_sound h hu
   have hR:=RelL.cells i3
   obtain ⟨j1,j2⟩:=i1.newBox (ty:=t) (c:=(evalV vs x).cells) (cs:=y.cells) (by simpa using hR.1) (fun i z hz=>by
    obtain ⟨h1,h2⟩:=List.getElem?_eq_some_iff.1 hz
    have hl:i<(evalV vs x).cells.toList.length:=by rw [hR.1];exact h1
    have hr:=hR.2 i h1 hl
    rw [h2] at hr
    refine ⟨(evalV vs x).cells.toList[i],by simp at hl;simp [hl],.inr ⟨hr.plain,hr⟩⟩)
   exact ⟨_,_,_,_,hrun,.inl rfl,setD_rel j1 he (.ptr _ _ _ (by simp [i1.rlen])),i2.trans j2,fun hk=>by rw [ho] at hk;cases hk⟩
  ·cases he
end Go.AM
namespace Go.AM
open Go.MapKept
theorem of_scalar {s:Sh} {x:PV} {y:s.den} (hs:s.scalar=true) (h:s.of [x]=some y):s.cells y=[x]:=by
 cases s with
 | int k=>
  simp only [Sh.of,Sh.mk] at h
  split at h
  ·rename_i z hz
   split at hz
   ·rename_i k' n r e
    split at hz
    ·rename_i hk
     injection e with e1 e2
     subst e1;subst e2;subst hk
     injection hz with hz;injection hz with hz _
     injection h with h
     rw [←h,←hz];rfl
    ·cases hz
   ·cases hz
  ·cases h
 | bool=>
  simp only [Sh.of,Sh.mk] at h
  split at h
  ·rename_i z hz
   split at hz
   ·rename_i n r e
    injection e with e1 e2
    subst e1;subst e2
    injection hz with hz;injection hz with hz _
    injection h with h
    rw [←h,←hz];rfl
   ·cases hz
  ·cases h
 | flt k=>
  simp only [Sh.of,Sh.mk] at h
  split at h
  ·rename_i z hz
   split at hz
   ·rename_i k' n r e
    split at hz
    ·rename_i hk
     injection e with e1 e2
     subst e1;subst e2;subst hk
     injection hz with hz;injection hz with hz _
     injection h with h
     rw [←h,←hz];rfl
    ·cases hz
   ·cases hz
  ·cases h
 | cpx k=>
  simp only [Sh.of,Sh.mk] at h
  split at h
  ·rename_i z hz
   split at hz
   ·rename_i k' a b r e
    split at hz
    ·rename_i hk
     injection e with e1 e2
     subst e1;subst e2;subst hk
     injection hz with hz;injection hz with hz _
     injection h with h
     rw [←h,←hz];rfl
    ·cases hz
   ·cases hz
  ·cases h
 | str=>
  simp only [Sh.of,Sh.mk] at h
  split at h
  ·rename_i z hz
   split at hz
   ·rename_i n r e
    injection e with e1 e2
    subst e1;subst e2
    injection hz with hz;injection hz with hz _
    injection h with h
    rw [←h,←hz];rfl
   ·cases hz
  ·cases h
 | _=>cases hs
theorem scalar_lit {s:Sh} {x:PV} {y:s.den} (hs:s.scalar=true) (h:s.cells y=[x]):∃u,x=.lit u:=by
 cases s <;> first | (injection h with h _;exact ⟨_,h.symm⟩) | simp [Sh.scalar] at hs
theorem val_of {s:Sh} {x:PV} {y:s.den} (hs:s.scalar=true) (h:s.of [x]=some y):x=.lit (s.val y):=by
 have e:=of_scalar hs h
 obtain ⟨u,rfl⟩:=scalar_lit hs e
 unfold Sh.val
 rw [e];rfl
theorem keyOk_scalar {s:Sh} {d:Option TypeDesc} (h:keyOk s d=true):s.scalar=true:=by
 cases s <;> first | rfl | (simp [keyOk] at h)
theorem keyOk_desc {s:Sh} {d:Option TypeDesc} (h:keyOk s d=true):∃t,d=some t∧∀x:s.den,IsKey t (s.val x):=by
 unfold keyOk at h
 split at h
 ·exact ⟨_,rfl,fun x=>(of_decide_eq_true h:_=_)⟩
 ·exact ⟨_,rfl,fun x=>trivial⟩
 ·cases h
theorem eqK_same {s:Sh} {t:TypeDesc} (h:keyOk s (some t)=true) (a b:s.den):Instr.sameNow t (s.val a) (s.val b)=some (eqK s a b)∧(eqK s a b=true→s.val a=s.val b):=by
 unfold keyOk at h
 split at h
 ·rename_i k k' e
  injection e with e;subst e
  refine ⟨?_,fun h=>?_⟩
  ·show (if k=k then some ((show Int from a) == (show Int from b)) else none)=some (decide ((show Int from a)=(show Int from b)))
   rw [if_pos rfl];rfl
  ·have:(show Int from a)=(show Int from b):=of_decide_eq_true h
   exact congrArg (fun x:Int=>Value.int k x) this
 ·rename_i e
  injection e with e;subst e
  refine ⟨rfl,fun h=>?_⟩
  exact congrArg (fun x:ByteArray=>Value.string x) ((bytes_beq a b).1 h)
 ·cases h
theorem find_map {ks vs:Sh} {t:TypeDesc} (hk:keyOk ks (some t)=true) (a:ks.den):∀(l:List (ks.den×vs.den)) (en:List MapEntry) (j:Nat),en.map (fun e=>(e.key,e.val))=l.map (fun e=>(ks.val e.1,vs.val e.2))→
  (Instr.findNow t (ks.val a) en j=some none∧mhas (eqK ks) l a=false∧(∀z,mget (eqK ks) l a z=z)∧∀b,mput (eqK ks) l a b=l++[(a,b)])∨
  ∃i e,Instr.findNow t (ks.val a) en j=some (some (j+i,e.val))∧en[i]? = some e∧e.key=ks.val a∧mhas (eqK ks) l a=true∧(∀z,e.val=vs.val (mget (eqK ks) l a z))∧∀b,mput (eqK ks) l a b=l.set i (a,b)
 | [],en,j,h=>by
  cases en with
  | nil=>exact .inl ⟨rfl,rfl,fun _=>rfl,fun _=>rfl⟩
  | cons e r=>cases h
 | p :: l,en,j,h=>by
  cases en with
  | nil=>cases h
  | cons e r=>
   simp only [List.map_cons,List.cons.injEq,Prod.mk.injEq] at h
   obtain ⟨⟨h1,h2⟩,h3⟩:=h
   obtain ⟨k1,k2⟩:=eqK_same hk a p.1
   cases hc:eqK ks a p.1 with
   | true=>
    rw [hc] at k1
    exact .inr ⟨0,e,by simp [Instr.findNow,h1,k1],rfl,by rw [h1,k2 hc],by simp [mhas,hc],fun z=>by simp [mget,hc,h2],fun b=>by simp [mput,hc]⟩
   | false=>
    rw [hc] at k1
    rcases find_map hk a l r (j+1) h3 with ⟨i1,i2,i3,i4⟩ | ⟨i,e',i1,i2,i3,i4,i5,i6⟩
    ·exact .inl ⟨by simp [Instr.findNow,h1,k1,i1],by simp [mhas,hc,i2],fun z=>by simp [mget,hc,i3],fun b=>by simp [mput,hc,i4]⟩
    ·exact .inr ⟨i+1,e',by simp [Instr.findNow,h1,k1,i1];omega,by simpa using i2,i3,by simp [mhas,hc,i4],fun z=>by simp [mget,hc,i5 z],fun b=>by simp [mput,hc,i6]⟩
theorem Inv.newMap {P:Program} {st:St} {g:Gh} {vs:Array Value} {w:World} (h:Inv P g st vs w) (ks vt:Sh) :
  Inv P { rho:=g.rho++[w.heap.size],FP:=g.FP,ow:=(g.setOw w.heap.size (.box st.σ.length)).ow,fam:=g.fam } { st with σ:=st.σ++[.mp ⟨ks,vt,[]⟩] } vs (w.alloc (.map #[] 0))∧
  Ext g { rho:=g.rho++[w.heap.size],FP:=g.FP,ow:=(g.setOw w.heap.size (.box st.σ.length)).ow,fam:=g.fam } w (w.alloc (.map #[] 0)):=by
 have hC:=chg_alloc h (g':={ rho:=g.rho++[w.heap.size],FP:=g.FP,ow:=(g.setOw w.heap.size (.box st.σ.length)).ow,fam:=g.fam }) (fun _=>False) (.map #[] 0) (.box st.σ.length) (by simp) ⟨_,rfl⟩ rfl rfl (fun b=>rfl)
 refine ⟨?_,hC.ext⟩
 have hrl:=h.rlen
 refine h.step hC h.size ?_ (by simp [hrl]) ?_ ?_ ?_ ?_ ?_ ?_ ?_ ?_
 ·intro t x hx
  refine .inr (.inl ⟨hx,rfl,fun _=>not_false,fun q hq=>?_⟩)
  obtain ⟨fl,n,xs,h1,_⟩:=alias_content h hx hq
  cases q with
  | tmp u=>exact ⟨rfl,rfl⟩
  | cell id off=>
   simp only [contentAt] at h1
   split at h1
   ·rename_i ty' cs' hσ
    have hid:id<st.σ.length:=(List.getElem?_eq_some_iff.1 hσ).1
    have hlt:g.rho[id]'(by omega)<w.heap.size:=h.olt _ _ (h.rown id _ (famAt_cells hσ) (List.getElem?_eq_getElem (by omega)))
    refine ⟨by simp only [contentAt];rw [List.getElem?_append_left hid],?_⟩
    simp only [realAt]
    rw [List.getElem?_append_left (by omega),List.getElem?_eq_getElem (by omega)]
    exact cell_of_heap (heap_alloc_lt _ _ _ hlt) off
   ·cases h1
 ·intro id ty' cs' b h1 h2
  rcases Nat.lt_or_ge id st.σ.length with hid | hid
  ·rw [List.getElem?_append_left hid] at h1
   rw [List.getElem?_append_left (by omega)] at h2
   exact .inl ⟨h1,h2,not_false,fun _ _ _ _=>not_false⟩
  ·have e:id=st.σ.length:=by have:=(List.getElem?_eq_some_iff.1 h1).1;simp at this;omega
   subst e
   rw [List.getElem?_append_right (by omega)] at h1
   simp at h1
 ·intro id es b h1 h2
  rcases Nat.lt_or_ge id st.σ.length with hid | hid
  ·rw [List.getElem?_append_left hid] at h1
   rw [List.getElem?_append_left (by omega)] at h2
   exact .inl ⟨h1,h2,not_false⟩
  ·have e:id=st.σ.length:=by have:=(List.getElem?_eq_some_iff.1 h1).1;simp at this;omega
   subst e
   rw [List.getElem?_append_right (by omega)] at h1
   rw [List.getElem?_append_right (by omega),hrl] at h2
   simp only [Nat.sub_self,List.getElem?_cons_zero,Option.some.injEq,Bx.mp.injEq] at h1 h2
   subst h1;subst h2
   exact .inr ⟨#[],0,heap_alloc_new _ _,rfl⟩
 ·intro id alts l h1
  rcases Nat.lt_or_ge id st.σ.length with hid | hid
  ·rw [List.getElem?_append_left hid] at h1
   exact .inl ⟨h1,fun _=>not_false,rfl⟩
  ·have e:id=st.σ.length:=by have:=(List.getElem?_eq_some_iff.1 h1).1;simp at this;omega
   subst e
   rw [List.getElem?_append_right (by omega)] at h1
   simp at h1
 ·intro id b hk hb
  show (if b=w.heap.size then some (Own.box st.σ.length) else g.ow b)=_
  rcases Nat.lt_or_ge id g.rho.length with hid | hid
  ·rw [List.getElem?_append_left hid] at hb
   have:=h.rown id b (by unfold famAt at hk ⊢;rwa [List.getElem?_append_left (by omega)] at hk) hb
   rw [if_neg (by have:=h.olt b _ this;omega)];exact this
  ·rw [List.getElem?_append_right hid] at hb
   have e:id=g.rho.length:=by have:=(List.getElem?_eq_some_iff.1 hb).1;simp at this;omega
   subst e
   simp only [Nat.sub_self,List.getElem?_cons_zero,Option.some.injEq] at hb
   rw [if_pos hb.symm,hrl]
 ·intro id i v hv
  have:=h.fdom id i v hv
  simp only [List.length_append,List.length_singleton];omega
 ·intro b o hb
  rw [size_alloc]
  have hb':(if b=w.heap.size then some (Own.box st.σ.length) else g.ow b)=some o:=hb
  split at hb'
  ·omega
  ·have:=h.olt b o hb';omega
 ·intro b i hb
  rw [size_alloc]
  have:=h.flt b i hb;omega
 ·intro b i id hb
  have hb':(if b=w.heap.size then some (Own.box st.σ.length) else g.ow b)=some (.box id):=hb
  split at hb'
  ·rename_i e;subst e;exact FP_new h i
  ·exact h.fbox b i id hb'
theorem makeMap_ok {C:Ctx} {o:Oper} {st st':St} {g:Gh} {vs:Array Value} {w:World} (h:Inv C.P g st vs w) {t:TypeId} {r:Option Operand} (ho:o.op=.makeMap t r) (he:evMakeMap C st t r o.dst=some st'):OpOk C.P o vs w g st':=by
 unfold evMakeMap at he
 split at he
 ·rename_i kt vt hu
  split at he
  ·obtain ⟨i1,i2⟩:=h.newMap (C.sh kt) (C.sh vt)
   refine ⟨_,.map (some w.heap.size),w.alloc (.map #[] 0),_,?_,.inl rfl,setD_rel i1 he (.map _ _ (by simp [h.rlen])),i2,fun _=>BoxKeep.alloc h _⟩
   simp [execOp,ho,Instr.makeMap]
  ·cases he
 ·cases he
theorem mapAt_some {P:Program} {st:St} {g:Gh} {vs:Array Value} {w:World} (h:Inv P g st vs w) {m:Operand} {id:Nat} {y:Mp} (hm:mapAt st m=some (id,y)) :
  st.σ[id]? = some (.mp y)∧∃b en ck,evalV vs m=.map (some b)∧g.rho[id]? = some b∧w.heap[b]? = some (.map en ck)∧en.toList.map (fun e=>(e.key,e.val))=y.es:=by
 unfold mapAt at hm
 split at hm
 ·rename_i i hp
  split at hm
  ·rename_i x hx
   injection hm with hm;injection hm with e1 e2;subst e1;subst e2
   refine ⟨hx,?_⟩
   obtain ⟨p,hs⟩:=peek_slot h hp
   have hs:Rel g w (.map i) (evalV vs m):=hs
   generalize evalV vs m=u at hs
   cases hs with
   | map _ b hb=>
    obtain ⟨en,ck,h1,h2⟩:=h.bmap i x b hx hb
    exact ⟨b,en,ck,rfl,hb,h1,h2⟩
  ·cases hm
 ·cases hm
theorem const1_lit {v u:Value} (h:const1 v=.lit u):v=u:=by
 unfold const1 at h
 split at h
 ·cases h
 ·cases h
 ·injection h
theorem lookup_ok {P:Program} {o:Oper} {st st':St} {g:Gh} {vs:Array Value} {w:World} (h:Inv P g st vs w) {t:TypeId} {m k:Operand} {ok:Bool} (ho:o.op=.lookup t m k ok) (he:evLookup P st t m k ok o.dst=some st'):OpOk P o vs w g st':=by
 unfold evLookup at he
 split at he
 ·rename_i kt vt hu
  split at he
  ·rename_i id y a z hm ha hz
   split at he
   ·rename_i hk
    simp only [Bool.and_eq_true] at hk
    obtain ⟨hk,hs⟩:=hk
    split at he
    ·rename_i a' z' ha' hz'
     split at he
     ·rename_i r hr
      obtain ⟨hσ,b,en,ck,hv,hb,hh,hen⟩:=mapAt_some h hm
      rw [val_of (keyOk_scalar hk) ha'] at ha
      have hka:=peek_litv h ha
      have hzv:=val_of hs hz'
      obtain ⟨d,hd,hkey⟩:=keyOk_desc hk
      rw [hd] at hk
      unfold mapZ at hz
      split at hz
      ·rename_i i hi
       split at hz
       ·rename_i v0 hv0
        injection hz with hz
        have hv1:=const1_lit (hz.trans hzv)
        have hzero:(zeroValue vt).run P w=.ok (y.vs.val z') w:=by rw [←hv1];simp [zeroValue,typeInfo,hi,hv0]
        obtain ⟨u,rfl⟩:=scalar_lit hs hr
        have hu':y.vs.val (mget (eqK y.ks) y.l a' z')=u:=by unfold Sh.val;rw [hr];rfl
        have hrun:(execOp (evalV vs) o).run P w=.ok (.value (match ok with
          | true=>.tuple #[u,.bool (mhas (eqK y.ks) y.l a')]
          | false=>u)) w:=by
         rcases find_map (vs:=y.vs) hk a' y.l en.toList 0 hen with ⟨i1,i2,i3,i4⟩ | ⟨i,e,i1,i2,i3,i4,i5,i6⟩
         ·rw [i3] at hu'
          cases ok <;> simp [execOp,ho,Instr.lookup,hka,hv,run_und hu,run_getObj_map hh,run_checkKey hd (hkey a'),run_findKey hd i1,hzero,hu',i2,Result.andThen]
         ·rw [←i5] at hu'
          cases ok <;> simp [execOp,ho,Instr.lookup,hka,hv,run_und hu,run_getObj_map hh,run_checkKey hd (hkey a'),run_findKey hd i1,hu',i4,Result.andThen]
        refine .rel h (Ext.refl _ _) hrun he ?_
        cases ok with
        | true=>
         refine .tup _ _ rfl fun i hi hv=>?_
         match i,hi with
         | 0,_=>exact .lit _
         | 1,_=>exact .lit _
        | false=>exact .lit _
       ·cases hz
      ·cases hz
     ·cases he
    ·cases he
   ·cases he
  ·cases he
 ·cases he
theorem cell_setBlock {w:World} {b:Nat} {en en':Array MapEntry} {ck ck':Nat} (hb:w.heap[b]? = some (.map en ck)) (a:Addr):({ w with heap:=w.heap.setIfInBounds b (.map en' ck') }:World).cell? a=w.cell? a:=by
 unfold World.cell?
 by_cases e:a.block=b
 ·rw [e,hb]
  have:(w.heap.setIfInBounds b (.map en' ck'))[b]? = some (.map en' ck'):=(heap_set hb).1
  simp only [this]
 ·have:(w.heap.setIfInBounds b (.map en' ck'))[a.block]? = w.heap[a.block]?:=(heap_set hb).2 _ e
  simp only [this]
theorem Inv.setMap {P:Program} {st:St} {g:Gh} {vs:Array Value} {w:World} (h:Inv P g st vs w) {id b:Nat} {y y':Mp} {en en':Array MapEntry} {ck ck':Nat} (hσ:st.σ[id]? = some (.mp y)) (hb:g.rho[id]? = some b)
  (hh:w.heap[b]? = some (.map en ck)) (he:en'.toList.map (fun e=>(e.key,e.val))=y'.es) :
  Inv P g { st with σ:=st.σ.set id (.mp y') } vs { w with heap:=w.heap.setIfInBounds b (.map en' ck') }∧Ext g g w { w with heap:=w.heap.setIfInBounds b (.map en' ck') }:=by
 have ho:=h.rown id b (famAt_mp hσ) hb
 have hlt:id<st.σ.length:=(List.getElem?_eq_some_iff.1 hσ).1
 have hE:Ext g g w { w with heap:=w.heap.setIfInBounds b (.map en' ck') }:=
  {rho:=List.prefix_rfl
   fam:=fun _ _ _ h=>h
   obx:=fun _ _ _ h=>h
   fp:=fun _ _ h=>h
   fpc:=fun b' i _=>cell_setBlock hh _
   keep:=fun b' _ hb'=>(heap_set hh).2 b' (by
    rintro rfl
    rw [ho] at hb'
    rcases hb' with hb' | hb'
    ·cases hb'
    ·injection hb' with hb';cases hb')
   size:=by simp
   frame:=fun _ h=>h
   noframe:=fun _ h=>h
   none_:=fun _ _ h=>h
   fnew:=fun _ _ _ h=>h
   os:=rfl
   tape:=rfl
   output:=rfl }
 have hC:Chg (fun o=>o=.box id) g g w { w with heap:=w.heap.setIfInBounds b (.map en' ck') }:=
  ⟨hE,fun b' o' h1 h2 _=>(heap_set hh).2 b' (by rintro rfl;rw [ho] at h1;injection h1 with h1;exact h2 h1.symm),fun _ _ h _=>h,fun _ _ _ _ _ h=>h⟩
 refine ⟨?_,hE⟩
 have hfamAt:∀i,famAt (st.σ.set id (.mp y')) i=famAt st.σ i:=fun i=>by
  unfold famAt
  by_cases e:id=i
  ·subst e;rw [List.getElem?_set_self hlt,hσ];rfl
  ·rw [List.getElem?_set_ne e]
 refine h.step hC h.size ?_ (by simp [h.rlen]) ?_ ?_ ?_ (fun i b' h1 h2=>h.rown i b' (by rw [←hfamAt];exact h1) h2) (fun i j v hv=>by simpa using h.fdom i j v hv) (fun b' o hb'=>by simpa using h.olt b' o hb') (fun b' i hb'=>by simpa using h.flt b' i hb') h.fbox
 ·intro t x hx
  refine .inr (.inl ⟨hx,rfl,(fun _ e=>by cases e),fun q hq=>?_⟩)
  obtain ⟨fl,n,xs,h1,_⟩:=alias_content h hx hq
  cases q with
  | tmp u=>exact ⟨rfl,rfl⟩
  | cell i off=>
   simp only [contentAt] at h1 ⊢
   by_cases e:id=i
   ·subst e;rw [hσ] at h1;cases h1
   ·refine ⟨by rw [List.getElem?_set_ne e],?_⟩
    simp only [realAt]
    cases g.rho[i]? with
    | none=>rfl
    | some b'=>exact cell_setBlock hh _
 ·intro i ty cs b' h1 h2
  have e:id≠i:=by rintro rfl;rw [List.getElem?_set_self hlt] at h1;cases h1
  rw [List.getElem?_set_ne e] at h1
  exact .inl ⟨h1,h2,fun e'=>by injection e' with e';exact e e'.symm,fun _ _ _ _ e'=>by cases e'⟩
 ·intro i es b' h1 h2
  by_cases e:id=i
  ·subst e
   rw [List.getElem?_set_self hlt] at h1
   injection h1 with h1;injection h1 with h1;subst h1
   rw [hb] at h2;injection h2 with h2;subst h2
   exact .inr ⟨en',ck',(heap_set hh).1,he⟩
  ·rw [List.getElem?_set_ne e] at h1
   exact .inl ⟨h1,h2,fun e'=>by injection e' with e';exact e e'.symm⟩
 ·intro i alts l h1
  have e:id≠i:=by rintro rfl;rw [List.getElem?_set_self hlt] at h1;cases h1
  rw [List.getElem?_set_ne e] at h1
  exact .inl ⟨h1,(fun _ e'=>by cases e'),rfl⟩
theorem stays_self {v:Value} {d:TypeDesc} (h:IsKey d v):Instr.sameBits 10000 v v=true:=by
 cases d <;> cases v <;> simp_all [IsKey,Instr.sameBits]
 exact (bytes_beq _ _).2 rfl
theorem mapSet_ok {P:Program} {o:Oper} {st st':St} {g:Gh} {vs:Array Value} {w:World} (h:Inv P g st vs w) {t:TypeId} {m k x:Operand} (ho:o.op=.insert t m k x∨o.op=.mapUpdate t m k x) (he:evMapSet P st t m k x o.dst=some st'):OpOk P o vs w g st':=by
 unfold evMapSet at he
 split at he
 ·rename_i kt vt hu
  split at he
  ·rename_i id y a b hm ha hb
   split at he
   ·rename_i hk
    simp only [Bool.and_eq_true] at hk
    obtain ⟨hk,hs⟩:=hk
    split at he
    ·rename_i a' b' ha' hb'
     obtain ⟨hσ,bk,en,ck,hv,hbk,hh,hen⟩:=mapAt_some h hm
     rw [val_of (keyOk_scalar hk) ha'] at ha
     rw [val_of hs hb'] at hb
     have hka:=peek_litv h ha
     have hkb:=peek_litv h hb
     obtain ⟨d,hd,hkey⟩:=keyOk_desc hk
     rw [hd] at hk
     have hop:(execOp (evalV vs) o).run P w=((do Instr.mapUpdate t (.map (some bk)) (y.ks.val a') (y.vs.val b');pure Next.skip):Sem _).run P w:=by
      rcases ho with ho | ho <;> simp [execOp,ho,hka,hkb,hv]
     have hrun:∃en' ck',(Instr.mapUpdate t (.map (some bk)) (y.ks.val a') (y.vs.val b')).run P w=.ok () { w with heap:=w.heap.setIfInBounds bk (.map en' ck') }∧
       en'.toList.map (fun e=>(e.key,e.val))=(⟨y.ks,y.vs,mput (eqK y.ks) y.l a' b'⟩:Mp).es:=by
      rcases find_map (vs:=y.vs) hk a' y.l en.toList 0 hen with ⟨i1,i2,i3,i4⟩ | ⟨i,e,i1,i2,i3,i4,i5,i6⟩
      ·refine ⟨en.push { key:=y.ks.val a',val:=y.vs.val b',born:=ck },ck+1,?_,?_⟩
       ·simp [Instr.mapUpdate,run_und hu,run_getObj_map hh,run_checkKey hd (hkey a'),run_findKey hd i1,run_setObj_map _ hh,Result.andThen]
       ·simp only [Mp.es,i4,Array.toList_push,List.map_append,hen,List.map_cons,List.map_nil]
      ·have hj:en[i]? = some e:=by simpa using i2
       refine ⟨en.modify i fun e=>{ e with key:=y.ks.val a',val:=y.vs.val b' },ck,?_,?_⟩
       ·have hst:Instr.keyThatStays (y.ks.val a') (y.ks.val a')=pure (y.ks.val a'):=by unfold Instr.keyThatStays;rw [if_pos (stays_self (hkey a'))]
        simp [Instr.mapUpdate,run_und hu,run_getObj_map hh,run_checkKey hd (hkey a'),run_findKey hd i1,hj,i3,hst,run_setObj_map _ hh,Result.andThen]
       ·have hen':en.toList.map (fun e=>(e.key,e.val))=y.l.map fun e=>(y.ks.val e.1,y.vs.val e.2):=hen
        simp only [Mp.es,i6,Array.toList_modify,List.map_set,←hen']
        apply List.ext_getElem?
        intro n
        simp only [List.getElem?_map,List.getElem?_modify,List.getElem?_set,List.length_map]
        by_cases en1:i=n
        ·subst en1
         have hl:i<en.toList.length:=by have:=(List.getElem?_eq_some_iff.1 i2).1;exact this
         simp only [i2,Option.map_some,if_pos hl,if_true]
         simpa using hl
        ·simp [en1]
     obtain ⟨en',ck',r1,r2⟩:=hrun
     obtain ⟨j1,j2⟩:=h.setMap (ck':=ck') hσ hbk hh r2
     refine ⟨.skip,undef,_,g,by rw [hop];simp [r1],.inr ⟨rfl,rfl⟩,setD_rel j1 he (.lit _),j2,fun hk'=>by rcases ho with ho | ho <;> rw [ho] at hk' <;> cases hk'⟩
    ·cases he
   ·cases he
  ·cases he
 ·cases he
end Go.AM
namespace Go.AM
def RelP (g:Gh) (w:World):List (Nat×List PV)→List (Nat×Value)→Prop
 | [],[]=>True
 | (i,cs) :: ys,(j,v) :: us=>i=j∧RelL g w cs v.cells.toList∧RelP g w ys us
 | _,_=>False
theorem RelL.ext {g g':Gh} {w w':World} {cs:List PV} {us:List Value} (h:RelL g w cs us) (hE:Ext g g' w w'):RelL g' w' cs us:=⟨h.1,fun i hi hv=>(h.2 i hi hv).ext hE⟩
theorem parts_sound {P:Program} {vs:Array Value} {w:World}:∀{ps:List (Nat×Operand)} {st st1:St} {ys:List (Nat×List PV)} {g:Gh},Inv P g st vs w→st.parts ps=some (ys,st1)→
  ∃g',Inv P g' st1 vs w∧Ext g g' w w∧RelP g' w ys (ps.map fun p=>(p.1,evalV vs p.2))∧st1.n=st.n:=by
 intro ps
 induction ps with
 | nil=>
  intro st st1 ys g h he
  injection he with he
  injection he with h1 h2
  subst h1;subst h2
  exact ⟨g,h,Ext.refl _ _,trivial,rfl⟩
 | cons p ps ih=>
  intro st st1 ys g h he
  obtain ⟨i,x⟩:=p
  simp only [St.parts] at he
  split at he
  ·rename_i y st2 hu
   split at he
   ·rename_i ys' st3 hp
    injection he with he
    injection he with h1 h2
    subst h1;subst h2
    obtain ⟨g1,i1,i2,i3,i4,i5⟩:=use_sound h hu
    obtain ⟨g2,j1,j2,j3,j4⟩:=ih i1 hp
    exact ⟨g2,j1,i2.trans j2,⟨rfl,(RelL.cells (i3.ext j2)),j3⟩,j4.trans i5⟩
   ·cases he
  ·cases he
theorem foldl_overw (vs:List Value):∀(cs:Array Value) (off k:Nat),(vs.zipIdx k).foldl (fun cs p=>cs.setIfInBounds (off+p.2) p.1) cs=overw cs (off+k) vs:=by
 induction vs with
 | nil=>intro cs off k;rfl
 | cons v vs ih=>
  intro cs off k
  simp only [List.zipIdx_cons,List.foldl_cons]
  rw [ih]
  simp only [overw,Nat.add_assoc]
theorem RelL.set {g:Gh} {w:World} {cs:List PV} {c:Array Value} (h:RelL g w cs c.toList) {i:Nat} {x:PV} {v:Value} (hr:Rel g w x v):RelL g w (cs.set i x) (c.setIfInBounds i v).toList:=by
 refine ⟨by simpa using h.1,fun j hj hv=>?_⟩
 simp only [Array.toList_setIfInBounds] at hv ⊢
 by_cases e:i=j
 ·subst e
  simp only [List.getElem_set_self]
  exact hr
 ·simp only [List.getElem_set_ne e]
  exact h.2 j (by simpa using hj) (by simpa using hv)
theorem setRange_rel {g:Gh} {w:World} {xs:List PV}:∀{us:List Value} {cs:List PV} {c:Array Value} {off:Nat},RelL g w cs c.toList→RelL g w xs us→RelL g w (setRange cs off xs) (overw c off us).toList:=by
 induction xs with
 | nil=>
  intro us cs c off h hx
  have:us=[]:=List.eq_nil_of_length_eq_zero hx.1
  subst this
  exact h
 | cons x xs ih=>
  intro us cs c off h hx
  cases us with
  | nil=>have:=hx.1;simp at this
  | cons u us=>
   exact ih (h.set (hx.2 0 (by simp) (by simp))) ⟨by simpa using hx.1,fun j hj hv=>hx.2 (j+1) (by simpa using hj) (by simpa using hv)⟩
theorem fill_rel {g:Gh} {w:World} {place:Nat→Option (Nat×Nat)}:∀{ys:List (Nat×List PV)} {us:List (Nat×Value)} {cs cs':List PV} {c:Array Value},RelL g w cs c.toList→RelP g w ys us→fillP place cs ys=some cs'→
  ∃c',Instr.fill place c us=some c'∧RelL g w cs' c'.toList:=by
 intro ys
 induction ys with
 | nil=>
  intro us cs cs' c h hp he
  cases us with
  | nil=>injection he with he;subst he;exact ⟨c,rfl,h⟩
  | cons u us=>exact hp.elim
 | cons y ys ih=>
  intro us cs cs' c h hp he
  cases us with
  | nil=>obtain ⟨i,xs⟩:=y;exact hp.elim
  | cons u us=>
   obtain ⟨i,xs⟩:=y
   obtain ⟨j,v⟩:=u
   obtain ⟨rfl,h1,h2⟩:=hp
   simp only [fillP] at he
   split at he
   ·rename_i off size hpl
    split at he
    ·rename_i hh
     rw [nrm_eq] at he
     have hsz:v.cells.size=size:=by have:=h1.1;simp at this;omega
     have hcs:c.size=cs.length:=by simpa using h.1
     obtain ⟨c',k1,k2⟩:=ih (setRange_rel (off:=off) h h1) h2 he
     refine ⟨c',?_,k2⟩
     simp only [Instr.fill,hpl]
     rw [if_neg (by simp [hsz];omega)]
     have hf:=foldl_overw v.cells.toList c off 0
     have e:v.cells.zipIdx.foldl (fun cs p=>cs.setIfInBounds (off+p.2) p.1) c=overw c off v.cells.toList:=by
      rw [←Array.foldl_toList]
      simpa using hf
     rw [←k1,←e]
    ·cases he
   ·cases he
theorem places_mapM {P:Program}:∀{fs:List Field} {pl:List (Nat×Nat)},fieldPlaces P fs=some pl→fs.mapM (fun f=>(P.info? f.type).map fun i=>(f.offset,i.size))=some pl:=by
 intro fs
 induction fs with
 | nil=>intro pl h;injection h with h;subst h;rfl
 | cons f fs ih=>
  intro pl h
  simp only [fieldPlaces] at h
  split at h
  ·rename_i n r hn hr
   injection h with h
   subst h
   obtain ⟨i,hi,hs⟩:=szOf_info hn
   simp [List.mapM_cons,hi,ih hr,hs]
  ·cases h
theorem build_ok {P:Program} {o:Oper} {st st':St} {g:Gh} {vs:Array Value} {w:World} (h:Inv P g st vs w) {t:TypeId} {ps:Array (Nat×Operand)} (ho:o.op=.build t ps) (he:evBuild P st t ps o.dst=some st'):OpOk P o vs w g st':=by
 unfold evBuild at he
 split at he
 ·rename_i zs ys st1 hz hp
  obtain ⟨g',i1,i2,i3,_⟩:=parts_sound h hp
  unfold zeroPV at hz
  split at hz
  ·rename_i it hit
   split at hz
   ·rename_i z hzz
    injection hz with hz
    have key:∀cs,P.built t (ps.toList.map fun p=>(p.1,evalV vs p.2))=some cs→(execOp (evalV vs) o).run P w=.ok (.value (.agg cs)) w:=by
     intro cs hb
     have:=run_build (P:=P) w t (ps.map fun p=>(p.1,evalV vs p.2)) cs (by simpa using hb)
     simp only [execOp,ho,Sem.run_bind,this,Result.andThen_ok,Sem.run_pure]
    have hzr:RelL g' w zs z.cells.toList:=by rw [←hz];exact RelL.zero g' w z
    split at he
    ·rename_i fs hu
     split at he
     ·rename_i pl hpl
      split at he
      ·rename_i cs hcs
       obtain ⟨c',k1,k2⟩:=fill_rel hzr i3 hcs
       refine .rel (v:=.agg c') i1 i2 (key c' ?_) he (by have:=RelL.agg k2;simpa using this)
       simp only [Program.built,hit,hu,hzz,places_mapM hpl]
       rw [←k1]
       congr 1
       funext i
       simp
      ·cases he
     ·cases he
    ·rename_i len e hu
     split at he
     ·rename_i n hn
      split at he
      ·rename_i cs hcs
       obtain ⟨ie,hie,hsz⟩:=szOf_info hn
       obtain ⟨c',k1,k2⟩:=fill_rel hzr i3 hcs
       refine .rel (v:=.agg c') i1 i2 (key c' ?_) he (by have:=RelL.agg k2;simpa using this)
       simp only [Program.built,hit,hu,hzz,hie,hsz]
       exact k1
      ·cases he
     ·cases he
    ·cases he
   ·cases hz
  ·cases hz
 ·cases he
def Flat (g:Gh) (w:World) (s:Nat) (xs:List (List PV)) (c:Array Value):Prop:=
 c.size=xs.length*s∧(∀i,(h:i<xs.length)→xs[i].length=s)∧∀i j (hi:i<xs.length) (hj:j<xs[i].length),∃v,c[i*s+j]? = some v∧Rel g w xs[i][j] v
theorem mul_lt_of {i j n s:Nat} (hi:i<n) (hj:j<s):i*s+j<n*s:=by
 have:(i+1)*s≤n*s:=Nat.mul_le_mul_right _ hi
 rw [Nat.succ_mul] at this
 omega
theorem Flat.set {g:Gh} {w:World} {s:Nat} {xs:List (List PV)} {c:Array Value} (h:Flat g w s xs c) {k:Nat} (hk:k<xs.length) {cs:List PV} {us:List Value} (hl:cs.length=s) (hr:RelL g w cs us):Flat g w s (xs.set k cs) (overw c (k*s) us):=by
 have hul:us.length=s:=by rw [hr.1,hl]
 have hin:k*s+us.length≤c.size:=by
  rw [h.1,hul]
  have:(k+1)*s≤xs.length*s:=Nat.mul_le_mul_right _ hk
  rw [Nat.succ_mul] at this
  omega
 refine ⟨by rw [overw_size,h.1,List.length_set],fun i hi=>?_,fun i j hi hj=>?_⟩
 ·by_cases e:k=i
  ·subst e;simp [hl]
  ·rw [List.getElem_set_ne e];exact h.2.1 i (by simpa using hi)
 ·rw [overw_get us c _ hin]
  by_cases e:k=i
  ·subst e
   simp only [List.getElem_set_self] at hj ⊢
   rw [if_pos (by omega),Nat.add_sub_cancel_left]
   exact ⟨us[j]'(by omega),List.getElem?_eq_getElem (by omega),hr.2 j hj (by omega)⟩
  ·simp only [List.getElem_set_ne e] at hj ⊢
   have hi':i<xs.length:=by simpa using hi
   have hj':j<s:=by rw [←h.2.1 i hi'];exact hj
   rw [if_neg]
   ·exact h.2.2 i j hi' hj
   ·intro hh
    rcases Nat.lt_or_gt_of_ne e with h5 | h5
    ·have h6:(k+1)*s≤i*s:=Nat.mul_le_mul_right _ h5
     rw [Nat.succ_mul] at h6
     omega
    ·have h6:(i+1)*s≤k*s:=Nat.mul_le_mul_right _ h5
     rw [Nat.succ_mul] at h6
     omega
theorem fillE_rel {g:Gh} {w:World} {s:Sh}:∀{ys:List (Nat×List PV)} {us:List (Nat×Value)} {xs xs':List s.den} {c:Array Value},Flat g w s.size (xs.map s.cells) c→RelP g w ys us→fillE s xs ys=some xs'→
  ∃c',Instr.fill (fun i=>some (i*s.size,s.size)) c us=some c'∧Flat g w s.size (xs'.map s.cells) c'∧xs'.length=xs.length:=by
 intro ys
 induction ys with
 | nil=>
  intro us xs xs' c h hp he
  cases us with
  | nil=>injection he with he;subst he;exact ⟨c,rfl,h,rfl⟩
  | cons u us=>exact hp.elim
 | cons y ys ih=>
  intro us xs xs' c h hp he
  cases us with
  | nil=>obtain ⟨i,cs⟩:=y;exact hp.elim
  | cons u us=>
   obtain ⟨i,cs⟩:=y
   obtain ⟨j,v⟩:=u
   obtain ⟨rfl,h1,h2⟩:=hp
   simp only [fillE] at he
   split at he
   ·rename_i x hx
    obtain ⟨o1,o2⟩:=Sh.of_ok hx
    split at he
    ·rename_i hh
     rw [nrm_eq] at he
     have hsz:v.cells.size=s.size:=by have:=h1.1;simp at this;omega
     have hset:=h.set (k:=i) (by simpa using hh) (s.cells_length x) (o2 h1)
     rw [←List.map_set] at hset
     obtain ⟨c',k1,k2,k3⟩:=ih hset h2 he
     refine ⟨c',?_,k2,by rw [k3,List.length_set]⟩
     simp only [Instr.fill]
     have hin:i*s.size+s.size≤c.size:=by
      rw [h.1,List.length_map]
      have:(i+1)*s.size≤xs.length*s.size:=Nat.mul_le_mul_right _ hh
      rw [Nat.succ_mul] at this
      omega
     rw [if_neg (by simp [hsz];omega)]
     have hf:=foldl_overw v.cells.toList c (i*s.size) 0
     have e:v.cells.zipIdx.foldl (fun cs p=>cs.setIfInBounds (i*s.size+p.2) p.1) c=overw c (i*s.size) v.cells.toList:=by
      rw [←Array.foldl_toList]
      simpa using hf
     rw [←k1,←e]
    ·cases he
   ·cases he
theorem flat_zero (g:Gh) (w:World) (z:Value) (cs:List PV) (len s:Nat) (hs:z.cells.size=s) (_hp:0<s) (hr:RelL g w cs z.cells.toList):Flat g w s (List.replicate len cs) ((Array.range (len*s)).map (z.cells[· % z.cells.size]!)):=by
 have hcs:cs.length=s:=by have:=hr.1;simp at this;omega
 refine ⟨by simp,fun i hi=>by simp [hcs],fun i j hi hj=>?_⟩
 simp only [List.length_replicate] at hi
 simp only [List.getElem_replicate] at hj ⊢
 have hj':j<s:=by omega
 have hlt:=mul_lt_of hi hj'
 refine ⟨z.cells[j],?_,?_⟩
 ·rw [Array.getElem?_map,Array.getElem?_range,if_pos hlt]
  simp only [Option.map_some,hs]
  rw [Nat.mul_comm i s,Nat.mul_add_mod,Nat.mod_eq_of_lt hj',getElem!_pos z.cells j (by omega)]
 ·have:=hr.2 j hj (by simp;omega)
  simpa using this
theorem buildSlice_ok {C:Ctx} {o:Oper} {st st':St} {g:Gh} {vs:Array Value} {w:World} (h:Inv C.P g st vs w) {t:TypeId} {len:Nat} {ps:Array (Nat×Operand)} (ho:o.op=.buildSlice t len ps) (he:evBuildSlice C st t len ps o.dst=some st'):OpOk C.P o vs w g st':=by
 unfold evBuildSlice at he
 split at he
 ·rename_i e hu
  split at he
  ·rename_i n zs ys st1 hn hz hp
   obtain ⟨g',i1,i2,i3,_⟩:=parts_sound h hp
   obtain ⟨z,hzr,hzs⟩:=run_zero hz w
   split at he
   ·rename_i hh
    obtain ⟨hb,hzl⟩:=hh
    split at he
    ·rename_i z0 hz0
     obtain ⟨o1,o2⟩:=Sh.of_ok hz0
     have hzn:z.cells.size=n+1:=by
      rw [hzl] at o1
      rw [←o1,hzs];simp
     have hfl:=flat_zero g' w z ((C.sh e).cells z0) len (n+1) hzn (by omega) (o2 (by rw [hzs];exact RelL.zero g' w z))
     rw [←hzl,←List.map_replicate] at hfl
     split at he
     case h_2=>cases he
     rename_i xs hxs
     obtain ⟨c',k1,k2,k3⟩:=fillE_rel hfl i3 hxs
     rw [hzl] at k1 k2
     rw [List.length_replicate] at k3
     have hrun:(execOp (evalV vs) o).run C.P w=.ok (.value (.slice (some ⟨w.heap.size,0,none⟩) len len)) (w.alloc (.cells c' e)):=by
      have hps:(ps.map fun p=>(p.1,evalV vs p.2)).toList=ps.toList.map fun p=>(p.1,evalV vs p.2):=by simp
      simp only [execOp,ho,Instr.buildSlice,Sem.run_bind,run_und hu,Result.andThen_ok,run_size hn,Nat.succ_eq_add_one,hps]
      rw [if_neg (by omega)]
      by_cases e0:len*(n+1)=0
      ·rw [if_pos e0]
       have k1':Instr.fill (fun i=>some (i*(n+1),n+1)) ((Array.range (len*(n+1))).map ((#[]:Array Value)[· % (#[]:Array Value).size]!)) (ps.toList.map fun p=>(p.1,evalV vs p.2))=some c':=by
        have k2':=k1
        rw [e0] at k2' ⊢
        have ea:∀f f':Nat→Value,(Array.range 0).map f=(Array.range 0).map f':=fun f f'=>by simp
        rw [ea _ (fun x=>z.cells[x % z.cells.size]!)]
        exact k2'
       simp only [Sem.run_bind,Sem.run_pure,Result.andThen_ok,k1',newRow,run_newObj]
       rfl
      ·rw [if_neg e0]
       simp only [Sem.run_bind,hzr,Sem.run_pure,Result.andThen_ok,k1,newRow,run_newObj]
       rfl
     cases hd:o.dst with
     | none=>
      rw [hd] at he
      injection he with he
      subst he
      have hE:Ext g' g' w (w.alloc (.cells c' e)):=
       ⟨List.prefix_rfl,fun _ _ _ h=>h,fun _ _ _ h=>h,fun _ _ h=>h,fun b i hb=>cell_of_heap (heap_alloc_lt _ _ _ (i1.flt b i hb)) i,fun b hb _=>heap_alloc_lt _ _ _ hb,by rw [size_alloc];omega,fun _ h=>h,fun _ h=>h,fun _ _ h=>h,fun _ _ _ h=>h,rfl,rfl,rfl⟩
      have hC:Chg (fun _=>False) g' g' w (w.alloc (.cells c' e)):=⟨hE,fun b _ _ _ hb=>heap_alloc_lt _ _ _ hb,fun _ _ h _=>h,fun _ _ _ _ _ h=>h⟩
      refine ⟨_,.slice (some ⟨w.heap.size,0,none⟩) len len,_,g',hrun,.inl rfl,?_,i2.trans hE,fun _=>BoxKeep.alloc h _⟩
      rw [hd]
      refine i1.step hC i1.size (fun t x hx=>.inr (.inl ⟨hx,rfl,fun _=>not_false,fun q hq=>⟨rfl,?_⟩⟩)) i1.rlen (fun id ty cs b h1 h2=>.inl ⟨h1,h2,not_false,fun _ _ _ _=>not_false⟩) (fun id es b h1 h2=>.inl ⟨h1,h2,not_false⟩) (fun id alts l h1=>.inl ⟨h1,fun _=>not_false,rfl⟩) i1.rown i1.fdom ?_ ?_ i1.fbox
      ·cases q with
       | tmp t=>rfl
       | cell id off=>
        obtain ⟨fl,n,xs,k1,_⟩:=alias_content i1 hx hq
        exact realAt_cell_same i1 hC rfl (by simp) (famAt_content k1)
      ·intro b o hb;rw [size_alloc];have:=i1.olt b o hb;omega
      ·intro b i hb;rw [size_alloc];have:=i1.flt b i hb;omega
     | some d=>
      rw [hd] at he
      simp only [St.setD] at he
      split at he
      ·rename_i hlt
       injection he with he
       subst he
       have hce:=szOf_cells hn
       obtain ⟨j1,j2⟩:=i1.newOwn (e:=e) (fl:=.excl e) hlt rfl rfl (xs:=xs.map (C.sh e).cells) (zs:=⟨C.sh e,xs⟩) rfl (c:=c') (cap:=xs.length) (fz:=(0,0)) (by simp) (by rw [hce];simpa using k2.1) (fun i _ h=>by omega) (fun i hi=>by rw [hce];exact k2.2.1 i hi) (fun i j hi hj=>by rw [hce];exact k2.2.2 i j hi hj)
       rw [List.length_map,k3] at j1
       refine ⟨_,_,_,_,hrun,.inl rfl,?_,i2.trans j2,fun _=>BoxKeep.alloc h _⟩
       rw [hd]
       exact j1
      ·cases he
    ·cases he
   ·cases he
  ·cases he
 ·cases he
end Go.AM
