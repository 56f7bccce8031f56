/- An abstract machine, and that what it reckons is what the program does. -/
import Derived.Test.YtmknfofhhnfkcaaGreatDoorBmH1
import Derived.Laws.IdiomStrings
import Derived.Orders
set_option linter.all false
namespace Go.AM
theorem div_mod_lt {k n s:Nat} (h:k<n*s):k / s<n∧k % s<s∧k / s*s+k % s=k:=by
 have hs:0<s:=by
  rcases Nat.eq_zero_or_pos s with e | e
  ·subst e;simp at h
  ·exact e
 exact ⟨Nat.div_lt_of_lt_mul (by rw [Nat.mul_comm];exact h),Nat.mod_lt _ hs,by rw [Nat.mul_comm];exact Nat.div_add_mod k s⟩
structure FlatL (g:Gh) (w:World) (s:Nat) (ys:List (List PV)) (us:List Value):Prop where
 len:us.length=ys.length*s
 each:∀i,(h:i<ys.length)→ys[i].length=s
 rel:∀i j (hi:i<ys.length) (hj:j<ys[i].length),∃v,us[i*s+j]? = some v∧Rel g w ys[i][j] v
theorem Elems.flat {g:Gh} {w:World} {b o s:Nat} {xs:List (List PV)} (h:Elems g w b o s xs):∃us,FlatL g w s xs us∧∀(k:Nat) (hk:k<us.length),w.cell? ⟨b,o+k,none⟩=some us[k]:=by
 refine ⟨(List.range (xs.length*s)).map fun k=>(w.cell? ⟨b,o+k,none⟩).getD undef,⟨by simp,h.1,?_⟩,?_⟩
 ·intro i j hi hj
  obtain ⟨v,h1,h2⟩:=h.2 i j hi hj
  have hj':j<s:=by rw [←h.1 i hi];exact hj
  refine ⟨v,?_,h2⟩
  rw [List.getElem?_map,List.getElem?_range (mul_lt_of hi hj')]
  simp only [Option.map_some]
  rw [←Nat.add_assoc,h1]
  rfl
 ·intro k hk
  simp only [List.length_map,List.length_range] at hk
  obtain ⟨h1,h2,h3⟩:=div_mod_lt hk
  obtain ⟨v,h4,_⟩:=h.2 (k / s) (k % s) h1 (by rw [h.1 _ h1];exact h2)
  rw [Nat.add_assoc,h3] at h4
  simp [h4]
theorem FlatL.one {g:Gh} {w:World} {s:Nat} {ys:List (List PV)} {us:List Value} (h:FlatL g w s ys us) (ho:∀c∈ys,∀x∈c,x.one=true):∀u∈us,(∀cs,u≠.agg cs)∧∀cs,u≠.tuple cs:=by
 intro u hu
 obtain ⟨k,hk,rfl⟩:=List.getElem_of_mem hu
 obtain ⟨h1,h2,h3⟩:=div_mod_lt (by rw [←h.len];exact hk)
 have hj:k % s<(ys[k / s]).length:=by rw [h.each _ h1];exact h2
 obtain ⟨v,e1,e2⟩:=h.rel (k / s) (k % s) h1 hj
 rw [h3,List.getElem?_eq_getElem hk] at e1
 injection e1 with e1
 rw [e1]
 exact one_val e2 (ho _ (List.getElem_mem h1) _ (List.getElem_mem hj))
theorem run_storeCells_blit {P:Program} {b off0:Nat}:∀{us:List Value} {i:Nat} {w:World} {c:Array Value} {ty:TypeId} {fz:Nat×Nat},w.heap[b]? = some (.cells c ty fz)→Unfz fz c.size→off0+i+us.length≤c.size→
  (∀u∈us,(∀cs,u≠.agg cs)∧∀cs,u≠.tuple cs)→(storeCells ⟨b,off0,none⟩ us i).run P w=.ok () (wblit w b (off0+i) us):=by
 intro us
 induction us with
 | nil=>intro i w c ty fz _ _ _ _;simp [storeCells,wblit]
 | cons u us ih=>
  intro i w c ty fz hb hz hs h1
  simp only [List.length_cons] at hs
  have hcell:w.cell? ⟨b,off0+i,none⟩=some (c[off0+i]'(by omega)):=by
   simp only [World.cell?,hb]
   simp [show off0+i<c.size by omega]
  obtain ⟨n1,n2⟩:=h1 u (by simp)
  simp only [storeCells,Sem.run_bind,add_off,run_store1 hcell (unfz_frozen hb hz (by omega)) n1 n2,Result.andThen_ok]
  have:=ih (i:=i+1) (heap_setCell_self w b (off0+i) u hb) (by simpa using hz) (by simp;omega) (fun u hu=>h1 u (by simp [hu]))
  rw [this]
  rfl
def optEls:Option Xs→List (List PV)
 | some ys=>ys.els
 | none=>[]
theorem optLen_eq (o:Option Xs):optLen o=(optEls o).length:=by cases o <;> simp [optLen,optEls,Xs.els]
theorem appN_els (s:Sh) (o:Option Xs):(appN s o).els=optEls o:=by cases o <;> rfl
theorem castX_map {a b:Sh} (h:a=b) (l:List a.den):(castX h l).map b.cells=l.map a.cells:=by subst h;rfl
theorem appX_els {xs zs:Xs} {o:Option Xs} (h:appX xs o=some zs):zs.els=xs.els++optEls o:=by
 cases o with
 | none=>injection h with h;subst h;simp [optEls]
 | some ys=>
  simp only [appX] at h
  split at h
  ·rename_i e
   injection h with h;subst h
   simp only [Xs.els,List.map_append,castX_map,optEls]
  ·cases h
theorem Sh.cells_one:∀(s:Sh) (y:s.den),∀x∈s.cells y,x.one=true:=by
 intro s
 induction s with
 | cons a b iha ihb=>
  intro y x hx
  simp only [Sh.cells,List.mem_append] at hx
  rcases hx with hx | hx
  ·exact iha _ _ hx
  ·exact ihb _ _ hx
 | unit=>intro y x hx;cases hx
 | _=>intro y x hx;simp only [Sh.cells,List.mem_singleton] at hx;subst hx;rfl
theorem elemsOf_sound {P:Program} {st:St} {g:Gh} {vs:Array Value} {w:World} (h:Inv P g st vs w) {n:Nat} {x:Operand} {oy:Option Xs} (he:elemsOf st n x=some oy) :
  ∃us,FlatL g w n (optEls oy) us∧(∀u∈us,(∀cs,u≠.agg cs)∧∀cs,u≠.tuple cs)∧(∀w0:World,w0.heap=w.heap→(Builtin.lenOf (evalV vs x)).run P w0=.ok (optEls oy).length w0)∧∀w0:World,w0.heap=w.heap→(Builtin.firstCells n (optEls oy).length (evalV vs x)).run P w0=.ok us.toArray w0:=by
 unfold elemsOf at he
 split at he
 ·rename_i fl y0 hp
  injection he with he
  subst he
  obtain ⟨p,hs⟩:=peek_slot h hp
  rcases slot_sl hs with ⟨_,hv⟩ | ⟨hn,_⟩
  ·exact ⟨[],⟨by simp [optEls],fun i hi=>by simp [optEls] at hi,fun i j hi=>by simp [optEls] at hi⟩,fun u hu=>by simp at hu,fun w0 _=>by simp [hv,Builtin.lenOf,optEls],fun w0 _=>by simp [hv,Builtin.firstCells,optEls]⟩
  ·cases hn
 ·rename_i fl y0 hp
  split at he
  ·rename_i hsize
   injection he with he
   subst he
   obtain ⟨p,hs⟩:=peek_slot h hp
   have hone:∀c∈y0.els,c.length=n∧∀x∈c,x.one=true:=by
    intro c hc
    simp only [Xs.els,List.mem_map] at hc
    obtain ⟨z,_,rfl⟩:=hc
    exact ⟨by rw [Sh.cells_length,hsize],Sh.cells_one _ _⟩
   have hsl:=slot_sl hs
   simp only [optEls]
   generalize y0.els=ys' at hone hsl
   rcases hsl with ⟨rfl,hv⟩ | ⟨_,⟨b,o,cap,s,hv,hcap,hel⟩ | ⟨rfl,aa,cc,hv⟩⟩
   rotate_right
   ·exact ⟨[],⟨by simp,fun i hi=>by simp at hi,fun i j hi=>by simp at hi⟩,fun u hu=>by simp at hu,fun w0 _=>by simp [hv,Builtin.lenOf],fun w0 _=>by simp [hv,Builtin.firstCells,loadCells,loadCellsFrom]⟩
   ·exact ⟨[],⟨by simp,fun i hi=>by simp at hi,fun i j hi=>by simp at hi⟩,fun u hu=>by simp at hu,fun w0 _=>by simp [hv,Builtin.lenOf],fun w0 _=>by simp [hv,Builtin.firstCells]⟩
   ·obtain ⟨us,hf,hc⟩:=hel.flat
    have hsn:ys'=[]∨s=n:=by
     cases ys' with
     | nil=>exact .inl rfl
     | cons c cs=>
      right
      have:=hel.1 0 (by simp)
      rw [←this]
      exact (hone c (by simp)).1
    rcases hsn with rfl | rfl
    ·have hus:us=[]:=List.eq_nil_of_length_eq_zero (by have:=hf.len;simpa using this)
     subst hus
     exact ⟨[],⟨by simp,fun i hi=>by simp at hi,fun i j hi=>by simp at hi⟩,fun u hu=>by simp at hu,fun w0 _=>by simp [hv,Builtin.lenOf],fun w0 _=>by simp [hv,Builtin.firstCells,loadCells,loadCellsFrom]⟩
    ·refine ⟨us,hf,hf.one (fun c hc=>(hone c hc).2),fun w0 _=>by simp [hv,Builtin.lenOf],fun w0 hw0=>?_⟩
     rw [hv]
     refine run_firstCells_some w0 s ys'.length _ _ _ us hf.len fun j v hj=>?_
     obtain ⟨h1,h2⟩:=List.getElem?_eq_some_iff.1 hj
     rw [add_off,cell_of_heap (w:=w) (by rw [hw0]),hc j h1,h2]
  ·cases he
 ·rename_i s hp
  split at he
  ·rename_i hn
   injection he with he
   subst he
   subst hn
   obtain ⟨p,hs⟩:=peek_slot h hp
   have hv:=val_slot (u:=.string s) rfl hs
   have hel:optEls (some ⟨.int .u8,s.data.toList.map fun b=>(b.toNat:Int)⟩)=s.data.toList.map fun b=>[.lit (.int .u8 b.toNat)]:=by
    show List.map (fun n:Int=>[PV.lit (.int .u8 n)]) (List.map (fun b:UInt8=>(b.toNat:Int)) s.data.toList)=_
    rw [List.map_map];rfl
   rw [hel]
   refine ⟨s.data.toList.map fun b=>.int .u8 b.toNat,⟨by simp,fun i hi=>by simp,fun i j hi hj=>?_⟩,?_,?_,?_⟩
   ·simp only [List.length_map,Array.length_toList] at hi
    simp only [List.getElem_map,List.length_singleton] at hj ⊢
    have:j=0:=by omega
    subst this
    refine ⟨.int .u8 (s.data[i]).toNat,by simp only [Nat.mul_one,Nat.add_zero,List.getElem?_map,Array.getElem?_toList,Array.getElem?_eq_getElem hi,Option.map_some],?_⟩
    simp only [List.getElem_cons_zero,Array.getElem_toList]
    exact .lit _
   ·intro u hu
    simp only [List.mem_map] at hu
    obtain ⟨b,_,rfl⟩:=hu
    exact ⟨fun _ e=>(by cases e),fun _ e=>(by cases e)⟩
   ·intro w0 _;simp only [hv,Builtin.lenOf,Sem.run_pure,List.length_map,Array.length_toList];rfl
   ·intro w0 _;rw [hv]
    simp only [Builtin.firstCells,Sem.run_pure]
    congr 1
    apply Array.ext'
    have e1:(s.data.toList.map fun b=>[PV.lit (.int .u8 b.toNat)]).length=s.size:=by simp [←ByteArray.size_data]
    rw [e1]
    have e2:s.extract 0 s.size=s:=by
     apply ByteArray.ext
     rw [ByteArray.data_extract,←ByteArray.size_data]
     simp
    rw [e2]
    simp
  ·cases he
 ·cases he
theorem run_choose_cap (P:Program) (w:World) (need old:Nat) (e:TypeId):(choose (.appendCap need old e)).run P w=.ok ((Question.appendCap need old e).cut (w.tape w.drawn (.appendCap need old e))) w.drew:=rfl
theorem FlatL.append {g:Gh} {w:World} {s:Nat} {xs ys:List (List PV)} {us vs:List Value} (h:FlatL g w s xs us) (k:FlatL g w s ys vs):FlatL g w s (xs++ys) (us++vs):=by
 refine ⟨by rw [List.length_append,List.length_append,h.len,k.len,Nat.add_mul],fun i hi=>?_,fun i j hi hj=>?_⟩
 ·rcases Nat.lt_or_ge i xs.length with hx | hx
  ·rw [List.getElem_append_left hx];exact h.each i hx
  ·rw [List.getElem_append_right hx];exact k.each _ _
 ·simp only [List.length_append] at hi
  rcases Nat.lt_or_ge i xs.length with hx | hx
  ·simp only [List.getElem_append_left hx] at hj ⊢
   obtain ⟨v,h1,h2⟩:=h.rel i j hx hj
   exact ⟨v,by rw [List.getElem?_append_left (List.getElem?_eq_some_iff.1 h1).1];exact h1,h2⟩
  ·simp only [List.getElem_append_right hx] at hj ⊢
   obtain ⟨v,h1,h2⟩:=k.rel (i - xs.length) j (by omega) hj
   refine ⟨v,?_,h2⟩
   have e3:i*s=xs.length*s+(i - xs.length)*s:=by rw [←Nat.add_mul];congr 1;omega
   rw [List.getElem?_append_right (by rw [h.len];omega),←h1]
   congr 1
   rw [h.len]
   omega
theorem FlatL.ext {g g':Gh} {w w':World} {s:Nat} {ys:List (List PV)} {us:List Value} (h:FlatL g w s ys us) (hE:Ext g g' w w'):FlatL g' w' s ys us:=
 ⟨h.len,h.each,fun i j hi hj=>let ⟨v,h1,h2⟩:=h.rel i j hi hj;⟨v,h1,h2.ext hE⟩⟩
theorem newRow_own {P:Program} {st:St} {g:Gh} {vs:Array Value} {w:World} (h:Inv P g st vs w) {t:Nat} (ht:t<st.n) {e:TypeId} {fl:Flag} (hfl:fl.isOwn=true) (hfe:fl.e=e) {zx:Xs} {zs:List (List PV)} (hzx:zx.els=zs) {us:List Value} {z:Value} {nc:Nat}
  (hf:FlatL g w (P.cellsOf e) zs us) (hnc:zs.length≤nc) (hz:z.cells.size=P.cellsOf e) :
  ∃g',Inv P g' (st.setP (.tmp t) (.sl fl false zx)) (vs.setIfInBounds t (.slice (some ⟨w.heap.size,0,none⟩) zs.length nc)) (w.drew.alloc (.cells (us.toArray++Builtin.zeroCells z.cells (nc - zs.length)) e))∧
   Ext g g' w (w.drew.alloc (.cells (us.toArray++Builtin.zeroCells z.cells (nc - zs.length)) e)):=by
 obtain ⟨i1,i2⟩:=h.world (w':=w.drew) rfl rfl rfl rfl
 have hsz:(us.toArray++Builtin.zeroCells z.cells (nc - zs.length)).size=nc*P.cellsOf e:=by
  simp only [Array.size_append,List.size_toArray,Builtin.zeroCells,Array.size_map,Array.size_range,hz,hf.len,←Nat.add_mul]
  congr 1
  omega
 obtain ⟨j1,j2⟩:=i1.newOwn (fl:=fl) ht hfl hfe (xs:=zs) hzx (c:=us.toArray++Builtin.zeroCells z.cells (nc - zs.length)) (cap:=nc) (fz:=(0,0)) hnc hsz (fun i _ h=>by omega) hf.each (fun i j hi hj=>by
  obtain ⟨v,h1,h2⟩:=hf.rel i j hi hj
  refine ⟨v,?_,h2.ext i2⟩
  have hlt:=(List.getElem?_eq_some_iff.1 h1).1
  rw [Array.getElem?_append_left (by simpa using hlt)]
  simpa using h1)
 exact ⟨_,j1,i2.trans j2⟩
theorem run_builtin_append {P:Program} {o:Oper} {c:Call} {s x:Operand} {vs:Array Value} {w w':World} {v:Value} (ho:o.op=.call c) (hb:c.callee=.builtin .append) (ha:c.args.toList=[s,x])
  (hr:(Builtin.append_ c.argTypes o.type #[evalV vs s,evalV vs x]).run P w=.ok v w'):(execOp (evalV vs) o).run P w=.ok (.value v) w':=by
 have hargs:c.args = #[s,x]:=by rw [←Array.toArray_toList (xs:=c.args),ha]
 simp [execOp,ho,resolve,hb,hargs,invoke,builtin,hr]
theorem append_ok {C:Ctx} {o:Oper} {c:Call} {s x:Operand} {st st':St} {g:Gh} {vs:Array Value} {w:World} (h:Inv C.P g st vs w) (ho:o.op=.call c) (hb:c.callee=.builtin .append) (ha:c.args.toList=[s,x])
  (he:evAppend C st c.argTypes s x o.dst=some st'):OpOk C.P o vs w g st':=by
 unfold evAppend at he
 split at he
 ·rename_i ts tx h0 h1
  split at he
  ·rename_i e ux hu hux
   split at he
   ·cases he
   ·rename_i hnint
    split at he
    ·rename_i i fl nl xz hi hp
     split at he
     ·rename_i oy hys
      split at he
      ·rename_i hcond
       obtain ⟨hby,hzc⟩:=hcond
       have hzz:∃z,i.zero=some z∧z.cells.size=i.size:=by
        unfold zeroFits at hzc
        split at hzc
        ·rename_i z hz;exact ⟨z,hz,by simpa using hzc⟩
        ·cases hzc
       obtain ⟨z,hz,hzs⟩:=hzz
       ·
        obtain ⟨us,hfl,hone,hlen',hfirst'⟩:=elemsOf_sound h hys
        have hol:=optLen_eq oy
        have hoN:(appN (C.sh e) oy).els=optEls oy:=appN_els _ oy
        have hoX:∀{xs zs:Xs},appX xs oy=some zs→zs.els=xs.els++optEls oy:=fun h=>appX_els h
        generalize optEls oy=ys at *
        rw [hol] at he
        have hlen:=hlen' w rfl
        have hfirst:=hfirst' w rfl
        obtain ⟨p,hs⟩:=peek_slot h hp
        have hce:C.P.cellsOf e=i.size:=by simp [Program.cellsOf,hi]
        have hszr:∀w,(sizeOf e).run C.P w=.ok i.size w:=fun w=>by simp [sizeOf,typeInfo,hi]
        have hzeros:∀w,(do pure ((←underlying tx) matches .int _):Sem Bool).run C.P w=.ok false w:=by
         intro w
         simp only [Sem.run_bind,run_und hux,Result.andThen_ok,Sem.run_pure]
         cases ux <;> first | rfl | (exfalso;exact hnint rfl)
        have hgrow:∀(xs:List (List PV)) (base:Option Addr) (sCap:Nat) (olds:List Value),(xs.length+ys.length)*i.bytes≤2 ^ 46→evalV vs s=.slice base xs.length sCap→(∀w0:World,w0.heap=w.heap→(Builtin.firstCells i.size xs.length (evalV vs s)).run C.P w0=.ok olds.toArray w0)→sCap<xs.length+ys.length→
          ∃nc,xs.length+ys.length≤nc∧(Builtin.append_ c.argTypes o.type #[evalV vs s,evalV vs x]).run C.P w =
           .ok (.slice (some ⟨w.heap.size,0,none⟩) (xs.length+ys.length) nc) (w.drew.alloc (.cells (olds.toArray++us.toArray++Builtin.zeroCells z.cells (nc - (xs.length+ys.length))) e)):=by
         intro xs base sCap olds hbd hv hold hlt
         refine ⟨(Question.appendCap (xs.length+ys.length) sCap e).cut (w.tape w.drawn (.appendCap (xs.length+ys.length) sCap e)),by simp [Question.cut],?_⟩
         have hfits:=growslice_fits (bytes:=i.bytes) hlt (by omega)
         have hf1:(Builtin.firstCells i.size xs.length (.slice base xs.length sCap)).run C.P w.drew=.ok olds.toArray w.drew:=by rw [←hv];exact hold w.drew rfl
         have hf2:(Builtin.firstCells i.size ys.length (evalV vs x)).run C.P w.drew=.ok us.toArray w.drew:=hfirst' w.drew rfl
         rw [hv]
         have hnb:¬((xs.length+ys.length)≤sCap):=by omega
         have hnm:¬(((xs.length+ys.length:Nat):Int)>IntKind.i64.max∧(False∨i.bytes=0)):=by
          rintro ⟨_,hh | hh⟩
          ·exact hh
          ·omega
         have hnf:¬(Builtin.nextslicecap (xs.length+ys.length) sCap*i.bytes>2 ^ 48):=by omega
         cases ux <;> first
          | exact absurd rfl hnint
          | (simp only [Builtin.append_,h0,h1,Sem.run_bind,run_und hu,run_und hux,Result.andThen_ok,hszr,hlen,typeInfo,run_program,hi,Sem.run_pure,List.getElem?_toArray,List.getElem?_cons_zero,List.getElem?_cons_succ,Bool.false_eq_true,if_false,Bool.not_false,if_true,hnb]
             simp only [Sem.run_bind,Sem.run_pure,Sem.run_ite,Result.andThen_ok,run_program,hi,Bool.false_eq_true,hnm,hnf,if_false,Bool.not_false,if_true]
             simp only [Sem.run_bind,run_choose_cap,Question.forced,Bool.false_eq_true,if_false,Result.andThen_ok,run_program,hi,Sem.run_pure,run_askRoom,hf1,hf2,zeroValue,typeInfo,hz,newRow,run_newObj]
             rfl)
        have hnone:ys=[]→us=[]→(Builtin.append_ c.argTypes o.type #[.slice none 0 0,evalV vs x]).run C.P w=.ok (.slice none 0 0) w:=by
         intro hy1 hy2
         rw [hy1] at hlen
         rw [hy1,hy2] at hfirst
         simp only [List.length_nil] at hlen hfirst
         cases ux <;> first
          | exact absurd rfl hnint
          | (simp only [Builtin.append_,h0,h1,Sem.run_bind,run_und hu,run_und hux,Result.andThen_ok,hszr,hlen,hfirst,Sem.run_pure,List.getElem?_toArray,List.getElem?_cons_zero,List.getElem?_cons_succ,Bool.false_eq_true,if_false,Bool.not_false,if_true,Nat.add_zero,Nat.le_refl])
        split at he
        ·
         rcases slot_sl hs with ⟨_,hv⟩ | ⟨hc,_⟩
         ·split at he
          ·rename_i t hd
           split at he
           case isFalse=>cases he
           rename_i hbd
           simp only [St.setD] at he
           split at he
           ·rename_i hlt
            injection he with he
            subst he
            by_cases hy:ys=[]
            ·subst hy
             have hus:us=[]:=List.eq_nil_of_length_eq_zero (by have:=hfl.len;simpa using this)
             subst hus
             refine ⟨_,.slice none 0 0,w,g,run_builtin_append ho hb ha ?_,.inl rfl,by rw [hd];exact h.setPlain hlt (show OwnOk _ _ _ _ _ _ _ _ _ from .inl ⟨hoN,rfl⟩),Ext.refl _ _,fun _=>.refl _ _⟩
             rw [hv]
             exact hnone rfl rfl
            ·have hpos:0<ys.length:=List.length_pos_iff.2 hy
             obtain ⟨nc,hnc,hrun⟩:=hgrow [] none 0 [] (by simpa using hbd) (by simpa using hv) (fun w0 _=>by rw [hv];simp [Builtin.firstCells]) (by simpa using hpos)
             simp only [List.length_nil,Nat.zero_add] at hnc hrun
             obtain ⟨g',j1,j2⟩:=newRow_own h hlt (e:=e) (fl:=.excl e) rfl rfl (zx:=appN (C.sh e) oy) (zs:=ys) hoN (z:=z) (nc:=nc) (by rw [hce];exact hfl) hnc (by rw [hce];exact hzs)
             refine ⟨_,_,_,g',run_builtin_append ho hb ha hrun,.inl rfl,?_,?_,fun _=>BoxKeep.alloc (w:=w.drew) (h.world (w':=w.drew) rfl rfl rfl rfl).1 _⟩
             ·rw [hd]
              show Inv C.P g' _ (vs.setIfInBounds t _) _
              simpa using j1
             ·simpa using j2
           ·cases he
          ·cases he
         ·cases hc
        ·split at he
         ·rename_i hown
          obtain ⟨hfo,hfe⟩:=hown
          split at he
          ·rename_i p' t zz hpl hd happ
           split at he
           ·rename_i hlt
            obtain ⟨hlt,hpt⟩:=hlt
            split at he
            case isFalse=>cases he
            rename_i hbd
            injection he with he
            subst he
            have hzz:=hoX happ
            rw [←xz.els_length] at hbd
            obtain ⟨fl',n',xs',k1,k2,k3,k4⟩:=plc_slot h hpl
            rw [hp] at k4
            injection k4 with k4
            injection k4 with e1 e2 e3
            subst e1;subst e2;subst e3
            obtain ⟨v0,hv0,hok⟩:=own_at h k1 k2
            rw [k3] at hv0
            injection hv0 with hv0
            generalize hxs:xz.els=xs at *
            rcases hok with ⟨rfl,hbv⟩ | ⟨_,b,cap,hbv,hbk⟩
            ·have hv:evalV vs s=.slice none 0 0:=hv0.trans hbv
             have hlt1:t<(st.setP p' .dead).n:=by rw [tsLen_setP];exact hlt
             by_cases hy:ys=[]
             ·subst hy
              have hus:us=[]:=List.eq_nil_of_length_eq_zero (by have:=hfl.len;simpa using this)
              subst hus
              refine ⟨_,.slice none 0 0,w,g,run_builtin_append ho hb ha ?_,.inl rfl,by rw [hd];exact (h.forgetP k1).setPlain hlt1 (slot_own hfo (.inl ⟨hzz,rfl⟩)),Ext.refl _ _,fun _=>.refl _ _⟩
              rw [hv]
              exact hnone rfl rfl
             ·have hpos:0<ys.length:=List.length_pos_iff.2 hy
              obtain ⟨nc,hnc,hrun⟩:=hgrow [] none 0 [] (by simpa using hbd) (by simpa using hv) (fun w0 _=>by rw [hv];simp [Builtin.firstCells]) (by simpa using hpos)
              simp only [List.length_nil,Nat.zero_add] at hnc hrun
              obtain ⟨g',j1,j2⟩:=newRow_own (h.forgetP k1) (e:=e) (t:=t) hlt1 hfo hfe (zs:=[]++ys) hzz (z:=z) (nc:=nc) (by rw [hce];exact hfl) hnc (by rw [hce];exact hzs)
              refine ⟨_,_,_,g',run_builtin_append ho hb ha hrun,.inl rfl,?_,?_,fun _=>BoxKeep.alloc (w:=w.drew) (h.world (w':=w.drew) rfl rfl rfl rfl).1 _⟩
              ·rw [hd]
               show Inv C.P g' _ (vs.setIfInBounds t _) _
               simpa using j1
              ·simpa using j2
            ·have hv:evalV vs s=.slice (some ⟨b,0,none⟩) xs.length cap:=hv0.trans hbv
             have hce':C.P.cellsOf fl.e=i.size:=by rw [hfe];exact hce
             by_cases hroom:xs.length+ys.length≤cap
             ·obtain ⟨cc,fz,hblk,hcs,hz'⟩:=hbk.blk
              have hst:(storeCells ⟨b,xs.length*i.size,none⟩ us).run C.P w=.ok () (wblit w b (xs.length*i.size) us):=by
               have hm:(xs.length+ys.length)*i.size≤cap*i.size:=Nat.mul_le_mul_right _ hroom
               rw [Nat.add_mul] at hm
               exact run_storeCells_blit (i:=0) hblk hz' (by rw [hfl.len,hcs,hce'];omega) hone
              obtain ⟨g',j1,j2⟩:=h.appendIn hlt hpt hxs hzz k1 k2 hbk hroom (ys:=ys) (us:=us) (by rw [hce'];exact hfl.len) (fun i hi=>by rw [hce'];exact hfl.each i hi) (fun i j hi hj=>by rw [hce'];exact hfl.rel i j hi hj)
              rw [hce'] at j1 j2
              refine ⟨_,_,_,g',run_builtin_append ho hb ha ?_,.inl rfl,by rw [hd];exact j1,j2,fun _ id b' hb' ho'=>(wblit_facts b us w _).2.2.2.2.1 b' (by rintro rfl;rw [hbk.ow] at ho';cases ho')⟩
              rw [hv]
              cases ux <;> first
               | exact absurd rfl hnint
               | (simp only [Builtin.append_,h0,h1,Sem.run_bind,run_und hu,run_und hux,Result.andThen_ok,hszr,hlen,hfirst,Sem.run_pure,List.getElem?_toArray,List.getElem?_cons_zero,List.getElem?_cons_succ,Bool.false_eq_true,if_false,Bool.not_false,if_true,hroom,add_off,Nat.zero_add,hst])
             ·obtain ⟨olds,hfo2,hoc⟩:=hbk.el.flat
              rw [hce'] at hfo2
              obtain ⟨nc,hnc,hrun⟩:=hgrow xs (some ⟨b,0,none⟩) cap olds hbd hv (fun w0 hw0=>by
               rw [hv]
               refine run_firstCells_some w0 i.size xs.length _ _ _ olds hfo2.len fun j v hj=>?_
               obtain ⟨h1,h2⟩:=List.getElem?_eq_some_iff.1 hj
               rw [add_off,cell_of_heap (w:=w) (by rw [hw0]),hoc j h1,h2]) (by omega)
              have hlen2:(xs++ys).length=xs.length+ys.length:=List.length_append
              obtain ⟨g',j1,j2⟩:=newRow_own (h.forgetP k1) (e:=e) (t:=t) (by rw [tsLen_setP];exact hlt) hfo hfe (zs:=xs++ys) hzz (us:=olds++us) (z:=z) (nc:=nc) (by rw [hce];exact hfo2.append hfl) (by rw [hlen2];exact hnc) (by rw [hce];exact hzs)
              rw [hlen2] at j1 j2
              have ea:(olds++us).toArray=olds.toArray++us.toArray:=by simp
              rw [ea] at j1 j2
              exact ⟨_,_,_,g',run_builtin_append ho hb ha hrun,.inl rfl,by rw [hd];exact j1,j2,fun _=>BoxKeep.alloc (w:=w.drew) (h.world (w':=w.drew) rfl rfl rfl rfl).1 _⟩
           ·cases he
          ·cases he
         ·cases he
      ·cases he
     ·cases he
    ·cases he
  ·cases he
 ·cases he
theorem bytesOf_nums {xs:Xs} {bs:ByteArray} (h:bytesOf xs=some bs):∃ns:List Int,bs=⟨(ns.map fun n=>UInt8.ofNat n.toNat).toArray⟩∧xs.els=ns.map fun n=>[PV.lit (.int .u8 n)]:=by
 unfold bytesOf at h
 split at h
 ·rename_i l
  injection h with h
  exact ⟨l,h.symm,rfl⟩
 ·cases h
theorem convert_ok {P:Program} {o:Oper} {st st':St} {g:Gh} {vs:Array Value} {w:World} (h:Inv P g st vs w) {src dst:TypeId} {x:Operand} (ho:o.op=.convert src dst x) (he:evConvert P st src dst x o.dst=some st'):OpOk P o vs w g st':=by
 unfold evConvert at he
 split at he
 ·rename_i k n hp
  obtain ⟨p,hs⟩:=peek_slot h hp
  have hv:=val_slot (u:=.int k n) rfl hs
  split at he
  ·rename_i ds k' h1 h2
   refine .rel (v:=.int k' (k'.wrap n)) h (Ext.refl _ _) ?_ he (.lit _)
   simp [execOp,ho,hv,convert,run_und h1,run_und h2,Conv.intToInt]
  ·split at he
   ·rename_i r hr
    exact .rel (v:=r) h (Ext.refl _ _) (by simp [execOp,ho,hv,det_run hr]) he (rel_constPV _ _ _)
   ·cases he
 ·rename_i fl nl xs hp
  split at he
  ·rename_i e h1 h2
   split at he
   ·rename_i h3
    split at he
    ·rename_i bs hb
     obtain ⟨ns,rfl,hels⟩:=bytesOf_nums hb
     obtain ⟨p,hs⟩:=peek_slot h hp
     refine .rel (v:=.string ⟨(ns.map fun n=>UInt8.ofNat n.toNat).toArray⟩) h (Ext.refl _ _) ?_ he (.lit _)
     have hsl:=slot_sl hs
     rw [hels] at hsl
     rcases hsl with ⟨hnil,hv⟩ | ⟨_,⟨b,q,cap,s,hv,hcap,hel⟩ | ⟨hnil,aa,cc,hv⟩⟩
     rotate_right
     ·have:ns=[]:=by simpa using hnil
      subst this
      have:=run_convert_bytes_back (P:=P) w src dst e aa cc [] h1 h3 h2 (by simp)
      simp only [List.length_nil] at this
      simp only [execOp,ho,hv,Sem.run_bind,this,Result.andThen_ok,Sem.run_pure]
      rfl
     ·have:ns=[]:=by simpa using hnil
      subst this
      have:=run_convert_bytes_nil (P:=P) w src e h1 h3 0 0 dst h2
      simp only [execOp,ho,hv,Sem.run_bind,this,Result.andThen_ok,Sem.run_pure]
      rfl
     ·have:=run_convert_bytes_arg (P:=P) w src e h1 h3 b q ns.length cap ns rfl (fun i hi=>by
       have hlen:s=1:=by rw [←hel.1 i (by simpa using hi)];simp
       subst hlen
       obtain ⟨v,k1,k2⟩:=hel.2 i 0 (by simpa using hi) (by simp)
       simp only [List.getElem_map,List.getElem_cons_zero] at k2
       cases k2
       rw [show q+i=q+i*1+0 by omega,k1]
       simp [List.getElem?_eq_getElem hi]) dst h2
      simp only [List.length_map] at hv
      simp only [execOp,ho,hv,Sem.run_bind,this,Result.andThen_ok,Sem.run_pure]
      rfl
    ·cases he
   ·cases he
  ·cases he
 ·rename_i u _ _ hp
  split at he
  ·rename_i a ha
   split at he
   ·rename_i r hr
    obtain ⟨p,hs⟩:=peek_slot h hp
    have hv:=val_slot ha hs
    exact .rel (v:=r) h (Ext.refl _ _) (by simp [execOp,ho,hv,det_run hr]) he (rel_constPV _ _ _)
   ·cases he
  ·cases he
 ·cases he
theorem vals_sound {P:Program} {st:St} {g:Gh} {vs:Array Value} {w:World} (h:Inv P g st vs w):∀{os:List Operand} {us:List Value},vals st os=some us→us=os.map (evalV vs):=by
 intro os
 induction os with
 | nil=>intro us he;injection he with he;exact he.symm
 | cons o os ih=>
  intro us he
  simp only [vals] at he
  split at he
  ·rename_i x hx
   split at he
   ·rename_i v us' hv hus
    injection he with he
    subst he
    obtain ⟨p,hs⟩:=peek_slot h hx
    rw [List.map_cons,←ih hus,val_slot hv hs]
   ·cases he
  ·cases he
theorem run_builtin_det {P:Program} {o:Oper} {c:Call} {b:Builtin} {vs:Array Value} {w:World} {us:List Value} {r:Value} (ho:o.op=.call c) (hb:c.callee=.builtin b) (hus:us=c.args.toList.map (evalV vs))
  (hr:det P (builtin b c.argTypes o.type (c.args.toList.map isConst).toArray us.toArray)=some (.value r)):(execOp (evalV vs) o).run P w=.ok (.value r) w:=by
 have h1:c.args.map (evalV vs)=us.toArray:=by rw [hus,←List.map_toArray,Array.toArray_toList]
 simp only [execOp,ho,resolve,hb,Sem.run_bind,Sem.run_pure,Result.andThen_ok,invoke,h1]
 refine (congrArg (fun z=>(builtin b c.argTypes o.type z us.toArray).run P w) ?_).trans (det_run hr w)
 rw [←List.map_toArray,Array.toArray_toList]
 first
  | rfl
  | (congr 1;funext x;cases x <;> rfl)
theorem builtin_ok {C:Ctx} {o:Oper} {c:Call} {b:Builtin} {st st':St} {g:Gh} {vs:Array Value} {w:World} (h:Inv C.P g st vs w) (ho:o.op=.call c) (hb:c.callee=.builtin b)
  (he:evBuiltin C st b c.argTypes o.type c.args.toList o.dst=some st'):OpOk C.P o vs w g st':=by
 unfold evBuiltin at he
 split at he
 ·rename_i s x ha
  exact append_ok h ho hb ha he
 ·rename_i x ha
  have hargs:c.args = #[x]:=by rw [←Array.toArray_toList (xs:=c.args),ha]
  split at he
  ·rename_i fl n xs hp
   split at he
   ·rename_i t ht
    split at he
    ·rename_i e hu
     obtain ⟨p,hs⟩:=peek_slot h hp
     refine .rel (v:=.int .i64 xs.l.length) h (Ext.refl _ _) ?_ he (.lit _)
     have hsl:∃a cap,evalV vs x=.slice a xs.l.length cap:=by
      rcases slot_sl hs with ⟨e1,hv⟩ | ⟨_,⟨b,q,cap,s,hv,_⟩ | ⟨e1,aa,cc,hv⟩⟩
      rotate_right
      ·exact ⟨some aa,cc,by rw [hv,←xs.els_length,e1];rfl⟩
      ·exact ⟨none,0,by rw [hv,←xs.els_length,e1];rfl⟩
      ·exact ⟨_,cap,by rw [hv,xs.els_length]⟩
     obtain ⟨a,cap,hv⟩:=hsl
     simp [execOp,ho,resolve,hb,hargs,invoke,builtin,Builtin.len_,ht,hv,run_und hu,goInt]
    ·cases he
   ·cases he
  ·rename_i y _ hp
   split at he
   ·rename_i v hv
    split at he
    ·rename_i r hr
     obtain ⟨p,hs⟩:=peek_slot h hp
     have e:=val_slot hv hs
     exact .rel (v:=r) h (Ext.refl _ _) (run_builtin_det ho hb (us:=[v]) (by rw [ha];simp [e]) (by rw [ha];exact hr)) he (rel_constPV _ _ _)
    ·cases he
   ·cases he
  ·cases he
 ·cases he
 ·cases he
 ·split at he
  ·rename_i us hus
   split at he
   ·rename_i r hr
    exact .rel (v:=r) h (Ext.refl _ _) (run_builtin_det ho hb (vals_sound h hus) hr) he (rel_constPV _ _ _)
   ·cases he
  ·cases he
theorem evOp_sound {C:Ctx} {o:Oper} {st st':St} {g:Gh} {vs:Array Value} {w:World} (h:Inv C.P g st vs w) (he:evOp C o st=some st'):OpOk C.P o vs w g st':=by
 unfold evOp at he
 split at he
 ·rename_i x ho;exact move_ok h ho he
 ·rename_i x ho;exact assign_ok h ho he
 ·rename_i c a b ho;exact pick_ok h ho he
 ·rename_i t ho;exact alloc_ok h ho he
 ·rename_i t x ho;exact box_ok h ho he
 ·rename_i t ps ho;exact build_ok h ho he
 ·rename_i t n ps ho;exact buildSlice_ok h ho he
 ·rename_i t a ho;exact load_ok h ho he (fun t _ id off e=>by cases e)
 ·rename_i t a x ho
  split at he
  ·rename_i st1 hs;exact store_ok h ho hs he
  ·cases he
 ·rename_i x ho;exact nilCheck_ok h ho he
 ·rename_i t x ho;exact iface_ok h ho he
 ·rename_i f a b ho;exact func_ok h ho he
 ·rename_i op t x y ty ho;exact bin_ok h ho he
 ·rename_i op t x ho;exact un_ok h ho he
 ·rename_i s t x ho;exact convert_ok h ho he
 ·rename_i t x lo hi mx ho;exact slice_ok h ho he
 ·rename_i t x f ho;exact fieldAddr_ok h ho he
 ·rename_i t x f ho;exact field_ok h ho he
 ·rename_i t x i ho;exact indexAddr_ok h ho he
 ·rename_i t x i ho;exact index_ok h ho he
 ·rename_i x i ho;exact extract_ok h ho he
 ·rename_i c ho
  split at he
  ·rename_i b hb;exact builtin_ok h ho hb he
  ·cases he
 ·rename_i t r ho;exact makeMap_ok h ho he
 ·rename_i t m k x ho;exact mapSet_ok h (.inl ho) he
 ·rename_i t m k x ho;exact mapSet_ok h (.inr ho) he
 ·rename_i t m k ok ho;exact lookup_ok h ho he
 ·cases he
theorem Inv.fewer {P:Program} {st st':St} {g:Gh} {vs vs':Array Value} {w:World} (h:Inv P g st vs w) (hσ:st'.σ=st.σ) (hn:vs'.size=st'.n) (hvs:∀(t:Nat),t<st'.n→t<st.n→vs'[t]? = vs[t]?)
  (hget:∀(t:Nat) (x:PV),st'.get t=some x→x=.dead∨(st.get t=some x∧∀q,(x=.alias q∨∃k off,x=.elem q k off)→contentAt st' q=contentAt st q∧∀s,q=.tmp s→s<st'.n)):Inv P g st' vs' w:=by
 refine h.step (A:=fun _=>False) (Chg.refl _ g w) hn ?_ (by rw [hσ];exact h.rlen) ?_ ?_ (fun id alts l h1=>.inl ⟨by rw [←hσ];exact h1,fun _=>not_false,rfl⟩) (by rw [hσ];exact h.rown) (by rw [hσ];exact h.fdom) h.olt h.flt h.fbox
 ·intro t x hx
  rcases hget t x hx with rfl | ⟨h1,h2⟩
  ·exact .inl rfl
  ·refine .inr (.inl ⟨h1,hvs t (get_lt hx) (get_lt h1),fun _=>not_false,fun q hq=>?_⟩)
   obtain ⟨k1,k2⟩:=h2 q hq
   refine ⟨k1,?_⟩
   cases q with
   | tmp s=>
    obtain ⟨fl,n,xs,k3,_⟩:=alias_content h h1 hq
    exact hvs s (k2 s rfl) (get_lt k3)
   | cell id off=>rfl
 ·intro id ty cs b h1 h2
  rw [hσ] at h1
  exact .inl ⟨h1,h2,not_false,fun _ _ _ _=>not_false⟩
 ·intro id es b h1 h2
  rw [hσ] at h1
  exact .inl ⟨h1,h2,not_false⟩
theorem Inv.grow {P:Program} {st:St} {g:Gh} {vs:Array Value} {w:World} (h:Inv P g st vs w) (hl:∀t,st.n≤t→lkp st.ts t=.dead) (k:Nat):Inv P g { st with n:=st.n+k } (vs++Array.replicate k undef) w:=by
 have hsz:=h.size
 have hg:∀t,t<st.n→St.get { st with n:=st.n+k } t=st.get t:=by
  intro t ht
  simp only [St.get,if_pos ht,if_pos (show t<st.n+k by omega)]
 refine h.fewer rfl (by simp [hsz]) (fun t ht ht'=>by rw [Array.getElem?_append_left (by omega)]) fun t x hx=>?_
 by_cases ht:t<st.n
 ·rw [hg t ht] at hx
  refine .inr ⟨hx,fun q hq=>?_⟩
  obtain ⟨fl,n,xs,k1,_⟩:=alias_content h hx hq
  cases q with
  | tmp s=>
   have:=get_lt k1
   exact ⟨hg s this,fun s' e=>by injection e with e;subst e;show s<st.n+k;omega⟩
  | cell id off=>exact ⟨rfl,fun s' e=>by cases e⟩
 ·left
  simp only [St.get] at hx
  split at hx
  ·injection hx with hx
   rw [←hx]
   exact hl t (by omega)
  ·cases hx
theorem lkp_cutN (N:Nat) (l:List (Nat×PV)) (t:Nat):lkp (cutN N l) t=if t<N then fixN N (lkp l t) else .dead:=by
 induction l with
 | nil=>simp only [cutN,lkp];split <;> rfl
 | cons p r ih=>
  obtain ⟨k,x⟩:=p
  simp only [cutN]
  by_cases hk:k<N
  ·rw [if_pos hk]
   simp only [lkp]
   by_cases e:k=t
   ·subst e;simp [Nat.beq_refl,hk]
   ·simp only [beq_ne e];exact ih
  ·rw [if_neg hk,ih]
   by_cases e:k=t
   ·subst e;rw [if_neg hk,if_neg hk]
   ·simp only [lkp,beq_ne e]
theorem fixN_cases (N:Nat) (x:PV):fixN N x=.dead∨(fixN N x=x∧∀s,(x=.alias (.tmp s)∨∃k off,x=.elem (.tmp s) k off)→s<N):=by
 cases x with
 | alias q=>
  cases q with
  | tmp s=>
   by_cases h:s<N
   ·right
    refine ⟨by simp [fixN,h],?_⟩
    rintro s' (e | ⟨_,_,e⟩)
    ·injection e with e;injection e with e;omega
    ·cases e
   ·left;simp [fixN,h]
  | cell id off=>right;exact ⟨rfl,fun s' e=>by rcases e with e | ⟨_,_,e⟩ <;> cases e⟩
 | elem q k off=>
  cases q with
  | tmp s=>
   by_cases h:s<N
   ·right
    refine ⟨by simp [fixN,h],?_⟩
    rintro s' (e | ⟨_,_,e⟩)
    ·cases e
    ·injection e with e;injection e with e;omega
   ·left;simp [fixN,h]
  | cell id off=>right;exact ⟨rfl,fun s' e=>by rcases e with e | ⟨_,_,e⟩ <;> cases e⟩
 | _=>right;exact ⟨rfl,fun s' e=>by rcases e with e | ⟨_,_,e⟩ <;> cases e⟩
theorem Inv.shrink {P:Program} {st:St} {g:Gh} {vs vs':Array Value} {w:World} {N:Nat} (h:Inv P g st vs w) (hN:N≤st.n) (hn:vs'.size=N) (hvs:∀t,t<N→vs'[t]? = vs[t]?):Inv P g (st.shrink N) vs' w:=by
 refine h.fewer rfl hn (fun t ht _=>hvs t ht) fun t x hx=>?_
 have ht:=get_lt hx
 have ht':t<N:=ht
 have hg:∀s,s<N→(st.shrink N).get s=(st.get s).map (fixN N):=by
  intro s hs
  simp only [St.get,St.shrink,if_pos hs,if_pos (show s<st.n by omega),lkp_cutN,Option.map_some]
 rw [hg t ht'] at hx
 simp only [Option.map_eq_some_iff] at hx
 obtain ⟨y,hy,rfl⟩:=hx
 rcases fixN_cases N y with h1 | ⟨h1,h2⟩
 ·exact .inl h1
 ·rw [h1]
  refine .inr ⟨hy,fun q hq=>?_⟩
  obtain ⟨fl,n,xs,k1,_⟩:=alias_content h hy hq
  cases q with
  | tmp s=>
   have hs:s<N:=h2 s (by rcases hq with e | ⟨k,off,e⟩;exact .inl e;exact .inr ⟨k,off,e⟩)
   refine ⟨?_,fun s' e=>by injection e with e;subst e;exact hs⟩
   show (st.shrink N).get s=st.get s
   have k1':st.get s=some (.sl fl n xs):=k1
   rw [hg s hs,k1']
   rfl
  | cell id off=>exact ⟨rfl,fun s' e=>by cases e⟩
def SrcOk (g:Gh) (w:World) (vs:Array Value) (N:Nat):List (PV⊕Operand)→List Value→Prop
 | [],[]=>True
 | .inl x :: r,v :: us=>Rel g w x v∧SrcOk g w vs N r us
 | .inr o :: r,v :: us=>v=evalV vs o∧opLt N o=true∧SrcOk g w vs N r us
 | _,_=>False
theorem SrcOk.ext {g g':Gh} {w w':World} {vs vs':Array Value} {N:Nat} (hE:Ext g g' w w') (hv:∀t,t<N→vs'[t]? = vs[t]?):∀{l:List (PV⊕Operand)} {us:List Value},SrcOk g w vs N l us→SrcOk g' w' vs' N l us:=by
 intro l
 induction l with
 | nil=>intro us h;cases us <;> exact h
 | cons s l ih=>
  intro us h
  cases us with
  | nil=>cases s <;> exact h.elim
  | cons u us=>
   cases s with
   | inl x=>exact ⟨h.1.ext hE,ih h.2⟩
   | inr o=>
    refine ⟨?_,h.2.1,ih h.2.2⟩
    rw [h.1]
    cases o with
    | tmp t=>
     have ht:t<N:=by simpa [opLt] using h.2.1
     simp only [evalV,Array.getD_eq_getD_getElem?,hv t ht]
    | _=>rfl
theorem putT_ne {vs:Array Value} {d t:Nat} {v:Value} (h:t≠d):(putT vs (some d) v)[t]? = vs[t]?:=by
 simp only [putT]
 rw [Array.getElem?_setIfInBounds_ne (by omega)]
theorem setD_n {st st':St} {d:Option Tmp} {x:PV} (h:st.setD d x=some st'):st'.n=st.n:=by
 cases d with
 | none=>injection h with h;subst h;rfl
 | some d=>
  simp only [St.setD] at h
  split at h
  ·injection h with h;subst h;exact tsLen_setP
  ·cases h
theorem mvD_n {st st':St} {p:Plc} {d:Option Tmp} (h:st.mvD p d=some st'):st'.n=st.n:=by
 unfold St.mvD at h
 split at h
 ·split at h
  ·injection h with h;subst h;rw [tsLen_setP,tsLen_setP]
  ·cases h
 ·cases h
theorem passL_lt {P:Program} {mv:Nat→Bool} {N j:Nat} {x:PV⊕Operand} {l:List (PV⊕Operand)} {st st1:St} {g:Gh} {vs:Array Value} {w:World} (h:Inv P g st vs w) (he:st.passL mv N j (x :: l)=some st1):N+j<st.n:=by
 have key:∀{st0 st2:St} {y:PV},st0.setD (some (N+j)) y=some st2→N+j<st0.n:=by
  intro st0 st2 y hh
  simp only [St.setD] at hh
  split at hh
  ·assumption
  ·cases hh
 cases x with
 | inl x=>
  simp only [St.passL] at he
  split at he
  ·rename_i hset;exact key hset
  ·cases he
 | inr o=>
  simp only [St.passL] at he
  split at he
  ·split at he
   ·rename_i hm
    unfold St.mvD at hm
    split at hm
    ·rename_i d' x' hd' _
     injection hd' with hd'
     subst hd'
     split at hm
     ·rename_i hc;exact hc.1
     ·cases hm
    ·cases hm
   ·cases he
  ·split at he
   ·rename_i y st3 hu
    obtain ⟨_,_,_,_,_,hn⟩:=use_sound h hu
    split at he
    ·rename_i st4 hset
     rw [←hn];exact key hset
    ·cases he
   ·cases he
theorem passL_sound {P:Program} {mv:Nat→Bool} {N:Nat}:∀{l:List (PV⊕Operand)} {us:List Value} {j:Nat} {st st1:St} {g:Gh} {vs:Array Value} {w:World},Inv P g st vs w→SrcOk g w vs N l us→st.passL mv N j l=some st1→
  ∃g' vs',Inv P g' st1 vs' w∧Ext g g' w w∧st1.n=st.n∧vs'.size=vs.size∧(∀t,t<N+j→vs'[t]? = vs[t]?)∧us.length=l.length∧∀(i:Nat) (hi:i<us.length),vs'[N+j+i]? = some us[i]:=by
 intro l
 induction l with
 | nil=>
  intro us j st st1 g vs w h hs he
  injection he with he
  subst he
  cases us with
  | nil=>exact ⟨g,vs,h,Ext.refl _ _,rfl,rfl,fun _ _=>rfl,rfl,fun i hi=>by simp at hi⟩
  | cons u us=>exact hs.elim
 | cons s l ih=>
  intro us j st st1 g vs w h hs he
  cases us with
  | nil=>cases s <;> exact hs.elim
  | cons u us=>
   have fin:∀{st2:St} {g2:Gh},Inv P g2 st2 (putT vs (some (N+j)) u) w→Ext g g2 w w→st2.n=st.n→st2.passL mv N (j+1) l=some st1→SrcOk g w vs N l us→
     ∃g' vs',Inv P g' st1 vs' w∧Ext g g' w w∧st1.n=st.n∧vs'.size=vs.size∧(∀t,t<N+j→vs'[t]? = vs[t]?)∧(u :: us).length=(s :: l).length∧∀(i:Nat) (hi:i<(u :: us).length),vs'[N+j+i]? = some (u :: us)[i]:=by
    intro st2 g2 i1 i2 i3 i4 i5
    obtain ⟨g',vs',j1,j2,j3,j4,j5,j6,j7⟩:=ih i1 (i5.ext i2 (fun t ht=>putT_ne (by omega))) i4
    refine ⟨g',vs',j1,i2.trans j2,j3.trans i3,?_,?_,by simp [j6],?_⟩
    ·rw [j4];simp [putT]
    ·intro t ht
     rw [j5 t (by omega),putT_ne (by omega)]
    ·intro i hi
     cases i with
     | zero=>
      rw [Nat.add_zero,j5 (N+j) (by omega)]
      have hlt:N+j<vs.size:=by
       have:=passL_lt h he
       have h2:=h.size
       omega
      simp [putT,hlt]
     | succ i=>
      have:=j7 i (by simpa using hi)
      rw [show N+j+(i+1)=N+(j+1)+i by omega,this]
      rfl
   cases s with
   | inl x=>
    simp only [St.passL] at he
    split at he
    ·rename_i st2 hset
     exact fin (setD_rel h hset hs.1) (Ext.refl _ _) (setD_n hset) he hs.2
    ·cases he
   | inr o=>
    obtain ⟨hu,ho,hrest⟩:=hs
    simp only [St.passL] at he
    split at he
    ·rename_i q hq
     have hq':st.plc o=some q:=by
      split at hq
      ·exact hq
      ·cases hq
     obtain ⟨fl,n,xs,k1,k2,k3,_⟩:=plc_slot h hq'
     split at he
     ·rename_i st2 hm
      obtain ⟨g2,i1,i2⟩:=mvD_inv h k1 k2 k3 hm
      rw [←hu] at i1
      exact fin i1 i2 (mvD_n hm) he hrest
     ·cases he
    ·split at he
     ·rename_i y st2 huse
      obtain ⟨g2,i1,i2,i3,_,i5⟩:=use_sound h huse
      split at he
      ·rename_i st3 hset
       rw [←hu] at i3
       exact fin (setD_rel i1 hset i3) i2 ((setD_n hset).trans i5) he hrest
      ·cases he
     ·cases he
def toC (N:Nat):Option Own→Option Own
 | some (.plc (.tmp t))=>if N≤t then some (.plc (.tmp (t - N))) else some .frame
 | o=>o
def Gh.callee (g:Gh) (N:Nat):Gh:={ rho:=g.rho,FP:=g.FP,ow:=fun b=>toC N (g.ow b),fam:=g.fam }
def shO (N:Nat):Option Own→Option Own
 | some (.plc (.tmp t))=>some (.plc (.tmp (N+t)))
 | o=>o
def bkO (N:Nat) (o oc:Option Own):Option Own:=
 match o with
 | some (.plc (.tmp t))=>if t<N then some (.plc (.tmp t)) else shO N oc
 | _=>shO N oc
def Gh.back (g gc:Gh) (N:Nat):Gh:={ rho:=gc.rho,FP:=gc.FP,ow:=fun b=>bkO N (g.ow b) (gc.ow b),fam:=gc.fam }
theorem lkp_number:∀(xs:List PV) (k t:Nat),lkp (number k xs) t=if k≤t∧t<k+xs.length then xs.getD (t - k) .dead else .dead:=by
 intro xs
 induction xs with
 | nil=>intro k t;rw [if_neg (by simp)];rfl
 | cons x xs ih=>
  intro k t
  simp only [number,lkp,List.length_cons]
  by_cases e:k=t
  ·subst e;simp [Nat.beq_refl]
  ·simp only [beq_ne e,ih]
   by_cases h:k+1≤t∧t<k+1+xs.length
   ·rw [if_pos h,if_pos (by omega),show t - k=(t - (k+1))+1 by omega,List.getD_cons_succ]
   ·rw [if_neg h,if_neg (by omega)]
theorem getArgs_length (ts:List (Nat×PV)):∀(k t:Nat),(getArgs ts t k).length=k:=by
 intro k
 induction k with
 | zero=>intro t;rfl
 | succ k ih=>intro t;simp [getArgs,ih]
theorem getArgs_get (ts:List (Nat×PV)):∀(k t i:Nat) (h:i<(getArgs ts t k).length),(getArgs ts t k)[i]=lkp ts (t+i):=by
 intro k
 induction k with
 | zero=>intro t i h;simp [getArgs] at h
 | succ k ih=>
  intro t i h
  cases i with
  | zero=>rfl
  | succ i=>
   simp only [getArgs,List.getElem_cons_succ]
   rw [ih]
   congr 1
   omega
theorem Rel.gh {g g':Gh} {w:World} {x:PV} {v:Value} (h:Rel g w x v) (hr:g'.rho=g.rho) (hf:g'.FP=g.FP) (hm:g'.fam=g.fam:=by rfl):Rel g' w x v:=
 h.mono (by rw [hr];exact List.prefix_rfl) (fun id i v hv=>by rw [hm];exact hv) (fun b i hb=>by rw [hf];exact hb) (fun _ _ _=>rfl)
theorem Elems.gh {g g':Gh} {w:World} {b o s:Nat} {xs:List (List PV)} (h:Elems g w b o s xs) (hr:g'.rho=g.rho) (hf:g'.FP=g.FP) (hm:g'.fam=g.fam:=by rfl):Elems g' w b o s xs:=
 ⟨h.1,fun i j hi hj=>let ⟨v,h1,h2⟩:=h.2 i j hi hj;⟨v,h1,h2.gh hr hf hm⟩⟩
theorem OwnOk.gh {P:Program} {g g':Gh} {w:World} {p p':Plc} {ex:Bool} {e:TypeId} {n:Bool} {xs:List (List PV)} {v:Value} (h:OwnOk P g w p ex e n xs v) (hr:g'.rho=g.rho) (hf:g'.FP=g.FP)
  (ho:∀b,g.ow b=some (.plc p)→g'.ow b=some (.plc p')) (hm:g'.fam=g.fam:=by rfl):OwnOk P g' w p' ex e n xs v:=by
 rcases h with h | ⟨hn,b,cap,hv,hb⟩
 ·exact .inl h
 ·exact .inr ⟨hn,b,cap,hv,hb.hcap,hb.blk,ho b hb.ow,hb.el.gh hr hf hm,fun he i=>by rw [hf];exact hb.ex_ he i,fun i hi=>by rw [hf];exact hb.fr i hi⟩
theorem Slot.gh {P:Program} {st st':St} {g g':Gh} {vs vs':Array Value} {w:World} {p p':Plc} {x:PV} {v:Value} (h:Slot P st g vs w p x v) (hn:x.noAl=true) (hr:g'.rho=g.rho) (hf:g'.FP=g.FP)
  (ho:∀b,g.ow b=some (.plc p)→g'.ow b=some (.plc p')) (hm:g'.fam=g.fam:=by rfl):Slot P st' g' vs' w p' x v:=by
 cases x with
 | sl fl n xs=>
  cases fl with
  | view=>exact Rel.gh h hr hf hm
  | own e=>exact OwnOk.gh h hr hf ho hm
  | excl e=>exact OwnOk.gh h hr hf ho hm
 | alias _=>simp [PV.noAl] at hn
 | elem _ _ _=>simp [PV.noAl] at hn
 | dead=>trivial
 | _=>exact Rel.gh h hr hf hm
theorem Inv.enter {P:Program} {st:St} {g:Gh} {vs:Array Value} {w:World} (h:Inv P g st vs w) {N k:Nat} (hn:st.n=N+k) (hal:(getArgs st.ts N k).all PV.noAl=true) {us:Array Value} (hus:us.size=k) (hu:∀(i:Nat) (hi:i<k),us[i]? = vs[N+i]?) :
  Inv P (g.callee N) { ts:=number 0 (getArgs st.ts N k),n:=k,σ:=st.σ } us w where
 size:=hus
 slot t x hx:=by
  have ht:=get_lt hx
  simp only [St.get] at hx
  have ht':t<k:=ht
  rw [if_pos ht'] at hx
  injection hx with hx
  rw [lkp_number,if_pos (by rw [getArgs_length];omega),Nat.sub_zero,List.getD_eq_getElem?_getD,List.getElem?_eq_getElem (by rw [getArgs_length];exact ht'),Option.getD_some,getArgs_get] at hx
  have hget:st.get (N+t)=some (lkp st.ts (N+t)):=by simp only [St.get];rw [if_pos (by omega)]
  obtain ⟨v,hv,hs⟩:=h.slot _ _ hget
  have hno:(lkp st.ts (N+t)).noAl=true:=by
   have:=List.all_eq_true.1 hal _ (List.getElem_mem (show t<(getArgs st.ts N k).length by rw [getArgs_length];exact ht'))
   rwa [getArgs_get] at this
  refine ⟨v,(hu t ht').trans hv,?_⟩
  rw [←hx]
  refine hs.gh hno rfl rfl fun b hb=>?_
  show toC N (g.ow b)=_
  rw [hb]
  simp only [toC]
  rw [if_pos (by omega),Nat.add_sub_cancel_left]
 rlen:=h.rlen
 box id ty cs b h1 h2:=by
  obtain ⟨c,fz,k1,k2,k3,k4⟩:=h.box id ty cs b h1 h2
  refine ⟨c,fz,k1,k2,k3,fun off x hx=>?_⟩
  obtain ⟨j1,v,j2,j3⟩:=k4 off x hx
  refine ⟨j1,v,j2,j3.gh j1 rfl rfl fun b hb=>?_⟩
  show toC N (g.ow b)=_
  rw [hb];rfl
 bmap:=h.bmap
 bfam id alts l h1:=(h.bfam id alts l h1).mono rfl (fun _ _ h=>h) (fun _ _ _=>rfl) (fun i b hb=>⟨rfl,by show toC N (g.ow b)=_;rw [hb];rfl,fun _ h=>h⟩) (Nat.le_refl _)
 fdom:=h.fdom
 rown id b hk hb:=by
  show toC N (g.ow b)=_
  rw [h.rown id b hk hb];rfl
 olt b o hb:=by
  have hb:toC N (g.ow b)=some o:=hb
  cases e:g.ow b with
  | none=>rw [e] at hb;cases hb
  | some o'=>exact h.olt b o' e
 flt:=h.flt
 fbox b i id hb:=by
  have hb:toC N (g.ow b)=some (.box id):=hb
  refine h.fbox b i id ?_
  cases e:g.ow b with
  | none=>rw [e] at hb;cases hb
  | some o'=>
   rw [e] at hb
   cases o' with
   | box id'=>exact hb
   | frame=>cases hb
   | plc p=>
    cases p with
    | tmp t=>simp only [toC] at hb;split at hb <;> cases hb
    | cell id' off=>cases hb
   | obj id' i'=>cases hb
theorem lkp_cutC (N:Nat) (l:List (Nat×PV)) (t:Nat):lkp (cutC N l) t=if t<N then fixC N (lkp l t) else .dead:=by
 induction l with
 | nil=>simp only [cutC,lkp];split <;> rfl
 | cons p r ih=>
  obtain ⟨k,x⟩:=p
  simp only [cutC]
  by_cases hk:k<N
  ·rw [if_pos hk]
   simp only [lkp]
   by_cases e:k=t
   ·subst e;simp [Nat.beq_refl,hk]
   ·simp only [beq_ne e];exact ih
  ·rw [if_neg hk,ih]
   by_cases e:k=t
   ·subst e;rw [if_neg hk,if_neg hk]
   ·simp only [lkp,beq_ne e]
theorem toC_frame {N:Nat} {o:Option Own} (h:o=some .frame):toC N o=some .frame:=by subst h;rfl
theorem Inv.leave {P:Program} {st:St} {g gc:Gh} {vs:Array Value} {w w':World} (h:Inv P g st vs w) {N:Nat} (hN:N≤st.n) {r:PV} {rv:Value} {σ:List Bx} (hr:r.noAl=true)
  (hc:Inv P gc { ts:=[(0,r)],n:=1,σ } #[rv] w') (hE:Ext (g.callee N) gc w w') {us:Array Value} (hus:us.size=N) (hu:∀t,t<N→us[t]? = vs[t]?) :
  Inv P (g.back gc N) { ts:=(N,r) :: cutC N st.ts,n:=N+1,σ } (us.push rv) w'∧Ext g (g.back gc N) w w':=by
 have hfr:∀{b t},g.ow b=some (.plc (.tmp t))→t<N→(g.callee N).ow b=some .frame:=by
  intro b t hb ht
  show toC N (g.ow b)=_
  rw [hb];simp only [toC];rw [if_neg (by omega)]
 have hnt:∀{b o},gc.ow b=some o→o≠.frame→∀t,g.ow b=some (.plc (.tmp t))→¬t<N:=by
  intro b o hb ho t ht hlt
  have:=hE.frame b (hfr ht hlt)
  rw [hb] at this
  injection this with this
  exact ho this
 have hbk:∀{b o},gc.ow b=some o→o≠.frame→(g.back gc N).ow b=shO N (some o):=by
  intro b o hb ho
  show bkO N (g.ow b) (gc.ow b)=_
  rw [hb]
  unfold bkO
  split
  ·rename_i t ht
   rw [if_neg (hnt hb ho t ht)]
  ·rfl
 have hExt:Ext g (g.back gc N) w w':=
  {rho:=hE.rho,fp:=hE.fp,fpc:=hE.fpc,fam:=hE.fam
   obx:=fun b id hl hb=>by
    have:=hE.obx b id hl (by show toC N (g.ow b)=_;rw [hb];rfl)
    exact hbk this (by simp)
   keep:=fun b hb ho=>hE.keep b hb (by
    rcases ho with ho | ho
    ·left;show toC N (g.ow b)=_;rw [ho];rfl
    ·right;exact toC_frame ho)
   size:=hE.size
   frame:=fun b hb=>by
    have:=hE.frame b (toC_frame hb)
    show bkO N (g.ow b) (gc.ow b)=_
    rw [hb,this];rfl
   noframe:=fun b hb=>by
    show bkO N (g.ow b) (gc.ow b)≠_
    unfold bkO
    split
    ·rename_i t ht
     split
     ·simp
     ·rename_i hlt
      have h1:(g.callee N).ow b≠some .frame:=by
       show toC N (g.ow b)≠_
       rw [ht];simp only [toC];rw [if_pos (by omega)];simp
      have:=hE.noframe b h1
      cases e:gc.ow b with
      | none=>simp [shO]
      | some o=>
       rw [e] at this
       cases o with
       | box id=>simp [shO]
       | frame=>exact absurd rfl this
       | plc p=>cases p <;> simp [shO]
       | obj id i=>simp [shO]
    ·rename_i hnot
     have h1:(g.callee N).ow b≠some .frame:=by
      show toC N (g.ow b)≠_
      cases e:g.ow b with
      | none=>simp [toC]
      | some o=>
       cases o with
       | box id=>simp [toC]
       | frame=>exact absurd e hb
       | plc p=>
        cases p with
        | tmp t=>exact absurd e (hnot t)
        | cell id off=>simp [toC]
       | obj id i=>simp [toC]
     have:=hE.noframe b h1
     cases e:gc.ow b with
     | none=>simp [shO]
     | some o=>
      rw [e] at this
      cases o with
      | box id=>simp [shO]
      | frame=>exact absurd rfl this
      | plc p=>cases p <;> simp [shO]
      | obj id i=>simp [shO]
   none_:=fun b hb hn=>by
    have:=hE.none_ b hb (by show toC N (g.ow b)=_;rw [hn];rfl)
    show bkO N (g.ow b) (gc.ow b)=_
    rw [hn,this];rfl
   fnew:=fun b i hb hf=>hE.fnew b i (toC_frame hb) hf
   os:=hE.os,tape:=hE.tape,output:=hE.output }
 refine ⟨?_,hExt⟩
 have hg:∀t,t<N→St.get { ts:=(N,r) :: cutC N st.ts,n:=N+1,σ } t=(st.get t).map (fixC N):=by
  intro t ht
  simp only [St.get,if_pos (show t<N+1 by omega),if_pos (show t<st.n by omega),lkp,beq_ne (show N≠t by omega),lkp_cutC,if_pos ht,Option.map_some]
 exact
 {size:=by simp [hus]
  slot:=fun t x hx=>by
   have ht:t<N+1:=get_lt hx
   rcases Nat.lt_or_ge t N with hlt | hge
   ·rw [hg t hlt] at hx
    simp only [Option.map_eq_some_iff] at hx
    obtain ⟨y,hy,rfl⟩:=hx
    obtain ⟨v,hv,hs⟩:=h.slot t y hy
    have hvv:(us.push rv)[t]? = some v:=by
     rw [Array.getElem?_push,if_neg (by omega),hu t hlt,hv]
    refine ⟨v,hvv,?_⟩
    have hown:∀{ex e n xs u},OwnOk P g w (.tmp t) ex e n xs u→OwnOk P (g.back gc N) w' (.tmp t) ex e n xs u:=by
     rintro ex e n xs u (hh | ⟨hn,b,cap,hv',hb⟩)
     ·exact .inl hh
     ·have hfb:=hfr hb.ow hlt
      obtain ⟨c,fz,k1,k2,k3⟩:=hb.blk
      have hblt:b<w.heap.size:=(Array.getElem?_eq_some_iff.1 k1).1
      have hh:=hE.keep b hblt (.inr hfb)
      refine .inr ⟨hn,b,cap,hv',hb.hcap,⟨c,fz,hh.trans k1,k2,k3⟩,?_,?_,fun he i hf=>hb.ex_ he i (hE.fnew b i hfb hf),fun i hi hf=>hb.fr i hi (hE.fnew b i hfb hf)⟩
      ·show bkO N (g.ow b) (gc.ow b)=_
       rw [hb.ow];simp only [bkO];rw [if_pos hlt]
      ·exact hb.el.mono hExt (cell_of_heap hh)
    have hal:∀s,s<N→∀fl n xs,contentAt st (.tmp s)=some (.sl fl n xs)→contentAt { ts:=(N,r) :: cutC N st.ts,n:=N+1,σ } (.tmp s)=some (.sl fl n xs)∧realAt (g.back gc N) (us.push rv) w' (.tmp s)=realAt g vs w (.tmp s):=by
     intro s hs fl n xs hcn
     have hcn:st.get s=some (.sl fl n xs):=hcn
     constructor
     ·show St.get _ s=_
      rw [hg s hs,hcn];rfl
     ·show (us.push rv)[s]? = vs[s]?
      rw [Array.getElem?_push,if_neg (by omega),hu s hs]
    cases y with
    | sl fl n xs=>
     cases fl with
     | view=>exact Rel.ext hExt hs
     | own e=>exact hown hs
     | excl e=>exact hown hs
    | alias q=>
     cases q with
     | tmp s=>
      by_cases hsn:s<N
      ·simp only [fixC,if_pos hsn]
       obtain ⟨⟨fl,n,xs,k1,k2⟩,k3⟩:=hs
       obtain ⟨j1,j2⟩:=hal s hsn fl n xs k1
       exact ⟨⟨fl,n,xs,j1,k2⟩,j2.trans k3⟩
      ·simp only [fixC,if_neg hsn];trivial
     | cell id off=>trivial
    | elem q k off=>
     cases q with
     | tmp s=>
      by_cases hsn:s<N
      ·simp only [fixC,if_pos hsn]
       obtain ⟨fl,xs,b,cap,k1,k2,k3,k4⟩:=hs
       obtain ⟨j1,j2⟩:=hal s hsn fl false xs k1
       exact ⟨fl,xs,b,cap,j1,k2,j2.trans k3,k4⟩
      ·simp only [fixC,if_neg hsn];trivial
     | cell id off'=>trivial
    | dead=>trivial
    | _=>exact Rel.ext hExt hs
   ·have e:t=N:=by omega
    subst e
    simp only [St.get,if_pos (show t<t+1 by omega),lkp,Nat.beq_refl,Option.some.injEq] at hx
    subst hx
    obtain ⟨v,hv,hs⟩:=hc.slot 0 r (by simp [St.get,lkp])
    have:v=rv:=by simpa using hv.symm
    subst this
    refine ⟨v,by rw [←hus];simp,hs.gh hr rfl rfl fun b hb=>?_⟩
    rw [hbk hb (by simp)];rfl
  rlen:=hc.rlen
  box:=fun id ty cs b h1 h2=>by
   obtain ⟨c,fz,k1,k2,k3,k4⟩:=hc.box id ty cs b h1 h2
   refine ⟨c,fz,k1,k2,k3,fun off x hx=>?_⟩
   obtain ⟨j1,v,j2,j3⟩:=k4 off x hx
   refine ⟨j1,v,j2,j3.gh j1 rfl rfl fun b hb=>?_⟩
   rw [hbk hb (by simp)];rfl
  bmap:=hc.bmap
  bfam:=fun id alts l h1=>(hc.bfam id alts l h1).mono rfl (fun _ _ h=>h) (fun _ _ _=>rfl) (fun i b hb=>⟨rfl,by rw [hbk hb (by simp)];rfl,fun _ h=>h⟩) (Nat.le_refl _)
  fdom:=hc.fdom
  rown:=fun id b hk hb=>by rw [hbk (hc.rown id b hk hb) (by simp)];rfl
  olt:=fun b o hb=>by
   have hb:bkO N (g.ow b) (gc.ow b)=some o:=hb
   cases e:gc.ow b with
   | some o'=>exact hc.olt b o' e
   | none=>
    rw [e] at hb
    unfold bkO at hb
    split at hb
    ·rename_i t ht
     exact Nat.lt_of_lt_of_le (h.olt b _ ht) hE.size
    ·cases hb
  flt:=hc.flt
  fbox:=fun b i id hb=>by
   have hb:bkO N (g.ow b) (gc.ow b)=some (.box id):=hb
   refine hc.fbox b i id ?_
   have hsh:shO N (gc.ow b)=some (.box id):=by
    unfold bkO at hb
    split at hb
    ·split at hb
     ·cases hb
     ·exact hb
    ·exact hb
   cases e:gc.ow b with
   | none=>rw [e] at hsh;cases hsh
   | some o'=>
    rw [e] at hsh
    cases o' with
    | box id'=>exact hsh
    | frame=>cases hsh
    | plc p=>cases p <;> cases hsh
    | obj id' i'=>cases hsh }
def WF (P:Program):Prop:=(∀(k:Nat) (fn:Func),P.funcs[k]? = some fn→fn.body.isSome=true→(fn.name == "runtime.NumGoroutine")=false)∧P.follows .mixedOrders=true
def AbsCall (P:Program) (f:FuncId) (args:List PV) (σ:List Bx) (r:PV) (σ':List Bx):Prop:=
 ∀(g:Gh) (us:Array Value) (w:World),Inv P g { ts:=number 0 args,n:=args.length,σ } us w→
  Calls P f us w fun e w'=>∃rv gc,e=.returned rv∧Inv P gc { ts:=[(0,r)],n:=1,σ:=σ' } #[rv] w'∧Ext g gc w w'
def AbsI (P:Program) (k:Prop) (name:String) (args:List PV) (σ:List Bx) (r:PV) (σ':List Bx):Prop:=
 ∀(g:Gh) (us:Array Value) (w:World),Inv P g { ts:=number 0 args,n:=args.length,σ } us w→∀T u rest,us = #[Value.iface T u]++rest→
  ∃f u',(∀fuel,(method (fuel+1) T u name).run P w=.ok (f,u') w)∧(∃fn,P.funcs[f]? = some fn∧fn.body.isSome=true)∧
  Calls P f (#[u']++rest) w fun e w'=>∃rv gc,e=.returned rv∧Inv P gc { ts:=[(0,r)],n:=1,σ:=σ' } #[rv] w'∧Ext g gc w w'∧(k→BoxKeep g w w')
def SoundI (P:Program) (k:Prop) (inv:String→List PV→List Bx→Option (PV×List Bx)):Prop:=
 ∀name args σ r σ',inv name args σ=some (r,σ')→AbsI P k name args σ r σ'
def SoundC (P:Program) (call:FuncId→List PV→List Bx→Option (PV×List Bx)):Prop:=
 ∀f args σ r σ',call f args σ=some (r,σ')→(∃fn,P.funcs[f]? = some fn∧fn.body.isSome=true)∧AbsCall P f args σ r σ'
def AbsK (P:Program) (k:Prop) (f:FuncId) (args:List PV) (σ:List Bx) (r:PV) (σ':List Bx):Prop:=
 ∀(g:Gh) (us:Array Value) (w:World),Inv P g { ts:=number 0 args,n:=args.length,σ } us w→
  Calls P f us w fun e w'=>∃rv gc,e=.returned rv∧Inv P gc { ts:=[(0,r)],n:=1,σ:=σ' } #[rv] w'∧Ext g gc w w'∧(k→BoxKeep g w w')
def SoundK (P:Program) (k:Prop) (call:FuncId→List PV→List Bx→Option (PV×List Bx)):Prop:=
 ∀f args σ r σ',call f args σ=some (r,σ')→(∃fn,P.funcs[f]? = some fn∧fn.body.isSome=true)∧AbsK P k f args σ r σ'
theorem SoundC.k {P:Program} {call:FuncId→List PV→List Bx→Option (PV×List Bx)} (h:SoundC P call):SoundK P False call:=fun f args σ r σ' he=>by
 obtain ⟨h1,h2⟩:=h f args σ r σ' he
 exact ⟨h1,fun g us w hi=>(h2 g us w hi).mono fun e w' ⟨rv,gc,k1,k2,k3⟩=>⟨rv,gc,k1,k2,k3,fun hf=>hf.elim⟩⟩
theorem srcOk_frozen {g:Gh} {w:World} {vs:Array Value} {N:Nat}:∀{xs:List PV} {us:List Value} {r:List (PV⊕Operand)} {us':List Value},RelL g w xs us→SrcOk g w vs N r us'→SrcOk g w vs N (xs.map .inl++r) (us++us'):=by
 intro xs
 induction xs with
 | nil=>
  intro us r us' h k
  have:us=[]:=List.eq_nil_of_length_eq_zero h.1
  subst this
  exact k
 | cons x xs ih=>
  intro us r us' h k
  cases us with
  | nil=>have:=h.1;simp at this
  | cons u us=>exact ⟨h.2 0 (by simp) (by simp),ih ⟨by simpa using h.1,fun i hi hv=>h.2 (i+1) (by simpa using hi) (by simpa using hv)⟩ k⟩
theorem srcOk_ops {g:Gh} {w:World} {vs:Array Value} {N:Nat}:∀{os:List Operand} {r:List (PV⊕Operand)} {us':List Value},os.all (opLt N)=true→SrcOk g w vs N r us'→SrcOk g w vs N (os.map .inr++r) (os.map (evalV vs)++us'):=by
 intro os
 induction os with
 | nil=>intro r us' _ k;exact k
 | cons o os ih=>
  intro r us' h k
  simp only [List.all_cons,Bool.and_eq_true] at h
  exact ⟨rfl,h.1,ih h.2 k⟩
theorem evCallG_sound {P:Program} {mv:Nat→Bool} {call:List PV→List Bx→Option (PV×List Bx)} {o:Oper} {c:Call} {first captured:List PV} {vf vc:Array Value} {st st':St} {g:Gh} {a:Act} {w:World} {kp:Prop} (h:Inv P g st a.tmps w)
  (hF:RelL g w first vf.toList) (hCp:RelL g w captured vc.toList) (hgo:∀(g1:Gh) (us:Array Value) (xs:List PV) (σ0:List Bx) (r:PV) (σ1:List Bx),call xs σ0=some (r,σ1)→us=vf++c.args.map (evalV a.tmps)++vc→Inv P g1 { ts:=number 0 xs,n:=xs.length,σ:=σ0 } us w→
   ∃f us',(execOp a.eval o).run P w=.ok (.enter f us') w∧Calls P f us' w fun e w'=>∃rv gc,e=.returned rv∧Inv P gc { ts:=[(0,r)],n:=1,σ:=σ1 } #[rv] w'∧Ext g1 gc w w'∧(kp→BoxKeep g1 w w'))
  (he:evCallG st mv call first captured c.args.toList o.dst=some st') {next:Act→World→Prop} {Q:Exit→Act→World→Prop}
  (hnext:∀a' w' g',Inv P g' st' a'.tmps w'→Ext g g' w w'→a'.defers=a.defers→(∃v,a'=a.put o.dst v)→(kp→BoxKeep g w w')→next a' w'):o.wp P a w next Q:=by
 unfold evCallG at he
 have hlf:vf.size=first.length:=by have:=hF.1;simpa using this
 have hlc:vc.size=captured.length:=by have:=hCp.1;simpa using this
 split at he
 ·rename_i hall
  split at he
  ·rename_i st1 hpass
   rw [nrm_eq] at he
   split at he
   ·rename_i hal
    split at he
    ·rename_i r σ hcall
     split at he
     ·rename_i hrno'
      obtain ⟨hrno,hrnd⟩:=hrno'
      have h0:Inv P g { ts:=cutN st.n st.ts,n:=st.n,σ:=st.σ } a.tmps w:=h.shrink (Nat.le_refl _) h.size (fun _ _=>rfl)
      have h1:=h0.grow (fun t ht=>by
       have ht:st.n≤t:=ht
       show lkp (cutN st.n st.ts) t=.dead
       rw [lkp_cutN,if_neg (by omega)]) (first.length+c.args.toList.length+captured.length)
      have hgt:∀t,t<st.n→(a.tmps++Array.replicate (first.length+c.args.toList.length+captured.length) undef)[t]? = a.tmps[t]?:=fun t ht=>by
       rw [Array.getElem?_append_left (by have:=h.size;omega)]
      have hsrc0:SrcOk g w a.tmps st.n (first.map .inl++c.args.toList.map .inr++captured.map .inl) (vf.toList++c.args.toList.map (evalV a.tmps)++vc.toList):=by
       have e1:=srcOk_frozen (vs:=a.tmps) (N:=st.n) (r:=[]) (us':=[]) (xs:=captured) (us:=vc.toList) hCp trivial
       have e2:=srcOk_ops (vs:=a.tmps) hall e1
       have e3:=srcOk_frozen (xs:=first) (us:=vf.toList) hF e2
       simpa [List.append_assoc] using e3
      have hsrc:=hsrc0.ext (Ext.refl g w) hgt
      obtain ⟨g1,vs1,i1,i2,i3,i4,i5,i6,i7⟩:=passL_sound h1 hsrc hpass
      have i3':st1.n=st.n+(first.length+c.args.toList.length+captured.length):=i3
      have hlen:(vf.toList++c.args.toList.map (evalV a.tmps)++vc.toList).length=first.length+c.args.toList.length+captured.length:=by simp [hlf,hlc];omega
      have hus:(vf++c.args.map (evalV a.tmps)++vc).toList=vf.toList++c.args.toList.map (evalV a.tmps)++vc.toList:=by simp
      have henter:=i1.enter (N:=st.n) (k:=first.length+c.args.toList.length+captured.length) i3 hal (us:=vf++c.args.map (evalV a.tmps)++vc) (by rw [←Array.length_toList,hus,hlen]) (fun i hi=>by
       have:=i7 i (by rw [hlen];exact hi)
       rw [Nat.add_zero] at this
       rw [this,←Array.getElem?_toList,hus,List.getElem?_eq_getElem])
      obtain ⟨f,us',hrun,hcalls⟩:=hgo (g1.callee st.n) _ _ _ _ _ hcall rfl (by
       have e:(getArgs st1.ts st.n (first.length+c.args.toList.length+captured.length)).length=first.length+c.args.toList.length+captured.length:=getArgs_length _ _ _
       rw [e];exact henter)
      unfold Oper.wp
      rw [hrun,Oper.upon_enter]
      refine hcalls.mono ?_
      rintro e w' ⟨rv,gc,rfl,j1,j2,jk⟩
      have hkeep:kp→BoxKeep g w w':=fun hk id b hb ho=>jk hk id b (prefix_get i2.rho hb) (by
       have:=i2.obx b id (List.getElem?_eq_some_iff.1 hb).1 ho
       show toC st.n (g1.ow b)=_
       rw [this];rfl)
      obtain ⟨l1,l2⟩:=i1.leave (N:=st.n) (by rw [i3'];omega) hrno j1 j2 (us:=a.tmps) h.size (fun t ht=>by rw [i5 t (by omega),hgt t ht])
      have hput:∀{st4:St} {g4:Gh},Inv P g4 st4 (putT (a.tmps.push rv) o.dst rv) w'→Ext g g4 w w'→st4.n=st.n+1→st'=st4.shrink st.n→next (a.put o.dst rv) w':=by
       intro st4 g4 m1 m2 m3 m4
       refine hnext _ w' g4 ?_ m2 (put_defers _ _ _) ⟨rv,rfl⟩ hkeep
       rw [m4,put_tmps]
       refine m1.shrink (by omega) ?_ fun t ht=>?_
       ·have:=h.size
        cases o.dst <;> simp [putT,this]
       ·have hsz:=h.size
        cases hd:o.dst with
        | none=>simp only [putT];rw [Array.getElem?_push,if_neg (by omega)]
        | some d=>
         simp only [putT]
         by_cases e:d=t
         ·subst e
          rw [Array.getElem?_setIfInBounds_self_of_lt (by omega),Array.getElem?_setIfInBounds_self_of_lt (by simp;omega)]
         ·rw [Array.getElem?_setIfInBounds_ne (by omega),Array.getElem?_setIfInBounds_ne (by omega),Array.getElem?_push,if_neg (by omega)]
      unfold afterCall at he
      split at he
      ·rename_i st4 hst4
       injection he with he
       split at hst4
       ·rename_i hown
        split at hst4
        ·rename_i d hd
         cases r with
         | sl fl n xs=>
          have hreal:realAt (g1.back gc st.n) (a.tmps.push rv) w' (.tmp st.n)=some rv:=by
           show (a.tmps.push rv)[st.n]? = some rv
           rw [←h.size];simp
          obtain ⟨g4,m1,m2⟩:=mvD_inv l1 (q:=.tmp st.n) (fl:=fl) (n:=n) (xs:=xs) (by simp [contentAt,St.get,lkp,Nat.beq_refl]) hown hreal hst4
          exact hput m1 ((i2.trans l2).trans m2) (mvD_n hst4) he.symm
         | _=>cases hown
        ·rename_i hd
         injection hst4 with hst4
         refine hput (st4:=st4) (g4:=g1.back gc st.n) ?_ (i2.trans l2) (by rw [←hst4]) he.symm
         rw [hd,←hst4];exact l1
       ·rename_i hown
        refine hput (setD_rel l1 hst4 ?_) (i2.trans l2) (setD_n hst4) he.symm
        obtain ⟨v,hv,hsl⟩:=l1.slot st.n r (by simp [St.get,lkp,Nat.beq_refl])
        have hvr:v=rv:=by
         have:(a.tmps.push rv)[st.n]? = some rv:=by rw [←h.size];simp
         rw [this] at hv
         injection hv with hv
         exact hv.symm
        subst hvr
        refine slot_rel hsl (by simpa using hown) hrno ?_
        rintro rfl
        cases hrnd
      ·cases he
     ·cases he
    ·cases he
   ·cases he
  ·cases he
 ·cases he
theorem evCallW_sound {C:Ctx} {o:Oper} {c:Call} {k:FuncId} {first captured:List PV} {vf vc:Array Value} {st st':St} {g:Gh} {a:Act} {w:World} {kp:Prop} (hC:SoundK C.P kp C.call) (h:Inv C.P g st a.tmps w)
  (hF:RelL g w first vf.toList) (hCp:RelL g w captured vc.toList) (hrun':∀fn,C.P.funcs[k]? = some fn→fn.body.isSome=true→(execOp a.eval o).run C.P w=.ok (.enter k (vf++c.args.map (evalV a.tmps)++vc)) w)
  (he:evCallW C st k first captured c.args.toList o.dst=some st') {next:Act→World→Prop} {Q:Exit→Act→World→Prop}
  (hnext:∀a' w' g',Inv C.P g' st' a'.tmps w'→Ext g g' w w'→a'.defers=a.defers→(∃v,a'=a.put o.dst v)→(kp→BoxKeep g w w')→next a' w'):o.wp C.P a w next Q:=
 evCallG_sound h hF hCp (fun g1 us xs σ0 r σ1 hc hus hi=>by
  obtain ⟨⟨fn,hfn,hbody⟩,habs⟩:=hC _ _ _ _ _ hc
  exact ⟨k,us,by rw [hus];exact hrun' fn hfn hbody,habs g1 us w hi⟩) he hnext
theorem evCall_sound {C:Ctx} {o:Oper} {c:Call} {f:Operand} {st st':St} {g:Gh} {a:Act} {w:World} {kp:Prop} (hW:WF C.P) (hC:SoundK C.P kp C.call) (h:Inv C.P g st a.tmps w) (ho:o.op=.call c) (hf:c.callee=.value f)
  (he:evCall C st f c.args.toList o.dst=some st') {next:Act→World→Prop} {Q:Exit→Act→World→Prop}
  (hnext:∀a' w' g',Inv C.P g' st' a'.tmps w'→Ext g g' w w'→a'.defers=a.defers→(∃v,a'=a.put o.dst v)→(kp→BoxKeep g w w')→next a' w'):o.wp C.P a w next Q:=by
 unfold evCall at he
 split at he
 ·rename_i k first captured hp
  obtain ⟨p,hs⟩:=peek_slot h hp
  have hs:Rel g w _ _:=hs
  generalize hev:evalV a.tmps f=fv at hs
  cases hs with
  | fn _ _ _ vf vc hlf hlc hrf hrc=>
   refine evCallW_sound hC h (vf:=vf) (vc:=vc) ⟨by simpa using hlf,fun i hi hv=>by simpa using hrf i hi (by simpa using hv)⟩ ⟨by simpa using hlc,fun i hi hv=>by simpa using hrc i hi (by simpa using hv)⟩ (fun fn hfn hbody=>?_) he hnext
   have hb:fn.body.isNone=false:=by cases hh:fn.body <;> simp [hh] at hbody ⊢
   have hnm:¬((fn.name == "runtime.NumGoroutine")=true):=by rw [hW.1 k fn hfn hbody];simp
   simp only [eval_eq,execOp,ho,resolve,hf,hev,Deferred.ofValue,invoke,callFunc,hfn,hb,Sem.run_bind,Sem.run_pure,Result.andThen_ok,run_program]
   rw [if_neg hnm]
   rfl
 ·cases he
theorem recvOf_sound {P:Program} {st:St} {g:Gh} {vs:Array Value} {w:World} (h:Inv P g st vs w) {T:TypeId} {v x:PV} {name:String} {k:FuncId} (he:recvOf P st T v name=some (k,x)) {u:Value} (hu:Rel g w v u) :
  ∃u',Rel g w x u'∧∀fuel,(method (fuel+1) T u name).run P w=.ok (k,u') w:=by
 unfold recvOf at he
 split at he
 case h_2=>cases he
 rename_i i hi
 split at he
 case h_2=>cases he
 rename_i m hm
 split at he
 case h_2=>cases he
 rename_i f hf
 have hti:(typeInfo T).run P w=.ok i w:=by simp [typeInfo,hi]
 split at he
 ·rename_i hpath
  split at he
  ·rename_i e hund
   injection he with he;injection he with e1 e2;subst e1;subst e2
   refine ⟨u,hu,fun fuel=>?_⟩
   simp [method,hti,hm,hpath,follow,hf,receiverAt,run_und hund,Place.get]
  ·cases he
 ·rename_i s hpath
  split at he
  case h_2=>cases he
  rename_i id off fs hder hund
  cases hu with
  | ptr _ _ b hb=>
   split at he
   case h_2=>cases he
   rename_i fd hfd
   have hfol:∀n,szOf P fd.type=some (n+1)→(follow m.path.toList T (.val (.pointer (some ⟨b,off,none⟩)))).run P w=.ok (fd.type,.var ⟨b,off+fd.offset,none⟩) w:=fun n hn=>by
    rw [hpath]
    simp [follow,run_und hund,hfd,hder,Place.get,asAddr,fieldPlace,run_size hn,add_off]
   split at he
   ·rename_i n e hn hft
    have hagg:aggT P fd.type=some false:=by simp [aggT,hft]
    have hld:∀u',realAt g vs w (.cell id (off+fd.offset))=some u'→(loadVar fd.type ⟨b,off+fd.offset,none⟩).run P w=.ok u' w:=fun u' hr=>by
     simp only [realAt,hb] at hr
     simp only [loadVar,Sem.run_bind,run_agg hagg,Result.andThen_ok,Bool.false_eq_true,if_false,run_load_some hr]
    have hfin:∀u',realAt g vs w (.cell id (off+fd.offset))=some u'→∀fuel,(method (fuel+1) T (.pointer (some ⟨b,off,none⟩)) name).run P w=.ok (f,u') w:=fun u' hr fuel=>by
     simp [method,hti,hm,hfol _ hn,hf,receiverAt,run_und hft,Place.get,hld u' hr]
    split at he
    ·rename_i id' off' hc
     injection he with he;injection he with e1 e2;subst e1;subst e2
     obtain ⟨u',hr,hs⟩:=contentAt_real h hc
     exact ⟨u',hs,hfin u' hr⟩
    ·rename_i cs o hc
     injection he with he;injection he with e1 e2;subst e1;subst e2
     obtain ⟨u',hr,hs⟩:=contentAt_real h hc
     exact ⟨u',hs,hfin u' hr⟩
    ·cases he
   ·rename_i n d hnp hn hft
    injection he with he;injection he with e1 e2;subst e1;subst e2
    refine ⟨_,.ptr id (off+fd.offset) b hb,fun fuel=>?_⟩
    simp only [method,Sem.run_bind,hti,Result.andThen_ok,hm,hfol _ hn,hf]
    cases d <;> first | exact absurd rfl (hnp _) | simp [receiverAt,run_und hft]
   ·cases he
 ·cases he
theorem evInvoke_sound {C:Ctx} {o:Oper} {c:Call} {f:Operand} {name:String} {st st':St} {g:Gh} {a:Act} {w:World} {kp:Prop} (hW:WF C.P) (hC:SoundK C.P kp C.call) (hI:SoundI C.P kp C.inv) (h:Inv C.P g st a.tmps w) (ho:o.op=.call c) (hf:c.callee=.invoke f name)
  (he:evInvoke C st f name c.args.toList o.dst=some st') {next:Act→World→Prop} {Q:Exit→Act→World→Prop}
  (hnext:∀a' w' g',Inv C.P g' st' a'.tmps w'→Ext g g' w w'→a'.defers=a.defers→(∃v,a'=a.put o.dst v)→(kp→BoxKeep g w w')→next a' w'):o.wp C.P a w next Q:=by
 unfold evInvoke at he
 split at he
 ·rename_i T v hp
  obtain ⟨p,hs⟩:=peek_slot h hp
  have hs:Rel g w _ _:=hs
  generalize hev:evalV a.tmps f=fv at hs
  cases hs with
  | ifc _ _ u hu=>
   split at he
   ·rename_i k x hr
    split at he
    ·obtain ⟨u',hx,hm⟩:=recvOf_sound h hr hu
     refine evCallW_sound hC h (vf:=#[u']) (vc:=#[]) (RelL.single hx) ⟨rfl,fun i hi=>by simp at hi⟩ (fun fn hfn hbody=>?_) he hnext
     have hb:fn.body.isNone=false:=by cases hh:fn.body <;> simp [hh] at hbody ⊢
     have hnm:¬((fn.name == "runtime.NumGoroutine")=true):=by rw [hW.1 k fn hfn hbody];simp
     have hdp:0<Made.depth:=by decide
     obtain ⟨d,hd⟩:∃d,C.P.types.size+Made.depth=d+1:=⟨C.P.types.size+Made.depth - 1,by omega⟩
     have h0:∀l:Array Value,(#[Value.iface T u]++l)[0]? = some (Value.iface T u):=fun l=>by rw [Array.getElem?_append_left (by simp)];rfl
     have h1:∀l:Array Value,(#[Value.iface T u]++l).extract 1 (#[Value.iface T u]++l).size=l:=fun l=>by
      apply Array.ext'
      simp
     simp only [eval_eq,execOp,ho,resolve,hf,hev,invoke,Sem.run_bind,Sem.run_pure,Result.andThen_ok,h0,h1,callMethod,run_program,hd,hm d,callFunc,hfn,hb]
     rw [if_neg hnm]
     simp
    ·cases he
   ·cases he
 ·rename_i id i hp
  obtain ⟨p,hs⟩:=peek_slot h hp
  have hs:Rel g w _ _:=hs
  generalize hev:evalV a.tmps f=fv at hs
  cases hs with
  | oref _ _ v hv hfam=>
   obtain ⟨T,u,rfl⟩:=hv
   refine evCallG_sound h (vf:=#[.iface T u]) (vc:=#[]) (RelL.single (.oref id i _ ⟨T,u,rfl⟩ hfam)) ⟨rfl,fun i hi=>by simp at hi⟩ (fun g1 us xs σ0 r σ1 hc hus hi=>?_) he hnext
   obtain ⟨k,u',hm,⟨fn,hfn,hbody⟩,hcalls⟩:=hI _ _ _ _ _ hc g1 us w hi T u (c.args.map (evalV a.tmps)) (by rw [hus];simp)
   refine ⟨k,#[u']++c.args.map (evalV a.tmps),?_,hcalls⟩
   have hb:fn.body.isNone=false:=by cases hh:fn.body <;> simp [hh] at hbody ⊢
   have hnm:¬((fn.name == "runtime.NumGoroutine")=true):=by rw [hW.1 k fn hfn hbody];simp
   have hdp:0<Made.depth:=by decide
   obtain ⟨d,hd⟩:∃d,C.P.types.size+Made.depth=d+1:=⟨C.P.types.size+Made.depth - 1,by omega⟩
   have h0:∀l:Array Value,(#[Value.iface T u]++l)[0]? = some (Value.iface T u):=fun l=>by rw [Array.getElem?_append_left (by simp)];rfl
   have h1:∀l:Array Value,(#[Value.iface T u]++l).extract 1 (#[Value.iface T u]++l).size=l:=fun l=>by
    apply Array.ext'
    simp
   simp only [eval_eq,execOp,ho,resolve,hf,hev,invoke,Sem.run_bind,Sem.run_pure,Result.andThen_ok,h0,h1,callMethod,run_program,hd,hm d,callFunc,hfn,hb]
   rw [if_neg hnm]
   simp
 ·cases he
theorem OpOk.wp {P:Program} {o:Oper} {st':St} {g:Gh} {a:Act} {w:World} (h:OpOk P o a.tmps w g st') {next:Act→World→Prop} {Q:Exit→Act→World→Prop}
  (hnext:∀a' w' g',Inv P g' st' a'.tmps w'→Ext g g' w w'→a'.defers=a.defers→(∃v,a'=a.put o.dst v)→(keepKind o.op=true→BoxKeep g w w')→next a' w'):o.wp P a w next Q:=by
 obtain ⟨r,v,w',g',h1,h2,h3,h4,h5⟩:=h
 unfold Oper.wp
 rw [eval_eq,h1]
 rcases h2 with rfl | ⟨rfl,rfl⟩
 ·rw [Oper.upon_value];exact hnext _ _ g' (by rw [put_tmps];exact h3) h4 (put_defers _ _ _) ⟨_,rfl⟩ h5
 ·rw [Oper.upon_skip];exact hnext _ _ g' (by rw [put_tmps];exact h3) h4 (put_defers _ _ _) ⟨_,rfl⟩ h5
theorem evOp'_soundK {C:Ctx} {o:Oper} {st st':St} {g:Gh} {a:Act} {w:World} {kp:Prop} (hW:WF C.P) (hC:SoundK C.P kp C.call) (hI:SoundI C.P kp C.inv) (h:Inv C.P g st a.tmps w) (he:evOp' C o st=some st') {next:Act→World→Prop} {Q:Exit→Act→World→Prop}
  (hnext:∀a' w' g',Inv C.P g' st' a'.tmps w'→Ext g g' w w'→a'.defers=a.defers→(∃v,a'=a.put o.dst v)→(keepKind o.op=true→kp→BoxKeep g w w')→next a' w'):o.wp C.P a w next Q:=by
 have key:∀{st':St},evOp C o st=some st'→(∀a' w' g',Inv C.P g' st' a'.tmps w'→Ext g g' w w'→a'.defers=a.defers→(∃v,a'=a.put o.dst v)→(keepKind o.op=true→kp→BoxKeep g w w')→next a' w')→o.wp C.P a w next Q:=
  fun he hn=>(evOp_sound h he).wp fun a' w' g' h1 h2 h3 h4 h5=>hn a' w' g' h1 h2 h3 h4 fun hk _=>h5 hk
 unfold evOp' at he
 split at he
 ·rename_i c ho
  split at he
  ·rename_i f hf;exact evCall_sound hW hC h ho hf he fun a' w' g' h1 h2 h3 h4 h5=>hnext a' w' g' h1 h2 h3 h4 fun _=>h5
  ·rename_i f name hf;exact evInvoke_sound hW hC hI h ho hf he fun a' w' g' h1 h2 h3 h4 h5=>hnext a' w' g' h1 h2 h3 h4 fun _=>h5
  ·exact key he hnext
 ·exact key he hnext
theorem wanted_sound {P:Program} {ops:Array Oper} {o:Oper} {st:St} {g:Gh} {vs:Array Value} {w:World} {b:Bool} (h:Inv P g st vs w) (he:wantedA ops o st=some b):Region.wanted o (yielded ops vs)=b:=by
 unfold wantedA at he
 unfold Region.wanted
 split at he
 ·rename_i hg;injection he with he;rw [hg];exact he
 ·rename_i j want hg
  rw [hg]
  simp only [yielded]
  split at he
  ·rename_i p hp
   simp only [hp,Option.bind_some]
   split at he
   ·rename_i t ht
    simp only [ht,Option.bind_some]
    split at he
    ·rename_i x hx
     injection he with he
     obtain ⟨v,hv,hs⟩:=h.slot t _ hx
     have:=val_slot (u:=.bool x) rfl hs
     subst this
     rw [hv]
     subst he
     cases x <;> cases want <;> rfl
    ·rename_i x hnb hx
     injection he with he
     obtain ⟨v,hv,hs⟩:=h.slot t _ hx
     have:=val_slot (u:=x) rfl hs
     subst this
     rw [hv]
     subst he
     cases v <;> first | rfl | (exfalso;exact hnb _ rfl)
    ·cases he
   ·rename_i ht
    injection he with he
    subst he
    simp [ht]
  ·rename_i hp
   injection he with he
   subst he
   simp [hp]
def LoopWp (P:Program) (c:Code) (Q:Exit→Act→World→Prop) (a:Act) (w:World):Prop:=
 ∀(b:Frame) (k:List Item) (cs:List Frame),∃e a' w',Q e a' w'∧Arrives P (lone (b.at a (.code c :: .inLoop c :: k)) cs w) b k cs e a' w'
theorem LoopWp.loop {P:Program} {c:Code} {Q:Exit→Act→World→Prop} {a:Act} {w:World} (h:LoopWp P c Q a w):(Code.loop c).wp P Q a w:=by
 intro b k cs
 obtain ⟨e,a',w',hq,harr⟩:=h b k cs
 exact ⟨e,a',w',hq,.of_steps (.one step_loop) harr⟩
theorem LoopWp.round {P:Program} {c:Code} {Q:Exit→Act→World→Prop} {a:Act} {w:World} (h:c.wp P (Exit.then (LoopWp P c Q) Q) a w):LoopWp P c Q a w:=by
 intro b k cs
 obtain ⟨e,a₁,w₁,hq,harr⟩:=h b (.inLoop c :: k) cs
 cases e with
 | normal=>
  obtain ⟨e₂,a₂,w₂,hq₂,harr₂⟩:=hq b k cs
  exact ⟨e₂,a₂,w₂,hq₂,.of_steps (Steps.trans harr (.one step_inLoop)) harr₂⟩
 | exit id=>exact ⟨_,a₁,w₁,hq,.pass (x:=.inLoop c) rfl (fun _ _=>.inl (by simp)) harr⟩
 | goto l=>exact ⟨_,a₁,w₁,hq,.pass (x:=.inLoop c) rfl (fun _ _=>.inl (by simp)) harr⟩
 | ret=>exact ⟨_,a₁,w₁,hq,.pass (x:=.inLoop c) rfl (fun _ _=>.inl (by simp)) harr⟩
 | panic ch=>exact ⟨_,a₁,w₁,hq,.pass (x:=.inLoop c) rfl (fun _ _=>.inl (by simp)) harr⟩
 | outgrown=>exact ⟨_,a₁,w₁,hq,.pass (x:=.inLoop c) rfl (fun _ _=>.inl (by simp)) harr⟩
theorem lkp_keepL (keep:List Nat) (ts:List (Nat×PV)):∀(l:List Nat) (t:Nat),lkp (keepL keep ts l) t=if t∈l then fixA keep (lkp ts t) else .dead:=by
 intro l
 induction l with
 | nil=>intro t;rfl
 | cons k l ih=>
  intro t
  simp only [keepL,lkp]
  by_cases e:k=t
  ·subst e;simp [Nat.beq_refl]
  ·simp only [beq_ne e,ih]
   by_cases hm:t∈l
   ·rw [if_pos hm,if_pos (by simp [hm])]
   ·rw [if_neg hm,if_neg (by simp [hm];exact fun e'=>e e'.symm)]
theorem fixA_cases (keep:List Nat) (x:PV):fixA keep x=.dead∨(fixA keep x=x∧∀s,(x=.alias (.tmp s)∨∃k off,x=.elem (.tmp s) k off)→s∈keep):=by
 cases x with
 | alias q=>
  cases q with
  | tmp s=>
   by_cases h:keep.contains s=true
   ·right
    refine ⟨by simp only [fixA,h,if_true],?_⟩
    rintro s' (e | ⟨_,_,e⟩)
    ·injection e with e;injection e with e;subst e;simpa using h
    ·cases e
   ·left;simp only [fixA,h,if_false,Bool.false_eq_true]
  | cell id off=>right;exact ⟨rfl,fun s' e=>by rcases e with e | ⟨_,_,e⟩ <;> cases e⟩
 | elem q k off=>
  cases q with
  | tmp s=>
   by_cases h:keep.contains s=true
   ·right
    refine ⟨by simp only [fixA,h,if_true],?_⟩
    rintro s' (e | ⟨_,_,e⟩)
    ·cases e
    ·injection e with e;injection e with e;subst e;simpa using h
   ·left;simp only [fixA,h,if_false,Bool.false_eq_true]
  | cell id off=>right;exact ⟨rfl,fun s' e=>by rcases e with e | ⟨_,_,e⟩ <;> cases e⟩
 | _=>right;exact ⟨rfl,fun s' e=>by rcases e with e | ⟨_,_,e⟩ <;> cases e⟩
theorem Inv.keep {P:Program} {st:St} {g:Gh} {vs:Array Value} {w:World} (h:Inv P g st vs w) (keep:List Nat):Inv P g { st with ts:=keepL keep st.ts keep } vs w:=by
 ·refine h.fewer rfl h.size (fun _ _ _=>rfl) fun t x hx=>?_
  have ht:t<st.n:=(get_lt hx :)
  have hg:∀s,s<st.n→St.get { st with ts:=keepL keep st.ts keep } s=some (if s∈keep then fixA keep (lkp st.ts s) else .dead):=by
   intro s hs
   simp only [St.get]
   rw [if_pos hs,lkp_keepL]
  rw [hg t ht] at hx
  injection hx with hx
  subst hx
  by_cases hm:t∈keep
  ·rw [if_pos hm]
   have hst:st.get t=some (lkp st.ts t):=by simp only [St.get];rw [if_pos ht]
   rcases fixA_cases keep (lkp st.ts t) with h1 | ⟨h1,h2⟩
   ·exact .inl h1
   ·rw [h1]
    refine .inr ⟨hst,fun q hq=>?_⟩
    obtain ⟨fl,n,xs,k1,_⟩:=alias_content h hst hq
    cases q with
    | tmp s=>
     have hs:s∈keep:=h2 s (by rcases hq with e | ⟨k,off,e⟩;exact .inl e;exact .inr ⟨k,off,e⟩)
     have k1':st.get s=some (.sl fl n xs):=k1
     refine ⟨?_,fun s' e=>by injection e with e;subst e;exact (get_lt k1':s<st.n)⟩
     show St.get { st with ts:=keepL keep st.ts keep } s=st.get s
     have hl:lkp st.ts s=.sl fl n xs:=by
      simp only [St.get] at k1'
      rw [if_pos (get_lt k1)] at k1'
      injection k1' with k1'
     rw [hg s (get_lt k1'),if_pos hs,k1',hl]
     rfl
    | cell id off=>exact ⟨rfl,fun s' e=>by cases e⟩
  ·rw [if_neg hm];exact .inl rfl
theorem noRefs_get {n:Nat}:∀{cs:List PV},noRefs n cs=true→∀i (hi:i<cs.length),noRef n cs[i]=true:=by
 intro cs
 induction cs with
 | nil=>intro _ i hi;simp at hi
 | cons x xs ih=>
  intro h i hi
  simp only [noRefs,Bool.and_eq_true] at h
  cases i with
  | zero=>exact h.1
  | succ i=>exact ih h.2 i (by simpa using hi)
theorem noRefs_append {n:Nat}:∀{a b:List PV},noRefs n (a++b)=(noRefs n a && noRefs n b)
 | [],b=>by simp [noRefs]
 | x :: a,b=>by simp only [List.cons_append,noRefs,noRefs_append,Bool.and_assoc]
theorem Sh.cells_noRef (n:Nat):∀(s:Sh) (x:s.den),noRefs n (s.cells x)=true:=by
 intro s
 induction s with
 | cons a b iha ihb=>intro x;simp only [Sh.cells,noRefs_append,iha,ihb,Bool.and_self]
 | fz s ih=>intro x;simp only [Sh.cells,noRefs,noRef,Bool.and_true];exact ih x
 | _=>intro x;rfl
theorem Xs.els_get {n:Nat} {x:Xs} {i j:Nat} (hi:i<x.els.length) (hj:j<x.els[i].length):noRef n x.els[i][j]=true:=by
 refine noRefs_get ?_ j hj
 simp only [Xs.els,List.getElem_map]
 exact Sh.cells_noRef n _ _
def Gh.cut (g:Gh) (n:Nat):Gh:={ g with rho:=g.rho.take n,fam:=fun id i=>if id<n then g.fam id i else none }
theorem Rel.cut {g:Gh} {w:World} {n:Nat} {x:PV} {v:Value} (h:Rel g w x v):noRef n x=true→Rel (g.cut n) w x v:=by
 induction h with
 | lit v=>intro _;exact .lit v
 | ptr id off b h=>
  intro hn
  simp only [noRef,decide_eq_true_eq] at hn
  refine .ptr id off b ?_
  show (g.rho.take n)[id]? = some b
  rw [List.getElem?_take_of_lt hn];exact h
 | nilp=>intro _;exact .nilp
 | slnil fl s=>intro _;exact .slnil fl s
 | slz s=>intro _;exact .slz s
 | sle s a cap=>intro _;exact .sle s a cap
 | slv x xs hx b o cap s vals hcap hlen hfp hrel ih=>
  intro hn
  subst hx
  exact .slv x _ rfl b o cap s vals hcap hlen hfp (fun i j hi hj=>ih i j hi hj (Xs.els_get hi hj))
 | agg cs vs hlen hrel ih=>intro hn;simp only [noRef] at hn;exact .agg cs vs hlen (fun i hi hv=>ih i hi hv (noRefs_get hn i hi))
 | tup cs vs hlen hrel ih=>intro hn;simp only [noRef] at hn;exact .tup cs vs hlen (fun i hi hv=>ih i hi hv (noRefs_get hn i hi))
 | ifc t x v h ih=>intro hn;simp only [noRef] at hn;exact .ifc t x v (ih hn)
 | fn f fs cs vf vc h1 h2 _ _ i1 i2=>
  intro hn
  simp only [noRef,Bool.and_eq_true] at hn
  exact .fn f fs cs vf vc h1 h2 (fun i hi hv=>i1 i hi hv (noRefs_get hn.1 i hi)) (fun i hi hv=>i2 i hi hv (noRefs_get hn.2 i hi))
 | map id b h=>
  intro hn
  simp only [noRef,decide_eq_true_eq] at hn
  refine .map id b ?_
  show (g.rho.take n)[id]? = some b
  rw [List.getElem?_take_of_lt hn];exact h
 | oref id i v hv h=>
  intro hn
  simp only [noRef,decide_eq_true_eq] at hn
  refine .oref id i v hv ?_
  show (if id<n then g.fam id i else none)=_
  rw [if_pos hn];exact h
 | elemv cs off b o vals hfp hrel ih=>intro hn;simp only [noRef] at hn;exact .elemv cs off b o vals hfp (fun j hj=>ih j hj (noRefs_get hn j hj))
theorem OwnOk.cut {P:Program} {g:Gh} {w:World} {p:Plc} {ex:Bool} {e:TypeId} {n:Bool} {xs:Xs} {v:Value} {k:Nat} (h:OwnOk P g w p ex e n xs.els v):OwnOk P (g.cut k) w p ex e n xs.els v:=by
 rcases h with h | ⟨hn',b,cap,hv,hb⟩
 ·exact .inl h
 ·refine .inr ⟨hn',b,cap,hv,hb.hcap,hb.blk,hb.ow,⟨hb.el.1,fun i j hi hj=>?_⟩,hb.ex_,hb.fr⟩
  obtain ⟨u,h1,h2⟩:=hb.el.2 i j hi hj
  exact ⟨u,h1,h2.cut (Xs.els_get hi hj)⟩
theorem Slot.cut {P:Program} {st st':St} {g:Gh} {vs vs':Array Value} {w:World} {p:Plc} {x:PV} {v:Value} {k:Nat} (h:Slot P st g vs w p x v) (hn:noRef k x=true):Slot P st' (g.cut k) vs' w p x v:=by
 cases x with
 | sl fl n xs=>
  cases fl with
  | view=>exact Rel.cut h rfl
  | own e=>exact OwnOk.cut h
  | excl e=>exact OwnOk.cut h
 | alias _=>simp [noRef] at hn
 | elem _ _ _=>simp [noRef] at hn
 | dead=>trivial
 | _=>exact Rel.cut h hn
def hidO:Option Own→Option Own
 | some (.box _)=>some .frame
 | some (.plc (.cell _ _))=>some .frame
 | some (.obj _ _)=>some .frame
 | o=>o
def Gh.hide (g:Gh):Gh:={ rho:=[],FP:=g.FP,ow:=fun b=>hidO (g.ow b),fam:=(g.cut 0).fam }
def unO (o oc:Option Own):Option Own:=
 match o with
 | some (.box id)=>some (.box id)
 | some (.plc (.cell id off))=>some (.plc (.cell id off))
 | some (.obj id i)=>some (.obj id i)
 | _=>oc
def Gh.unhide (g gc:Gh):Gh:={ rho:=g.rho,FP:=gc.FP,ow:=fun b=>unO (g.ow b) (gc.ow b),fam:=g.fam }
theorem Inv.hide {P:Program} {args:List PV} {σ:List Bx} {g:Gh} {us:Array Value} {w:World} (h:Inv P g { ts:=number 0 args,n:=args.length,σ } us w)
  (hn:noRefs 0 args=true):Inv P g.hide { ts:=number 0 args,n:=args.length,σ:=[] } us w where
 size:=h.size
 slot t x hx:=by
  have ht:t<args.length:=get_lt hx
  obtain ⟨v,hv,hs⟩:=h.slot t x hx
  have hxa:x=args[t]:=by
   simp only [St.get] at hx
   rw [if_pos ht,lkp_number,if_pos (by omega),Nat.sub_zero,List.getD_eq_getElem?_getD,List.getElem?_eq_getElem ht] at hx
   exact (Option.some.inj hx).symm
  have hr:noRef 0 x=true:=by rw [hxa];exact noRefs_get hn t ht
  have hna:x.noAl=true:=by cases x <;> first | rfl | simp [noRef] at hr
  have h1:Slot P { ts:=number 0 args,n:=args.length,σ:=[] } (g.cut 0) us w (.tmp t) x v:=hs.cut hr
  refine ⟨v,hv,h1.gh hna rfl rfl fun b hb=>?_⟩
  show hidO (g.ow b)=_
  have hb:g.ow b=_:=hb
  rw [hb];rfl
 rlen:=rfl
 box id ty cs b h1 h2:=by cases h2
 bmap id es b h1 h2:=by cases h2
 bfam id alts l h1:=by cases h1
 fdom id i v hv:=by
  have hv:(if id<0 then g.fam id i else none)=some v:=hv
  rw [if_neg (by omega)] at hv;cases hv
 rown id b _ hb:=by cases hb
 olt b o hb:=by
  have hb:hidO (g.ow b)=some o:=hb
  cases e:g.ow b with
  | none=>rw [e] at hb;cases hb
  | some o'=>exact h.olt b o' e
 flt:=h.flt
 fbox b i id hb:=by
  have hb:hidO (g.ow b)=some (.box id):=hb
  cases e:g.ow b with
  | none=>rw [e] at hb;cases hb
  | some o'=>
   rw [e] at hb
   cases o' with
   | box id'=>cases hb
   | frame=>cases hb
   | plc p=>cases p <;> cases hb
   | obj _ _=>cases hb
theorem Inv.unhide {P:Program} {args:List PV} {σ:List Bx} {g gc:Gh} {us:Array Value} {w w':World} (h:Inv P g { ts:=number 0 args,n:=args.length,σ } us w)
  {r:PV} {rv:Value} (hc:Inv P gc { ts:=[(0,r)],n:=1,σ:=[] } #[rv] w') (hr:r.noAl=true) (hE:Ext g.hide gc w w') :
  Inv P (g.unhide gc) { ts:=[(0,r)],n:=1,σ } #[rv] w'∧Ext g (g.unhide gc) w w':=by
 have hrho:gc.rho=[]:=List.eq_nil_of_length_eq_zero hc.rlen
 have hfr:∀{b o},g.ow b=some o→((∃id,o=.box id)∨∃id off,o=.plc (.cell id off))→g.hide.ow b=some .frame:=by
  intro b o hb ho
  show hidO (g.ow b)=_
  rcases ho with ⟨id,rfl⟩ | ⟨id,off,rfl⟩ <;> (rw [hb];rfl)
 have hExt:Ext g (g.unhide gc) w w':=
  {rho:=List.prefix_rfl,fp:=hE.fp,fpc:=hE.fpc,fam:=fun _ _ _ h=>h
   obx:=fun b id _ hb=>by show unO (g.ow b) (gc.ow b)=_;rw [hb];rfl
   keep:=fun b hb ho=>hE.keep b hb (by
    rcases ho with ho | ho
    ·left;show hidO (g.ow b)=_;rw [ho];rfl
    ·right;show hidO (g.ow b)=_;rw [ho];rfl)
   size:=hE.size
   frame:=fun b hb=>by
    have:=hE.frame b (by show hidO (g.ow b)=_;rw [hb];rfl)
    show unO (g.ow b) (gc.ow b)=_
    rw [hb,this];rfl
   noframe:=fun b hb=>by
    show unO (g.ow b) (gc.ow b)≠_
    cases e:g.ow b with
    | none=>
     have:=hE.noframe b (by show hidO (g.ow b)≠_;rw [e];simp [hidO])
     simpa [unO] using this
    | some o=>
     cases o with
     | box id=>simp [unO]
     | frame=>exact absurd e hb
     | obj id i=>simp [unO]
     | plc p=>
      cases p with
      | cell id off=>simp [unO]
      | tmp t=>
       have:=hE.noframe b (by show hidO (g.ow b)≠_;rw [e];simp [hidO])
       simpa [unO] using this
   none_:=fun b hb hn=>by
    have:=hE.none_ b hb (by show hidO (g.ow b)=_;rw [hn];rfl)
    show unO (g.ow b) (gc.ow b)=_
    rw [hn,this];rfl
   fnew:=fun b i hb hf=>hE.fnew b i (by show hidO (g.ow b)=_;rw [hb];rfl) hf
   os:=hE.os,tape:=hE.tape,output:=hE.output }
 have hfo:∀{b id i},g.ow b=some (.obj id i)→g.hide.ow b=some .frame:=by
  intro b id i hb
  show hidO (g.ow b)=_
  rw [hb];rfl
 have hkeep:∀{b o},g.ow b=some o→((∃id,o=.box id)∨∃id off,o=.plc (.cell id off))→w'.heap[b]? = w.heap[b]?:=fun {b o} hb ho=>
  hE.keep b (h.olt b o hb) (.inr (hfr hb ho))
 refine ⟨?_,hExt⟩
 exact
 {size:=rfl
  slot:=fun t x hx=>by
   have ht:t<1:=get_lt hx
   have h0:t=0:=by omega
   subst h0
   have hxr:x=r:=by simpa [St.get,lkp] using hx.symm
   subst hxr
   obtain ⟨v,hv,hs⟩:=hc.slot 0 x (by simp [St.get,lkp])
   refine ⟨v,hv,?_⟩
   have hR:∀{y u},Rel gc w' y u→Rel (g.unhide gc) w' y u:=fun hh=>Rel.mono (g:=gc) (g':=g.unhide gc) (w:=w') (w':=w') (by rw [hrho];exact List.nil_prefix) (fun id i v hv=>by have:=hc.fdom id i v hv;simp at this) (fun _ _ hh=>hh) (fun _ _ _=>rfl) hh
   have hO:∀{ex e n xs},OwnOk P gc w' (.tmp 0) ex e n xs v→OwnOk P (g.unhide gc) w' (.tmp 0) ex e n xs v:=by
    rintro ex e n xs (hk | ⟨hn,b,cap,hval,hb⟩)
    ·exact .inl hk
    ·refine .inr ⟨hn,b,cap,hval,hb.hcap,hb.blk,?_,⟨hb.el.1,fun i j hi hj=>let ⟨u,k1,k2⟩:=hb.el.2 i j hi hj;⟨u,k1,hR k2⟩⟩,hb.ex_,hb.fr⟩
     show unO (g.ow b) (gc.ow b)=_
     rw [hb.ow]
     cases e:g.ow b with
     | none=>rfl
     | some o=>
      have hno:¬((∃id,o=.box id)∨∃id off,o=.plc (.cell id off)):=fun ho=>by
       have:=hE.frame b (hfr e ho)
       rw [hb.ow] at this;cases this
      cases o with
      | box id=>exact absurd (.inl ⟨id,rfl⟩) hno
      | frame=>rfl
      | obj id i=>
       have:=hE.frame b (hfo e)
       rw [hb.ow] at this;cases this
      | plc p=>
       cases p with
       | tmp t=>rfl
       | cell id off=>exact absurd (.inr ⟨id,off,rfl⟩) hno
   cases x with
   | sl fl n xs=>
    cases fl with
    | view=>exact hR hs
    | own e=>exact hO hs
    | excl e=>exact hO hs
   | alias _=>simp [PV.noAl] at hr
   | elem _ _ _=>simp [PV.noAl] at hr
   | dead=>trivial
   | _=>exact hR hs
  rlen:=h.rlen
  box:=fun id ty cs b h1 h2=>by
   obtain ⟨c,fz,k1,k2,k3,k4⟩:=h.box id ty cs b h1 h2
   have hb:=h.rown id b (famAt_cells h1) h2
   refine ⟨c,fz,(hkeep hb (.inl ⟨id,rfl⟩)).trans k1,k2,k3,fun off x hx=>?_⟩
   obtain ⟨j1,v,j2,j3⟩:=k4 off x hx
   refine ⟨j1,v,j2,?_⟩
   have hO:∀{ex e n xs},OwnOk P g w (.cell id off) ex e n xs v→OwnOk P (g.unhide gc) w' (.cell id off) ex e n xs v:=by
    rintro ex e n xs (hk | ⟨hn,b2,cap,hval,hb2⟩)
    ·exact .inl hk
    ·have hh:=hkeep hb2.ow (.inr ⟨id,off,rfl⟩)
     have hf2:=hfr hb2.ow (.inr ⟨id,off,rfl⟩)
     obtain ⟨c2,fz2,l1,l2,l3⟩:=hb2.blk
     refine .inr ⟨hn,b2,cap,hval,hb2.hcap,⟨c2,fz2,hh.trans l1,l2,l3⟩,?_,hb2.el.mono hExt (cell_of_heap hh),fun he i hf=>hb2.ex_ he i (hE.fnew b2 i hf2 hf),fun i hi hf=>hb2.fr i hi (hE.fnew b2 i hf2 hf)⟩
     show unO (g.ow b2) (gc.ow b2)=_
     rw [hb2.ow];rfl
   cases x with
   | sl fl n xs=>
    cases fl with
    | view=>exact Rel.ext hExt j3
    | own e=>exact hO j3
    | excl e=>exact hO j3
   | alias _=>simp [PV.noAl] at j1
   | elem _ _ _=>simp [PV.noAl] at j1
   | dead=>trivial
   | _=>exact Rel.ext hExt j3
  bmap:=fun id es b h1 h2=>by
   obtain ⟨en,ck,k1,k2⟩:=h.bmap id es b h1 h2
   exact ⟨en,ck,(hkeep (h.rown id b (famAt_mp h1) h2) (.inl ⟨id,rfl⟩)).trans k1,k2⟩
  bfam:=fun id alts l h1=>(h.bfam id alts l h1).mono rfl hE.fp hE.fpc (fun i b hb=>⟨hE.keep b (h.olt b _ hb) (.inr (hfo hb)),by show unO (g.ow b) (gc.ow b)=_;rw [hb];rfl,fun j=>hE.fnew b j (hfo hb)⟩) hE.size
  fdom:=h.fdom
  rown:=fun id b hk hb=>by
   show unO (g.ow b) (gc.ow b)=_
   rw [h.rown id b hk hb];rfl
  olt:=fun b o hb=>by
   have hb:unO (g.ow b) (gc.ow b)=some o:=hb
   unfold unO at hb
   split at hb
   ·rename_i e;exact Nat.lt_of_lt_of_le (h.olt b _ e) hE.size
   ·rename_i e;exact Nat.lt_of_lt_of_le (h.olt b _ e) hE.size
   ·rename_i e;exact Nat.lt_of_lt_of_le (h.olt b _ e) hE.size
   ·exact hc.olt b o hb
  flt:=hc.flt
  fbox:=fun b i id hb hf=>by
   have hb:unO (g.ow b) (gc.ow b)=some (.box id):=hb
   unfold unO at hb
   split at hb
   ·rename_i e
    exact h.fbox b i _ e (hE.fnew b i (hfr e (.inl ⟨_,rfl⟩)) hf)
   ·cases hb
   ·cases hb
   ·exact hc.fbox b i id hb hf }
theorem AbsCall.frame {P:Program} {f:FuncId} {args:List PV} {r:PV} (h:AbsCall P f args [] r []) (ha:noRefs 0 args=true) (hr:r.noAl=true) (σ:List Bx):AbsCall P f args σ r σ:=by
 intro g us w hi
 refine (h g.hide us w (hi.hide ha)).mono ?_
 rintro e w' ⟨rv,gc,rfl,h1,h2⟩
 obtain ⟨k1,k2⟩:=hi.unhide h1 hr h2
 exact ⟨rv,_,rfl,k1,k2⟩
def hd (K:Nat→Bool):Own→Bool
 | .plc (.tmp t)=>!K t
 | _=>false
def pO (K:Nat→Bool):Option Own→Option Own
 | some o=>if hd K o then some .frame else some o
 | none=>none
def jO (K:Nat→Bool) (o oc:Option Own):Option Own:=
 match o with
 | some o=>if hd K o then some o else oc
 | none=>oc
def Gh.part (g:Gh) (K:Nat→Bool):Gh:={ rho:=g.rho,FP:=g.FP,ow:=fun b=>pO K (g.ow b),fam:=g.fam }
def Gh.join (g gc:Gh) (K:Nat→Bool):Gh:={ rho:=gc.rho,FP:=gc.FP,ow:=fun b=>jO K (g.ow b) (gc.ow b),fam:=gc.fam }
def PV.root:PV→Option Plc
 | .alias q=>some q
 | .elem q _ _=>some q
 | _=>none
theorem noAl_root {x:PV} (h:x.noAl=true):x.root=none:=by cases x <;> first | rfl | cases h
theorem pO_hid {K:Nat→Bool} {o:Own} (h:hd K o=true):pO K (some o)=some .frame:=by simp [pO,h]
theorem pO_see {K:Nat→Bool} {o:Own} (h:hd K o=false):pO K (some o)=some o:=by simp [pO,h]
theorem Rel.part {g:Gh} {w:World} {K:Nat→Bool} {x:PV} {v:Value} (h:Rel g w x v):Rel (g.part K) w x v:=h.gh rfl rfl
theorem OwnOk.part {P:Program} {g:Gh} {w:World} {p:Plc} {ex:Bool} {e:TypeId} {n:Bool} {xs:List (List PV)} {v:Value} {K:Nat→Bool} (h:OwnOk P g w p ex e n xs v)
  (hp:hd K (.plc p)=false):OwnOk P (g.part K) w p ex e n xs v:=
 h.gh rfl rfl fun b hb=>by
  show pO K (g.ow b)=_
  rw [hb];exact pO_see hp
theorem Slot.part {P:Program} {st st':St} {g:Gh} {vs:Array Value} {w:World} {p:Plc} {x:PV} {v:Value} {K:Nat→Bool} (h:Slot P st g vs w p x v)
  (hp:x.isOwn=true→hd K (.plc p)=false) (hal:∀q,x.root=some q→contentAt st' q=contentAt st q):Slot P st' (g.part K) vs w p x v:=by
 have hr:∀q,realAt (g.part K) vs w q=realAt g vs w q:=fun q=>by cases q <;> rfl
 cases x with
 | sl fl n xs=>
  cases fl with
  | view=>exact Rel.part h
  | own e=>exact OwnOk.part h (hp rfl)
  | excl e=>exact OwnOk.part h (hp rfl)
 | alias q=>
  simp only [Slot] at h ⊢
  rw [hal q rfl,hr];exact h
 | elem q k off=>
  simp only [Slot] at h ⊢
  rw [hal q rfl,hr];exact h
 | dead=>trivial
 | _=>exact Rel.part h
theorem Inv.part {P:Program} {st:St} {g:Gh} {vs:Array Value} {w:World} (h:Inv P g st vs w) (K:Nat→Bool) {ts':List (Nat×PV)}
  (hts:∀t,t<st.n→lkp ts' t=.dead∨
   (lkp ts' t=lkp st.ts t∧((lkp st.ts t).isOwn=true→K t=true)∧∀s,(lkp st.ts t).root=some (.tmp s)→lkp ts' s=lkp st.ts s)∨
   ∃v,vs[t]? = some v∧Rel g w (lkp ts' t) v∧(lkp ts' t).plain=true):Inv P (g.part K) { ts:=ts',n:=st.n,σ:=st.σ } vs w where
 size:=h.size
 slot t x hx:=by
  have ht:t<st.n:=(get_lt hx :)
  have hxe:x=lkp ts' t:=by
   simp only [St.get] at hx
   rw [if_pos ht] at hx
   exact (Option.some.inj hx).symm
  subst hxe
  rcases hts t ht with h1 | ⟨h1,h2,h3⟩ | ⟨v,h1,h2,h3⟩
  ·rw [h1]
   exact ⟨vs[t]'(by have:=h.size;omega),Array.getElem?_eq_getElem (by have:=h.size;omega),trivial⟩
  ·obtain ⟨v,hv,hs⟩:=h.slot t (lkp st.ts t) (by simp only [St.get];rw [if_pos ht])
   rw [h1]
   refine ⟨v,hv,hs.part (fun ho=>by simp [hd,h2 ho]) fun q hq=>?_⟩
   cases q with
   | tmp s=>
    have:=h3 s hq
    simp only [contentAt,St.get]
    rw [this]
   | cell id off=>rfl
  ·exact ⟨v,h1,slot_of_rel h2.part h3⟩
 rlen:=h.rlen
 box id ty cs b h1 h2:=by
  obtain ⟨c,fz,k1,k2,k3,k4⟩:=h.box id ty cs b h1 h2
  refine ⟨c,fz,k1,k2,k3,fun off x hx=>?_⟩
  obtain ⟨j1,v,j2,j3⟩:=k4 off x hx
  exact ⟨j1,v,j2,j3.part (fun _=>rfl) fun q hq=>by rw [noAl_root j1] at hq;cases hq⟩
 bmap:=h.bmap
 bfam id alts l h1:=(h.bfam id alts l h1).mono rfl (fun _ _ h=>h) (fun _ _ _=>rfl) (fun i b hb=>⟨rfl,by show pO K (g.ow b)=_;rw [hb];rfl,fun _ h=>h⟩) (Nat.le_refl _)
 fdom:=h.fdom
 rown id b hk hb:=by
  show pO K (g.ow b)=_
  rw [h.rown id b hk hb];rfl
 olt b o hb:=by
  have hb:pO K (g.ow b)=some o:=hb
  cases e:g.ow b with
  | none=>rw [e] at hb;cases hb
  | some o'=>exact h.olt b o' e
 flt:=h.flt
 fbox b i id hb:=by
  have hb:pO K (g.ow b)=some (.box id):=hb
  refine h.fbox b i id ?_
  cases e:g.ow b with
  | none=>rw [e] at hb;cases hb
  | some o'=>
   rw [e] at hb
   cases hh:hd K o' with
   | true=>rw [pO_hid hh] at hb;cases hb
   | false=>rw [pO_see hh] at hb;exact hb
theorem Inv.join {P:Program} {st:St} {g gc:Gh} {vs vs':Array Value} {w w':World} (h:Inv P g st vs w) {K:Nat→Bool} {tc tj:List (Nat×PV)} {σ':List Bx}
  (hc:Inv P gc { ts:=tc,n:=st.n,σ:=σ' } vs' w') (hE:Ext (g.part K) gc w w')
  (hj:∀t,t<st.n→lkp tj t=.dead∨
   (lkp tj t=lkp tc t∧∀s,(lkp tc t).root=some (.tmp s)→lkp tj s=lkp tc s)∨
   (lkp tj t=lkp st.ts t∧vs'[t]? = vs[t]?∧((lkp st.ts t).isOwn=true→K t=false)∧∀q,(lkp st.ts t).root=some q→
    match q with
    | .tmp s=>lkp tj s=lkp st.ts s∧vs'[s]? = vs[s]?
    | .cell _ _=>σ'=st.σ∧BoxKeep g w w')) :
  Inv P (g.join gc K) { ts:=tj,n:=st.n,σ:=σ' } vs' w'∧Ext g (g.join gc K) w w':=by
 have hfr:∀{b o},g.ow b=some o→hd K o=true→(g.part K).ow b=some .frame:=by
  intro b o hb ho
  show pO K (g.ow b)=_
  rw [hb];exact pO_hid ho
 have hin:∀{b o},gc.ow b=some o→o≠.frame→(g.join gc K).ow b=some o:=by
  intro b o hb ho
  show jO K (g.ow b) (gc.ow b)=_
  cases e:g.ow b with
  | none=>exact hb
  | some o'=>
   cases hh:hd K o' with
   | false=>simp only [jO,hh,Bool.false_eq_true,if_false];exact hb
   | true=>
    have:=hE.frame b (hfr e hh)
    rw [hb] at this
    injection this with this
    exact absurd this ho
 have hExt:Ext g (g.join gc K) w w':=
  {rho:=hE.rho,fp:=hE.fp,fpc:=hE.fpc,fam:=hE.fam
   obx:=fun b id hl hb=>hin (hE.obx b id hl (by show pO K (g.ow b)=_;rw [hb];rfl)) (by simp)
   keep:=fun b hb ho=>hE.keep b hb (by
    rcases ho with ho | ho
    ·left;show pO K (g.ow b)=_;rw [ho];rfl
    ·right;show pO K (g.ow b)=_;rw [ho];rfl)
   size:=hE.size
   frame:=fun b hb=>by
    have:=hE.frame b (by show pO K (g.ow b)=_;rw [hb];rfl)
    show jO K (g.ow b) (gc.ow b)=_
    rw [hb];exact this
   noframe:=fun b hb=>by
    show jO K (g.ow b) (gc.ow b)≠_
    cases e:g.ow b with
    | none=>exact hE.noframe b (by show pO K (g.ow b)≠_;rw [e];simp [pO])
    | some o'=>
     cases hh:hd K o' with
     | true=>
      simp only [jO,hh,if_true]
      intro e';injection e' with e';subst e';exact hb e
     | false=>
      simp only [jO,hh,Bool.false_eq_true,if_false]
      refine hE.noframe b ?_
      show pO K (g.ow b)≠_
      rw [e,pO_see hh]
      intro e';injection e' with e';subst e';exact hb e
   none_:=fun b hb hn=>by
    have:=hE.none_ b hb (by show pO K (g.ow b)=_;rw [hn];rfl)
    show jO K (g.ow b) (gc.ow b)=_
    rw [hn];exact this
   fnew:=fun b i hb hf=>hE.fnew b i (by show pO K (g.ow b)=_;rw [hb];rfl) hf
   os:=hE.os,tape:=hE.tape,output:=hE.output }
 refine ⟨?_,hExt⟩
 exact
 {size:=hc.size
  slot:=fun t x hx=>by
   have ht:t<st.n:=(get_lt hx :)
   have hxe:x=lkp tj t:=by
    simp only [St.get] at hx
    rw [if_pos ht] at hx
    exact (Option.some.inj hx).symm
   subst hxe
   have hsz:vs'.size=st.n:=hc.size
   rcases hj t ht with h1 | ⟨h1,h2⟩ | ⟨h1,h2,h3,h4⟩
   ·rw [h1]
    exact ⟨vs'[t]'(by omega),Array.getElem?_eq_getElem (by omega),trivial⟩
   ·obtain ⟨v,hv,hs⟩:=hc.slot t (lkp tc t) (by simp only [St.get];rw [if_pos ht])
    rw [h1]
    refine ⟨v,hv,?_⟩
    have hcon:∀q,(lkp tc t).root=some q→contentAt { ts:=tj,n:=st.n,σ:=σ' } q=contentAt { ts:=tc,n:=st.n,σ:=σ' } q∧realAt (g.join gc K) vs' w' q=realAt gc vs' w' q:=by
     intro q hq
     cases q with
     | tmp s=>
      refine ⟨?_,rfl⟩
      simp only [contentAt,St.get]
      rw [h2 s hq]
     | cell id off=>exact ⟨rfl,rfl⟩
    generalize hy:lkp tc t=y at hs hcon
    cases y with
    | sl fl n xs=>
     cases fl with
     | view=>exact Rel.gh hs rfl rfl
     | own e=>exact OwnOk.gh hs rfl rfl fun b hb=>hin hb (by simp)
     | excl e=>exact OwnOk.gh hs rfl rfl fun b hb=>hin hb (by simp)
    | alias q=>
     obtain ⟨k1,k2⟩:=hcon q rfl
     simp only [Slot] at hs ⊢
     rw [k1,k2];exact hs
    | elem q k off=>
     obtain ⟨k1,k2⟩:=hcon q rfl
     simp only [Slot] at hs ⊢
     rw [k1,k2];exact hs
    | dead=>trivial
    | _=>exact Rel.gh hs rfl rfl
   ·obtain ⟨v,hv,hs⟩:=h.slot t (lkp st.ts t) (by simp only [St.get];rw [if_pos ht])
    rw [h1]
    refine ⟨v,h2.trans hv,?_⟩
    have hown:∀{ex e n xs u},K t=false→OwnOk P g w (.tmp t) ex e n xs u→OwnOk P (g.join gc K) w' (.tmp t) ex e n xs u:=by
     rintro ex e n xs u hK (hh | ⟨hn,b,cap,hv',hb⟩)
     ·exact .inl hh
     ·have hhd:hd K (.plc (.tmp t))=true:=by simp [hd,hK]
      have hfb:=hfr hb.ow hhd
      obtain ⟨c,fz,k1,k2,k3⟩:=hb.blk
      have hblt:b<w.heap.size:=(Array.getElem?_eq_some_iff.1 k1).1
      have hh:=hE.keep b hblt (.inr hfb)
      refine .inr ⟨hn,b,cap,hv',hb.hcap,⟨c,fz,hh.trans k1,k2,k3⟩,?_,?_,fun he i hf=>hb.ex_ he i (hE.fnew b i hfb hf),fun i hi hf=>hb.fr i hi (hE.fnew b i hfb hf)⟩
      ·show jO K (g.ow b) (gc.ow b)=_
       rw [hb.ow];simp only [jO,hhd,if_true]
      ·exact hb.el.mono hExt (cell_of_heap hh)
    have hcon:∀q fl n xs,(lkp st.ts t).root=some q→contentAt st q=some (.sl fl n xs)→contentAt { ts:=tj,n:=st.n,σ:=σ' } q=some (.sl fl n xs)∧realAt (g.join gc K) vs' w' q=realAt g vs w q:=by
     intro q fl n xs hq hcn
     have:=h4 q hq
     cases q with
     | tmp s=>
      obtain ⟨k1,k2⟩:=this
      have hs':s<st.n:=get_lt hcn
      refine ⟨?_,k2⟩
      simp only [contentAt,St.get] at hcn ⊢
      rw [if_pos hs'] at hcn ⊢
      rw [k1];exact hcn
     | cell id off=>
      obtain ⟨k1,k2⟩:=this
      subst k1
      refine ⟨hcn,?_⟩
      simp only [contentAt] at hcn
      split at hcn
      ·rename_i ty cs hσ
       have hid:id<g.rho.length:=by rw [h.rlen];exact (List.getElem?_eq_some_iff.1 hσ).1
       have hr:g.rho[id]? = some g.rho[id]:=List.getElem?_eq_getElem hid
       have hr':gc.rho[id]? = some g.rho[id]:=prefix_get hE.rho hr
       show (match gc.rho[id]? with | some b=>w'.cell? ⟨b,off,none⟩ | none=>none)=(match g.rho[id]? with | some b=>w.cell? ⟨b,off,none⟩ | none=>none)
       rw [hr,hr']
       exact cell_of_heap (k2 id _ hr (h.rown id _ (famAt_cells hσ) hr)) off
      ·cases hcn
    generalize hy:lkp st.ts t=y at hs hcon h3
    cases y with
    | sl fl n xs=>
     cases fl with
     | view=>exact Rel.ext hExt hs
     | own e=>exact hown (h3 rfl) hs
     | excl e=>exact hown (h3 rfl) hs
    | alias q=>
     obtain ⟨⟨fl,n,xs,k1,k2⟩,k3⟩:=hs
     obtain ⟨j1,j2⟩:=hcon q fl n xs rfl k1
     exact ⟨⟨fl,n,xs,j1,k2⟩,j2.trans k3⟩
    | elem q k off=>
     obtain ⟨fl,xs,b,cap,k1,k2,k3,k4⟩:=hs
     obtain ⟨j1,j2⟩:=hcon q fl false xs rfl k1
     exact ⟨fl,xs,b,cap,j1,k2,j2.trans k3,k4⟩
    | dead=>trivial
    | _=>exact Rel.ext hExt hs
  rlen:=hc.rlen
  box:=fun id ty cs b h1 h2=>by
   obtain ⟨c,fz,k1,k2,k3,k4⟩:=hc.box id ty cs b h1 h2
   refine ⟨c,fz,k1,k2,k3,fun off x hx=>?_⟩
   obtain ⟨j1,v,j2,j3⟩:=k4 off x hx
   exact ⟨j1,v,j2,j3.gh j1 rfl rfl fun b hb=>hin hb (by simp)⟩
  bmap:=hc.bmap
  bfam:=fun id alts l h1=>(hc.bfam id alts l h1).mono rfl (fun _ _ h=>h) (fun _ _ _=>rfl) (fun i b hb=>⟨rfl,hin hb (by simp),fun _ h=>h⟩) (Nat.le_refl _)
  fdom:=hc.fdom
  rown:=fun id b hk hb=>hin (hc.rown id b hk hb) (by simp)
  olt:=fun b o hb=>by
   have hb:jO K (g.ow b) (gc.ow b)=some o:=hb
   cases e:g.ow b with
   | none=>rw [e] at hb;exact hc.olt b o hb
   | some o'=>
    cases hh:hd K o' with
    | true=>exact Nat.lt_of_lt_of_le (h.olt b _ e) hE.size
    | false=>rw [e] at hb;simp only [jO,hh,Bool.false_eq_true,if_false] at hb;exact hc.olt b o hb
  flt:=hc.flt
  fbox:=fun b i id hb=>by
   have hb:jO K (g.ow b) (gc.ow b)=some (.box id):=hb
   refine hc.fbox b i id ?_
   cases e:g.ow b with
   | none=>rw [e] at hb;exact hb
   | some o'=>
    cases hh:hd K o' with
    | true=>
     rw [e] at hb
     simp only [jO,hh,if_true] at hb
     injection hb with hb
     subst hb
     cases hh
    | false=>rw [e] at hb;simp only [jO,hh,Bool.false_eq_true,if_false] at hb;exact hb }
end Go.AM
namespace Go.AM
def pickL (ts:List (Nat×PV)):List Nat→List (Nat×PV)
 | []=>[]
 | t :: r=>(t,lkp ts t) :: pickL ts r
theorem lkp_pickL (ts l:List (Nat×PV)):∀(T:List Nat) (t:Nat),lkp (pickL ts T++l) t=if t∈T then lkp ts t else lkp l t:=by
 intro T
 induction T with
 | nil=>intro t;simp [pickL]
 | cons u r ih=>
  intro t
  simp only [pickL,List.cons_append,lkp]
  by_cases e:u=t
  ·subst e;simp [Nat.beq_refl]
  ·simp only [beq_ne e]
   rw [ih]
   have:(t∈u :: r)↔t∈r:=by simp [Ne.symm e]
   simp only [this]
theorem lkp_pickL0 (ts:List (Nat×PV)) (T:List Nat) (t:Nat):lkp (pickL ts T) t=if t∈T then lkp ts t else .dead:=by
 have:=lkp_pickL ts [] T t
 simpa [lkp] using this
theorem Inv.congr {P:Program} {st:St} {g:Gh} {vs:Array Value} {w:World} (h:Inv P g st vs w) {ts':List (Nat×PV)} (hl:∀t,lkp ts' t=lkp st.ts t):Inv P g { ts:=ts',n:=st.n,σ:=st.σ } vs w:=by
 have hg:∀t,St.get { ts:=ts',n:=st.n,σ:=st.σ } t=st.get t:=fun t=>by simp only [St.get,hl]
 have hc:∀q,contentAt { ts:=ts',n:=st.n,σ:=st.σ } q=contentAt st q:=fun q=>by
  cases q with
  | tmp t=>exact hg t
  | cell id off=>rfl
 exact
 {size:=h.size
  slot:=fun t x hx=>by
   rw [hg] at hx
   obtain ⟨v,hv,hs⟩:=h.slot t x hx
   refine ⟨v,hv,?_⟩
   cases x with
   | sl fl n xs=>cases fl <;> exact hs
   | alias q=>simp only [Slot] at hs ⊢;rw [hc];exact hs
   | elem q k off=>simp only [Slot] at hs ⊢;rw [hc];exact hs
   | _=>exact hs
  rlen:=h.rlen
  box:=fun id ty cs b h1 h2=>by
   obtain ⟨c,fz,k1,k2,k3,k4⟩:=h.box id ty cs b h1 h2
   refine ⟨c,fz,k1,k2,k3,fun off x hx=>?_⟩
   obtain ⟨j1,v,j2,j3⟩:=k4 off x hx
   exact ⟨j1,v,j2,slot_cell j3 j1⟩
  bmap:=h.bmap,bfam:=h.bfam,fdom:=h.fdom,rown:=h.rown,olt:=h.olt,flt:=h.flt,fbox:=h.fbox }
def StepRuns (P:Program) (ops:Array Oper) (j:Nat) (o:Oper) (chg:Bool) (st st':St):Prop:=
 ∀(g:Gh) (a:Act) (w:World) (K:Act→World→Prop) (Q:Exit→Act→World→Prop),Inv P g st a.tmps w→
  (∀a' w' g',Inv P g' st' a'.tmps w'→Ext g g' w w'→a'.defers=a.defers→(∃v,a'=a.put o.dst v)→(chg=false→BoxKeep g w w')→K a' w')→wpOp P ops Q j K a w
def cloRow (tb:List Nat) (o:Oper):Nat:=o.after.toList.foldl (fun m e=>if Region.binds .any e then m ||| ((1 <<< e.on) ||| tb.getD e.on 0) else m) 0
def clo:List Oper→List Nat→List Nat
 | [],tb=>tb
 | o :: r,tb=>clo r (tb++[cloRow tb o])
def closure (ops:Array Oper):List Nat:=clo ops.toList []
def bnd (ops:Array Oper) (j i:Nat):Bool:=((closure ops).getD j 0).testBit i
theorem cloRow_bit {tb:List Nat} {o:Oper} {i:Nat} (h:(cloRow tb o).testBit i=true):∃e∈o.after.toList,Region.binds .any e=true∧(e.on=i∨(tb.getD e.on 0).testBit i=true):=by
 have key:∀(l:List Edge) (m:Nat),(l.foldl (fun m e=>if Region.binds .any e then m ||| ((1 <<< e.on) ||| tb.getD e.on 0) else m) m).testBit i=true→
   m.testBit i=true∨∃e∈l,Region.binds .any e=true∧(e.on=i∨(tb.getD e.on 0).testBit i=true):=by
  intro l
  induction l with
  | nil=>intro m h;exact .inl h
  | cons e r ih=>
   intro m h
   rcases ih _ h with h1 | ⟨e',h1,h2⟩
   ·simp only at h1
    split at h1
    ·rename_i hb
     rw [Nat.testBit_or,Nat.testBit_or,Bool.or_eq_true,Bool.or_eq_true] at h1
     rcases h1 with h1 | h1 | h1
     ·exact .inl h1
     ·refine .inr ⟨e,List.mem_cons_self,hb,.inl ?_⟩
      rw [Nat.one_shiftLeft,Nat.testBit_two_pow] at h1
      simpa using h1
     ·exact .inr ⟨e,List.mem_cons_self,hb,.inr h1⟩
    ·exact .inl h1
   ·exact .inr ⟨e',List.mem_cons_of_mem _ h1,h2⟩
 rcases key _ _ h with h1 | h1
 ·simp at h1
 ·exact h1
theorem clo_get:∀(l:List Oper) (tb:List Nat) (j:Nat),j<tb.length→(clo l tb).getD j 0=tb.getD j 0
 | [],tb,j,h=>rfl
 | o :: r,tb,j,h=>by
  simp only [clo]
  rw [clo_get r _ j (by simp;omega)]
  simp only [List.getD_eq_getElem?_getD]
  rw [List.getElem?_append_left h]
theorem clo_bit:∀(l:List Oper) (tb:List Nat) (k i:Nat),((clo l tb).getD (tb.length+k) 0).testBit i=true→∃o,l[k]? = some o∧∃e∈o.after.toList,Region.binds .any e=true∧(e.on=i∨((clo l tb).getD e.on 0).testBit i=true)
 | [],tb,k,i,h=>by
  simp only [clo,List.getD_eq_getElem?_getD] at h
  rw [List.getElem?_eq_none (by omega)] at h
  simp at h
 | o :: r,tb,k,i,h=>by
  simp only [clo] at h ⊢
  cases k with
  | zero=>
   rw [clo_get r _ _ (by simp)] at h
   simp only [List.getD_eq_getElem?_getD,Nat.add_zero] at h
   rw [List.getElem?_append_right (by omega)] at h
   simp only [Nat.sub_self,List.getElem?_cons_zero,Option.getD_some] at h
   obtain ⟨e,h1,h2,h3⟩:=cloRow_bit h
   refine ⟨o,rfl,e,h1,h2,?_⟩
   rcases h3 with h3 | h3
   ·exact .inl h3
   ·right
    by_cases hl:e.on<tb.length
    ·rw [clo_get r _ _ (by simp;omega)]
     simp only [List.getD_eq_getElem?_getD] at h3 ⊢
     rw [List.getElem?_append_left hl];exact h3
    ·simp only [List.getD_eq_getElem?_getD] at h3
     rw [List.getElem?_eq_none (by omega)] at h3
     simp at h3
  | succ k=>
   have:=clo_bit r (tb++[cloRow tb o]) k i (by rw [List.length_append,List.length_singleton,show tb.length+1+k=tb.length+(k+1) by omega];exact h)
   obtain ⟨o',h1,h2⟩:=this
   exact ⟨o',by simpa using h1,h2⟩
theorem bnd_step {ops:Array Oper} {j i:Nat} (h:bnd ops j i=true):∃o,ops[j]? = some o∧∃e∈o.after.toList,Region.binds .any e=true∧(e.on=i∨bnd ops e.on i=true):=by
 have:=clo_bit ops.toList [] j i (by simpa [bnd,closure] using h)
 obtain ⟨o,h1,e,h2,h3,h4⟩:=this
 exact ⟨o,by simpa using h1,e,h2,h3,h4⟩
def dstOf (ops:Array Oper) (j:Nat):Option Tmp:=
 match ops[j]? with
 | some o=>o.dst
 | none=>none
structure Draw where
 ts:Nat→List (Nat×PV)
 T:Nat→List Nat
 σs:Nat→List Bx
 chg:Nat→Bool
 fz:Nat→Bool
variable {P:Program} {ops:Array Oper} {n:Nat}
def Draw.W (D:Draw) (ops:Array Oper) (j t:Nat):Bool:=(D.T j).contains t && (!D.fz t || dstOf ops j == some t)
def cntTo (p:Nat→Bool):Nat→Nat
 | 0=>0
 | k+1=>(p k).toNat+cntTo p k
def Draw.lo (D:Draw) (ops:Array Oper) (j:Nat):Nat:=cntTo (fun i=>D.chg i && (decide (i<j) && bnd ops j i)) ops.size
def Draw.hi (D:Draw) (ops:Array Oper) (j:Nat):Nat:=cntTo (fun i=>D.chg i && (!Nat.beq i j && !(decide (j<i) && bnd ops i j))) ops.size
structure Draw.Ok (D:Draw) (P:Program) (ops:Array Oper) (n:Nat):Prop where
 E:∀j o,ops[j]? = some o→∀e∈o.after,Region.binds .any e=true→e.on<j
 OC:∀i j t,i<j→j<ops.size→t∈D.T i→t∈D.T j→(D.W ops i t=true∨D.W ops j t=true)→bnd ops j i=true
 PO:∀j t,j<ops.size→D.W ops j t=false→lkp (D.ts (j+1)) t=lkp (D.ts j) t
 RC:∀j t s,j<ops.size→t∈D.T j→((lkp (D.ts j) t).root=some (.tmp s)∨(lkp (D.ts (j+1)) t).root=some (.tmp s))→s∈D.T j
 FC:∀i t s,i≤ops.size→(lkp (D.ts i) t).root=some (.tmp s)→D.fz s=false
 AC:∀i j t s,i≤j→j<ops.size→(lkp (D.ts i) t).root=some (.tmp s)→s∈D.T j→t∈D.T j
 CC:∀i j t id off,i≤j→j<ops.size→D.chg j=true→(lkp (D.ts i) t).root=some (.cell id off)→t∈D.T j
 CD:∀j k t id off,j<k→k<ops.size→D.chg j=true→t∈D.T k→(lkp (D.ts (k+1)) t).root=some (.cell id off)→bnd ops k j=true
 SC:∀i j,i<j→j<ops.size→D.chg i=true→D.chg j=true→bnd ops j i=true
 DT:∀j d,dstOf ops j=some d→d∈D.T j
 H:∀j o,ops[j]? = some o→∀m,D.lo ops j≤m→m≤D.hi ops j→
  StepRuns P ops j o (D.chg j) { ts:=pickL (D.ts j) (D.T j),n,σ:=D.σs m } { ts:=pickL (D.ts (j+1)) (D.T j),n,σ:=D.σs (if D.chg j then m+1 else m) }
def Draw.tsV (D:Draw) (ops:Array Oper) (M:Nat→Bool):Nat→List (Nat×PV)
 | 0=>D.ts 0
 | k+1=>if M k then pickL (D.ts (k+1)) ((D.T k).filter (D.W ops k))++D.tsV ops M k else D.tsV ops M k
theorem mem_filterW {D:Draw} {k t:Nat}:t∈(D.T k).filter (D.W ops k)↔D.W ops k t=true:=by
 rw [List.mem_filter]
 refine ⟨fun h=>h.2,fun h=>⟨?_,h⟩⟩
 simp only [Draw.W,Bool.and_eq_true] at h
 simpa using h.1
theorem tsV_succ (D:Draw) (M:Nat→Bool) (k t:Nat):lkp (D.tsV ops M (k+1)) t=if M k=true∧D.W ops k t=true then lkp (D.ts (k+1)) t else lkp (D.tsV ops M k) t:=by
 simp only [Draw.tsV]
 cases hM:M k with
 | false=>simp
 | true=>
  simp only [if_true]
  rw [lkp_pickL]
  simp only [mem_filterW,true_and]
theorem W_T {D:Draw} {k t:Nat} (h:D.W ops k t=true):t∈D.T k:=by
 simp only [Draw.W,Bool.and_eq_true] at h
 simpa using h.1
theorem tsV_ready {D:Draw} (hD:D.Ok P ops n) {M:Nat→Bool} (hcl:∀j i,M j=true→bnd ops j i=true→M i=true) {j:Nat} (hj:j<ops.size) (hjM:M j=false)
  (hpre:∀i,bnd ops j i=true→M i=true) {t:Nat} (ht:t∈D.T j):lkp (D.tsV ops M ops.size) t=lkp (D.ts j) t:=by
 have h1:∀k,k≤j→lkp (D.tsV ops M k) t=lkp (D.ts k) t:=by
  intro k
  induction k with
  | zero=>intro _;rfl
  | succ k ih=>
   intro hk
   rw [tsV_succ]
   split
   ·rfl
   ·rename_i hno
    rw [ih (by omega)]
    have hW:D.W ops k t=false:=by
     cases hW:D.W ops k t with
     | false=>rfl
     | true=>
      have hb:=hD.OC k j t (by omega) hj (W_T hW) ht (.inl hW)
      exact absurd ⟨hpre k hb,hW⟩ hno
    exact (hD.PO k t (by omega) hW).symm
 have h2:∀d,j+d≤ops.size→lkp (D.tsV ops M (j+d)) t=lkp (D.tsV ops M j) t:=by
  intro d
  induction d with
  | zero=>intro _;rfl
  | succ d ih=>
   intro hd
   rw [show j+(d+1)=(j+d)+1 by omega,tsV_succ,if_neg,ih (by omega)]
   rintro ⟨hM,hW⟩
   rcases Nat.eq_zero_or_pos d with rfl | hpos
   ·rw [Nat.add_zero,hjM] at hM;cases hM
   ·have hb:=hD.OC j (j+d) t (by omega) (by omega) ht (W_T hW) (.inr hW)
    have:=hcl _ _ hM hb
    rw [hjM] at this;cases this
 have:=h2 (ops.size - j) (by omega)
 rw [show j+(ops.size - j)=ops.size by omega] at this
 rw [this,h1 j (Nat.le_refl _)]
def withJ (M:Nat→Bool) (j:Nat):Nat→Bool:=fun i=>Nat.beq i j || M i
theorem withJ_self (M:Nat→Bool) (j:Nat):withJ M j j=true:=by simp [withJ,Nat.beq_refl]
theorem withJ_ne (M:Nat→Bool) {i j:Nat} (h:i≠j):withJ M j i=M i:=by simp [withJ,beq_ne h]
theorem tsV_with {D:Draw} (hD:D.Ok P ops n) {M:Nat→Bool} (hcl:∀j i,M j=true→bnd ops j i=true→M i=true) {j:Nat} (hj:j<ops.size) (hjM:M j=false) (t:Nat) :
  lkp (D.tsV ops (withJ M j) ops.size) t=if D.W ops j t=true then lkp (D.ts (j+1)) t else lkp (D.tsV ops M ops.size) t:=by
 have h1:∀k,k≤j→D.tsV ops (withJ M j) k=D.tsV ops M k:=by
  intro k
  induction k with
  | zero=>intro _;rfl
  | succ k ih=>
   intro hk
   simp only [Draw.tsV]
   rw [withJ_ne M (by omega),ih (by omega)]
 have h2:∀d,j+1+d≤ops.size→lkp (D.tsV ops (withJ M j) (j+1+d)) t=if D.W ops j t=true then lkp (D.ts (j+1)) t else lkp (D.tsV ops M (j+1+d)) t:=by
  intro d
  induction d with
  | zero=>
   intro _
   rw [Nat.add_zero,tsV_succ,tsV_succ,withJ_self,h1 j (Nat.le_refl _)]
   simp [hjM]
  | succ d ih=>
   intro hd
   rw [show j+1+(d+1)=(j+1+d)+1 by omega,tsV_succ,tsV_succ,withJ_ne M (by omega),ih (by omega)]
   by_cases hw:D.W ops j t=true
   ·rw [if_pos hw,if_neg]
    ·rw [if_pos hw]
    rintro ⟨hM,hW⟩
    have hb:=hD.OC j (j+1+d) t (by omega) (by omega) (W_T hw) (W_T hW) (.inr hW)
    have:=hcl _ _ hM hb
    rw [hjM] at this;cases this
   ·simp only [if_neg hw]
 have:=h2 (ops.size - (j+1)) (by omega)
 rwa [show j+1+(ops.size - (j+1))=ops.size by omega] at this
theorem tsV_all {D:Draw} (hD:D.Ok P ops n) {M:Nat→Bool} (hM:∀j,j<ops.size→M j=true) (t:Nat):lkp (D.tsV ops M ops.size) t=lkp (D.ts ops.size) t:=by
 have:∀k,k≤ops.size→lkp (D.tsV ops M k) t=lkp (D.ts k) t:=by
  intro k
  induction k with
  | zero=>intro _;rfl
  | succ k ih=>
   intro hk
   rw [tsV_succ]
   split
   ·rfl
   ·rename_i hno
    rw [ih (by omega)]
    refine (hD.PO k t (by omega) ?_).symm
    cases hW:D.W ops k t with
    | false=>rfl
    | true=>exact absurd ⟨hM k (by omega),hW⟩ hno
 exact this _ (Nat.le_refl _)
theorem cntTo_mono {p q:Nat→Bool}:∀{k:Nat},(∀i,i<k→p i=true→q i=true)→cntTo p k≤cntTo q k:=by
 intro k
 induction k with
 | zero=>intro _;exact Nat.le_refl _
 | succ k ih=>
  intro h
  simp only [cntTo]
  have:=ih fun i hi=>h i (by omega)
  have h1:=h k (by omega)
  cases hp:p k with
  | false=>simp;omega
  | true=>rw [h1 hp];simp;exact this
theorem cntTo_with {p:Nat→Bool} {M:Nat→Bool} {j:Nat} (hjM:M j=false):∀{k:Nat},cntTo (fun i=>p i && withJ M j i) k=cntTo (fun i=>p i && M i) k+(if j<k∧p j=true then 1 else 0):=by
 intro k
 induction k with
 | zero=>simp [cntTo]
 | succ k ih=>
  simp only [cntTo,ih]
  by_cases e:k=j
  ·subst e
   rw [withJ_self,hjM]
   cases hp:p k <;> simp
   omega
  ·rw [withJ_ne M e]
   by_cases hlt:j<k
   ·simp only [hlt,true_and,show j<k+1 by omega];omega
   ·simp only [hlt,show ¬j<k+1 by omega,false_and,if_false];omega
structure Draw.At (D:Draw) (P:Program) (ops:Array Oper) (n:Nat) (g0:Gh) (a0:Act) (w0:World) (M:Nat→Bool) (a:Act) (w:World):Prop where
 cl:∀j i,M j=true→bnd ops j i=true→M i=true
 inv:∃g,Inv P g { ts:=D.tsV ops M ops.size,n,σ:=D.σs (cntTo (fun i=>D.chg i && M i) ops.size) } a.tmps w∧Ext g0 g w0 w
 defers:a.defers=a0.defers
 rest:∀t,(∀j,dstOf ops j≠some t)→a.tmps[t]? = a0.tmps[t]?
def Draw.rootOk (D:Draw) (j:Nat):Plc→Prop
 | .tmp s=>s∉D.T j
 | .cell _ _=>D.chg j=false
theorem Draw.step {D:Draw} (hD:D.Ok P ops n) {g0:Gh} {a0:Act} {w0:World} {M:Nat→Bool} {a:Act} {w:World} (h:D.At P ops n g0 a0 w0 M a w) {j:Nat} {o:Oper} (ho:ops[j]? = some o) (hjM:M j=false)
  (hpre:∀i,bnd ops j i=true→M i=true) {K:Act→World→Prop} {Q:Exit→Act→World→Prop} (hK:∀a' w',D.At P ops n g0 a0 w0 (withJ M j) a' w'→K a' w'):wpOp P ops Q j K a w:=by
 obtain ⟨g,hi,hE0⟩:=h.inv
 have hj:j<ops.size:=(Array.getElem?_eq_some_iff.1 ho).1
 have hdst:dstOf ops j=o.dst:=by simp [dstOf,ho]
 have hval:=fun t=>tsV_ready hD h.cl hj hjM hpre (t:=t)
 have hlo:D.lo ops j≤cntTo (fun i=>D.chg i && M i) ops.size:=cntTo_mono fun i _ hp=>by
  simp only [Bool.and_eq_true,decide_eq_true_eq] at hp ⊢
  exact ⟨hp.1,hpre i hp.2.2⟩
 have hhi:cntTo (fun i=>D.chg i && M i) ops.size≤D.hi ops j:=cntTo_mono fun i _ hp=>by
  simp only [Bool.and_eq_true] at hp
  have hne:i≠j:=by rintro rfl;rw [hjM] at hp;cases hp.2
  have hnb:(decide (j<i) && bnd ops i j)=false:=by
   cases hb:bnd ops i j with
   | false=>simp
   | true=>have:=h.cl i j hp.2 hb;rw [hjM] at this;cases this
  simp [hp.1,hnb,beq_ne hne]
 let K0:Nat→Bool:=fun t=>(D.T j).contains t
 have hK0:∀t,K0 t=true↔t∈D.T j:=fun t=>by simp [K0]
 have hpart:Inv P (g.part K0) { ts:=pickL (D.ts j) (D.T j),n,σ:=D.σs (cntTo (fun i=>D.chg i && M i) ops.size) } a.tmps w:=by
  refine hi.part K0 fun t _=>?_
  rw [lkp_pickL0]
  by_cases ht:t∈D.T j
  ·right;left
   rw [if_pos ht]
   refine ⟨(hval t ht).symm,fun _=>(hK0 t).2 ht,fun s hs=>?_⟩
   have hs':(lkp (D.ts j) t).root=some (.tmp s):=by rw [←hval t ht];exact hs
   have hsT:=hD.RC j t s hj ht (.inl hs')
   rw [lkp_pickL0,if_pos hsT]
   exact (hval s hsT).symm
  ·left;rw [if_neg ht]
 refine hD.H j o ho _ hlo hhi _ _ _ _ _ hpart fun a' w' g' h1 h2 h3 h4 h5=>hK a' w' ?_
 obtain ⟨v,rfl⟩:=h4
 have hoth:∀t,t∉D.T j→(a.put o.dst v).tmps[t]? = a.tmps[t]?:=fun t ht=>by
  rw [put_tmps]
  cases hd':o.dst with
  | none=>rfl
  | some d=>
   have:=hD.DT j d (by rw [hdst,hd'])
   simp only [putT]
   rw [Array.getElem?_setIfInBounds_ne (by rintro rfl;exact ht this)]
 have hcnt:cntTo (fun i=>D.chg i && withJ M j i) ops.size=(if D.chg j=true then cntTo (fun i=>D.chg i && M i) ops.size+1 else cntTo (fun i=>D.chg i && M i) ops.size):=by
  rw [cntTo_with hjM]
  cases D.chg j <;> simp [hj]
 have hnew:∀t,t∈D.T j→lkp (D.tsV ops (withJ M j) ops.size) t=lkp (D.ts (j+1)) t:=fun t ht=>by
  rw [tsV_with hD h.cl hj hjM]
  split
  ·rfl
  ·rename_i hw
   rw [hval t ht]
   exact (hD.PO j t hj (by simpa using hw)).symm
 have hold:∀t,t∉D.T j→lkp (D.tsV ops (withJ M j) ops.size) t=lkp (D.tsV ops M ops.size) t:=fun t ht=>by
  rw [tsV_with hD h.cl hj hjM,if_neg fun hw=>ht (W_T hw)]
 have hroot:∀t q,t∉D.T j→(lkp (D.tsV ops M ops.size) t).root=some q→D.rootOk j q:=by
  intro t q ht hq
  have key:∀k,k≤ops.size→(lkp (D.tsV ops M k) t).root=some q→D.rootOk j q:=by
   intro k
   induction k with
   | zero=>
    intro _ hq
    have hq:(lkp (D.ts 0) t).root=some q:=hq
    cases q with
    | tmp s=>exact fun hs=>ht (hD.AC 0 j t s (by omega) hj hq hs)
    | cell id off=>
     cases hc:D.chg j with
     | false=>exact hc
     | true=>exact absurd (hD.CC 0 j t id off (by omega) hj hc hq) ht
   | succ k ih=>
    intro hk hq
    rw [tsV_succ] at hq
    split at hq
    ·rename_i hMW
     obtain ⟨hMk,hW⟩:=hMW
     have hkj:k≠j:=by rintro rfl;rw [hjM] at hMk;cases hMk
     cases q with
     | tmp s=>
      intro hs
      rcases Nat.lt_or_ge j k with hlt | hge
      ·have hsk:=hD.RC k t s (by omega) (W_T hW) (.inr hq)
       have hf:=hD.FC (k+1) t s (by omega) hq
       have hWs:D.W ops k s=true:=by
        simp only [Draw.W,hf,Bool.not_false,Bool.true_or,Bool.and_true]
        simpa using hsk
       have hb:=hD.OC j k s hlt (by omega) hs hsk (.inr hWs)
       have:=h.cl k j hMk hb
       rw [hjM] at this;cases this
      ·exact ht (hD.AC (k+1) j t s (by omega) hj hq hs)
     | cell id off=>
      cases hc:D.chg j with
      | false=>exact hc
      | true=>
       rcases Nat.lt_or_ge j k with hlt | hge
       ·have hb:=hD.CD j k t id off hlt (by omega) hc (W_T hW) hq
        have:=h.cl k j hMk hb
        rw [hjM] at this;cases this
       ·exact absurd (hD.CC (k+1) j t id off (by omega) hj hc hq) ht
    ·exact ih (by omega) hq
  exact key _ (Nat.le_refl _) hq
 obtain ⟨k1,k2⟩:=hi.join (K:=K0) (tj:=D.tsV ops (withJ M j) ops.size) h1 h2 (fun t _=>by
  by_cases ht:t∈D.T j
  ·right;left
   rw [hnew t ht,lkp_pickL0,if_pos ht]
   refine ⟨rfl,fun s hs=>?_⟩
   have hsT:=hD.RC j t s hj ht (.inr hs)
   rw [hnew s hsT,lkp_pickL0,if_pos hsT]
  ·right;right
   refine ⟨hold t ht,hoth t ht,fun _=>by
    cases hk:K0 t with
    | false=>rfl
    | true=>exact absurd ((hK0 t).1 hk) ht,fun q hq=>?_⟩
   have:=hroot t q ht hq
   cases q with
   | tmp s=>exact ⟨hold s this,hoth s this⟩
   | cell id off=>
    have hc:D.chg j=false:=this
    exact ⟨by rw [hc];rfl,fun id b hb ho=>h5 hc id b hb (by show pO K0 (_:Option Own)=_;rw [ho];rfl)⟩)
 exact
 {cl:=fun x i hx hb=>by
   by_cases e:x=j
   ·subst e
    have:=hpre i hb
    have hne:i≠x:=by rintro rfl;rw [hjM] at this;cases this
    rw [withJ_ne M hne];exact this
   ·rw [withJ_ne M e] at hx
    have:=h.cl x i hx hb
    by_cases e':i=j
    ·subst e';exact withJ_self M i
    ·rw [withJ_ne M e'];exact this
  inv:=⟨_,by rw [hcnt];exact k1,hE0.trans k2⟩
  defers:=by rw [h3];exact h.defers
  rest:=fun t ht=>by
   refine Eq.trans ?_ (h.rest t ht)
   rw [put_tmps]
   cases hd':o.dst with
   | none=>rfl
   | some d=>
    have:=ht j
    rw [hdst,hd'] at this
    simp only [putT]
    rw [Array.getElem?_setIfInBounds_ne (by rintro rfl;exact this rfl)] }
def maskOf (l:Array Bool):Nat→Bool:=fun i=>l.getD i false
def openTo (l:Array Bool):Nat→Nat:=cntTo fun i=>!maskOf l i
theorem Draw.run {D:Draw} (hD:D.Ok P ops n) {g0:Gh} {a0:Act} {w0:World} {Q:Exit→Act→World→Prop}
  (hQ:∀a w,D.At P ops n g0 a0 w0 (fun _=>true) a w→Q .normal a w):∀(fuel:Nat) (l:Array Bool) (a:Act) (w:World),l.size=ops.size→openTo l ops.size≤fuel→
  D.At P ops n g0 a0 w0 (maskOf l) a w→wpAny P .any ops Q fuel l a w:=by
 have hdone:∀(l:Array Bool) (a:Act) (w:World),l.size=ops.size→D.At P ops n g0 a0 w0 (maskOf l) a w→(∀j,j<ops.size→maskOf l j=true)→Q .normal a w:=by
  intro l a w hl h hall
  refine hQ a w ⟨fun _ _ _ _=>rfl,?_,h.defers,h.rest⟩
  obtain ⟨g,h1,h2⟩:=h.inv
  refine ⟨g,?_,h2⟩
  have hc:cntTo (fun i=>D.chg i && maskOf l i) ops.size=cntTo (fun i=>D.chg i && true) ops.size:=
   Nat.le_antisymm (cntTo_mono fun i _ hp=>by simp only [Bool.and_eq_true] at hp ⊢;exact ⟨hp.1,trivial⟩) (cntTo_mono fun i hi hp=>by simp only [Bool.and_eq_true] at hp ⊢;exact ⟨hp.1,hall i hi⟩)
  rw [hc] at h1
  exact h1.congr fun t=>(tsV_all hD (fun _ _=>rfl) t).trans (tsV_all hD hall t).symm
 have hnone:∀(l:Array Bool),l.size=ops.size→Region.ready .any ops l=[]→∀j,j<ops.size→maskOf l j=true:=by
  intro l hl hr j
  induction j using Nat.strongRecOn with
  | _ j ih=>
   intro hj
   cases hm:maskOf l j with
   | true=>rfl
   | false=>
    exfalso
    have:j∈Region.ready .any ops l:=by
     rw [mem_ready]
     refine ⟨?_,ops[j],Array.getElem?_eq_getElem hj,fun e he hb=>?_⟩
     ·have hjl:j<l.size:=by omega
      simp only [maskOf,Array.getD_eq_getD_getElem?,Array.getElem?_eq_getElem hjl,Option.getD_some] at hm ⊢
      exact hm
     ·have hlt:=hD.E j ops[j] (Array.getElem?_eq_getElem hj) e he hb
      exact ih e.on hlt (by omega)
    rw [hr] at this
    cases this
 intro fuel
 induction fuel with
 | zero=>
  intro l a w hl ho h
  have hall:∀j,j<ops.size→maskOf l j=true:=by
   intro j hj
   cases hm:maskOf l j with
   | true=>rfl
   | false=>
    exfalso
    have:1≤openTo l ops.size:=by
     have key:∀k,j<k→1≤openTo l k:=by
      intro k
      induction k with
      | zero=>intro h;omega
      | succ k ih=>
       intro h
       simp only [openTo,cntTo]
       by_cases e:j=k
       ·subst e;rw [hm];simp
       ·have:=ih (by omega);simp only [openTo] at this;omega
     exact key _ hj
    omega
  refine ⟨?_,hdone l a w hl h hall⟩
  cases hr:Region.ready .any ops l with
  | nil=>rfl
  | cons j r=>
   have hj:j∈Region.ready .any ops l:=by rw [hr];exact List.mem_cons_self
   rw [mem_ready] at hj
   obtain ⟨h1,o,h2,_⟩:=hj
   have hjlt:=(Array.getElem?_eq_some_iff.1 h2).1
   have:=hall j hjlt
   have hjl:j<l.size:=by omega
   simp only [maskOf,Array.getD_eq_getD_getElem?,Array.getElem?_eq_getElem hjl,Option.getD_some] at this h1
   rw [this] at h1;cases h1
 | succ fuel ih=>
  intro l a w hl ho h
  refine ⟨fun hr=>hdone l a w hl h (hnone l hl hr),fun j hj=>?_⟩
  rw [mem_ready] at hj
  obtain ⟨h1,o,h2,h3⟩:=hj
  have hjlt:=(Array.getElem?_eq_some_iff.1 h2).1
  have hjl:j<l.size:=by omega
  have hjM:maskOf l j=false:=by
   simp only [maskOf,Array.getD_eq_getD_getElem?,Array.getElem?_eq_getElem hjl,Option.getD_some] at h1 ⊢
   exact h1
  have hmask:maskOf (l.setIfInBounds j true)=withJ (maskOf l) j:=by
   funext i
   simp only [maskOf,Array.getD_eq_getD_getElem?]
   by_cases e:i=j
   ·subst e;rw [withJ_self];simp [hjl]
   ·rw [withJ_ne _ e,Array.getElem?_setIfInBounds_ne (Ne.symm e)];simp only [maskOf,Array.getD_eq_getD_getElem?]
  refine Draw.step hD h h2 hjM (fun i hb=>?_) fun a' w' h'=>?_
  ·obtain ⟨o',ho',e,he,hbe,h4⟩:=bnd_step hb
   rw [h2] at ho'
   injection ho' with ho'
   subst ho'
   have hM:=h3 e (by simpa using he) hbe
   have hM':maskOf l e.on=true:=hM
   rcases h4 with h4 | h4
   ·rw [←h4];exact hM'
   ·exact h.cl _ _ hM' h4
  ·refine ih _ a' w' (by simp [hl]) ?_ (by rw [hmask];exact h')
   have hcnt:openTo (l.setIfInBounds j true) ops.size+1=openTo l ops.size:=by
    simp only [openTo]
    rw [hmask]
    have key:∀k,cntTo (fun i=>!withJ (maskOf l) j i) k+(if j<k then 1 else 0)=cntTo (fun i=>!maskOf l i) k:=by
     intro k
     induction k with
     | zero=>simp [cntTo]
     | succ k ihk=>
      simp only [cntTo]
      by_cases e:k=j
      ·subst e
       rw [withJ_self,hjM]
       rw [if_neg (by omega)] at ihk
       rw [if_pos (by omega)]
       show 0+_+1=1+_
       omega
      ·rw [withJ_ne _ e]
       by_cases hlt:j<k
       ·rw [if_pos hlt] at ihk;rw [if_pos (by omega)];omega
       ·rw [if_neg hlt] at ihk;rw [if_neg (by omega)];omega
    have:=key ops.size
    rw [if_pos hjlt] at this
    exact this
   omega
end Go.AM
namespace Go.AM
theorem Inv.freeze {P:Program} {vs:Array Value} {w:World}:∀(l:List Nat) {st:St} {g:Gh},Inv P g st vs w→∃g',Inv P g' (St.freeze l st) vs w∧Ext g g' w w:=by
 intro l
 induction l with
 | nil=>intro st g h;exact ⟨g,h,Ext.refl _ _⟩
 | cons t r ih=>
  intro st g h
  simp only [St.freeze]
  split
  ·rename_i x st1 hu
   obtain ⟨g1,i1,i2,i3,i4,i5⟩:=use_sound h hu
   split
   ·rename_i st2 hs
    have ht:t<st1.n:=by
     simp only [St.setD] at hs
     split at hs
     ·assumption
     ·cases hs
    have k:=setD_rel i1 hs i3
    have hv:putT vs (some t) (evalV vs (.tmp t))=vs:=by
     simp only [putT,evalV]
     have hlt:t<vs.size:=by rw [i1.size];exact ht
     exact setIf_self vs t _ (by rw [Array.getElem?_eq_getElem hlt];simp [Array.getD_eq_getD_getElem?,Array.getElem?_eq_getElem hlt])
    rw [hv] at k
    obtain ⟨g2,j1,j2⟩:=ih k
    exact ⟨g2,j1,i2.trans j2⟩
   ·obtain ⟨g2,j1,j2⟩:=ih i1
    exact ⟨g2,j1,i2.trans j2⟩
  ·exact ih h
theorem Inv.renil {P:Program} {vs:Array Value} {w:World} {g:Gh}:∀(l:List (Plc×TypeId×Sh)) {st:St},Inv P g st vs w→Inv P g (St.renil l st) vs w:=by
 intro l
 induction l with
 | nil=>intro st h;exact h
 | cons q r ih=>
  obtain ⟨p,e,sh⟩:=q
  intro st h
  simp only [St.renil]
  split
  ·rename_i fl xs hc
   refine ih ?_
   obtain ⟨v,hv,hs⟩:=contentAt_real h hc
   have hvn:v=.slice none 0 0:=by
    rcases slot_sl hs with ⟨_,h1⟩ | ⟨h1,_⟩
    ·exact h1
    ·cases h1
   subst hvn
   have hnew:∀st' vs' w',Slot P st' g vs' w' p (.sl (.excl e) false ⟨sh,[]⟩) (.slice none 0 0):=fun _ _ _=>.inl ⟨rfl,rfl⟩
   cases p with
   | tmp t=>
    have ht:t<st.n:=get_lt hc
    have k:=h.setPlain ht (hnew _ _ _)
    rwa [setIf_self vs t _ hv] at k
   | cell id off=>
    have hc':=hc
    simp only [contentAt] at hc'
    split at hc'
    ·rename_i ty cs hσ
     have hid:id<g.rho.length:=by rw [h.rlen];exact (List.getElem?_eq_some_iff.1 hσ).1
     have hr:g.rho[id]? = some g.rho[id]:=List.getElem?_eq_getElem hid
     obtain ⟨c,fz,hb,_,hsz,hx⟩:=h.box id ty cs _ hσ hr
     obtain ⟨k1,_⟩:=h.storeSlot (off:=off) hσ hr (x:=.sl (.excl e) false ⟨sh,[]⟩) rfl (fun _ _=>hnew _ _ _)
     have hcell:c[off]? = some (.slice none 0 0):=by
      simp only [realAt,hr,World.cell?,hb] at hv
      simpa using hv
     rwa [setCell_self hb hcell] at k1
    ·cases hc'
  ·exact ih h
theorem Inv.cutTo {P:Program} {st:St} {g:Gh} {vs:Array Value} {w:World} (h:Inv P g st vs w) {n:Nat} (hc:st.cutOk n=true) (hn:n≤st.σ.length) :
  Inv P (g.cut n) { st with σ:=st.σ.take n } vs w:=by
 simp only [St.cutOk,Bool.and_eq_true] at hc
 obtain ⟨h1,h2⟩:=hc
 have hσ:∀(id:Nat) (bx:Bx),(st.σ.take n)[id]? = some bx→st.σ[id]? = some bx∧noRefB n bx=true:=by
  intro id bx hx
  have hm:=List.all_eq_true.1 h2 bx (List.mem_of_getElem? hx)
  refine ⟨?_,hm⟩
  rw [List.getElem?_take] at hx
  split at hx
  ·exact hx
  ·cases hx
 have hρ:∀(id b:Nat),(g.cut n).rho[id]? = some b→g.rho[id]? = some b:=by
  intro id b hb
  have hb:(g.rho.take n)[id]? = some b:=hb
  rw [List.getElem?_take] at hb
  split at hb
  ·exact hb
  ·cases hb
 have hT:∀t,lkp st.ts t=.dead∨noRefT n (lkp st.ts t)=true:=by
  intro t
  have:∀(l:List (Nat×PV)),l.all (fun p=>noRefT n p.2)=true→lkp l t=.dead∨noRefT n (lkp l t)=true:=by
   intro l
   induction l with
   | nil=>intro _;exact .inl rfl
   | cons p r ih=>
    obtain ⟨k,x⟩:=p
    intro hl
    simp only [List.all_cons,Bool.and_eq_true] at hl
    simp only [lkp]
    cases Nat.beq k t with
    | true=>exact .inr hl.1
    | false=>exact ih hl.2
  exact this _ h1
 have hfam:∀id,id<n→(g.cut n).fam id=g.fam id:=fun id hid=>by
  funext i
  show (if id<n then g.fam id i else none)=_
  rw [if_pos hid]
 refine ⟨h.size,?_,?_,?_,?_,?_,?_,?_,h.olt,h.flt,h.fbox⟩
 ·intro t x hx
  have hx':st.get t=some x:=hx
  obtain ⟨v,hv,hs⟩:=h.slot t x hx'
  refine ⟨v,hv,?_⟩
  have hxe:x=lkp st.ts t:=by
   simp only [St.get] at hx'
   split at hx'
   ·exact (Option.some.inj hx').symm
   ·cases hx'
  have hnr:x=.dead∨noRefT n x=true:=by rw [hxe];exact hT t
  rcases hnr with rfl | hnr
  ·trivial
  ·cases x with
   | alias q=>
    cases q with
    | tmp s=>exact hs
    | cell id off=>simp [noRefT,noRef] at hnr
   | elem q k off=>
    cases q with
    | tmp s=>exact hs
    | cell id off=>simp [noRefT,noRef] at hnr
   | _=>exact hs.cut hnr
 ·show (g.rho.take n).length=(st.σ.take n).length
  have:g.rho.length=st.σ.length:=h.rlen
  simp [this]
 ·intro id ty cs b hx hb
  obtain ⟨k1,k2⟩:=hσ id _ hx
  obtain ⟨c,fz,j1,j2,j3,j4⟩:=h.box id ty cs b k1 (hρ id b hb)
  refine ⟨c,fz,j1,j2,j3,fun off x hox=>?_⟩
  obtain ⟨l1,v,l2,l3⟩:=j4 off x hox
  simp only [noRefB] at k2
  obtain ⟨m1,m2⟩:=List.getElem?_eq_some_iff.1 hox
  exact ⟨l1,v,l2,l3.cut (by have:=noRefs_get k2 off m1;rwa [m2] at this)⟩
 ·intro id es b hx hb
  obtain ⟨k1,k2⟩:=hσ id _ hx
  exact h.bmap id es b k1 (hρ id b hb)
 ·intro id alts l hx
  obtain ⟨k1,k2⟩:=hσ id _ hx
  have hid:id<n:=by
   have:=(List.getElem?_eq_some_iff.1 hx).1
   simp only [List.length_take] at this
   omega
  exact (h.bfam id alts l k1).mono (hfam id hid) (fun _ _ h=>h) (fun _ _ _=>rfl) (fun i b hb=>⟨rfl,hb,fun _ h=>h⟩) (Nat.le_refl _)
 ·intro id b hk hb
  refine h.rown id b ?_ (hρ id b hb)
  have hid:id<n:=by
   have:=(List.getElem?_eq_some_iff.1 hb).1
   have e:(g.cut n).rho=g.rho.take n:=rfl
   rw [e,List.length_take] at this
   omega
  have hk:famAt (st.σ.take n) id=false:=hk
  unfold famAt at hk ⊢
  rwa [List.getElem?_take_of_lt hid] at hk
 ·intro id i v hv
  have hv:(if id<n then g.fam id i else none)=some v:=hv
  split at hv
  ·have:=h.fdom id i v hv
   show id<(st.σ.take n).length
   rw [List.length_take];omega
  ·cases hv
theorem Ext.cut {g g':Gh} {w w':World} (h:Ext g g' w w') (n:Nat):Ext (g.cut n) (g'.cut n) w w':=
 ⟨by
  obtain ⟨t,ht⟩:=h.rho
  show g.rho.take n <+: g'.rho.take n
  rw [←ht,List.take_append]
  exact List.prefix_append _ _,(fun id i v hv=>by
  have hv:(if id<n then g.fam id i else none)=some v:=hv
  show (if id<n then g'.fam id i else none)=some v
  split at hv
  ·rename_i hid;rw [if_pos hid];exact h.fam id i v hv
  ·cases hv),fun b id hl ho=>h.obx b id (by have e:(g.cut n).rho=g.rho.take n:=rfl;rw [e,List.length_take] at hl;omega) ho,h.fp,h.fpc,h.keep,h.size,h.frame,h.noframe,h.none_,h.fnew,h.os,h.tape,h.output⟩
theorem cut_cut (g:Gh) {n m:Nat} (h:m≤n):(g.cut n).cut m=g.cut m:=by
 simp only [Gh.cut,List.take_take,Nat.min_eq_left h]
 congr 1
 funext id i
 by_cases h1:id<m
 ·rw [if_pos h1,if_pos h1,if_pos (by omega)]
 ·rw [if_neg h1,if_neg h1]
theorem cut_all (g:Gh) {n:Nat} (h:g.rho.length≤n) (hf:∀id i v,g.fam id i=some v→id<n):g.cut n=g:=by
 obtain ⟨rho,FP,ow,fam⟩:=g
 simp only [Gh.cut]
 congr 1
 ·exact List.take_of_length_le h
 ·funext id i
  split
  ·rfl
  ·rename_i hid
   cases e:fam id i with
   | none=>rfl
   | some v=>exact absurd (hf id i v e) hid
theorem Ext.of_cut {g g':Gh} {w w':World} {n:Nat} (h:Ext g (g'.cut n) w w'):Ext g g' w w':=
 ⟨h.rho.trans (List.take_prefix n g'.rho),(fun id i v hv=>by
  have:=h.fam id i v hv
  have this:(if id<n then g'.fam id i else none)=some v:=this
  split at this
  ·exact this
  ·cases this),h.obx,h.fp,h.fpc,h.keep,h.size,h.frame,h.noframe,h.none_,h.fnew,h.os,h.tape,h.output⟩
theorem Inv.keepTo {P:Program} {st:St} {g:Gh} {vs:Array Value} {w:World} (h:Inv P g st vs w) (k:Hint):∃g',Inv P g' (st.keepTo k) vs w∧Ext g g' w w:=by
 obtain ⟨g1,h1,h2⟩:=h.freeze k.frz
 exact ⟨g1,(h1.renil k.nils).keep k.keep,h2⟩
def isTmp:Own→Prop
 | .plc (.tmp _)=>True
 | _=>False
theorem Inv.only {P:Program} {st:St} {g g':Gh} {vs:Array Value} {w:World} (h:Inv P g st vs w) (hC:Chg isTmp g g' w w) (hr:g'.rho=g.rho) (hfam:g'.fam=g.fam) {r:PV} {rv:Value} (hs:Slot P { ts:=[(0,r)],n:=1,σ:=st.σ } g' #[rv] w (.tmp 0) r rv)
  (hrown:∀(id b:Nat),famAt st.σ id=false→g'.rho[id]? = some b→g'.ow b=some (.box id))
  (holt:∀b o,g'.ow b=some o→b<w.heap.size)
  (hflt:∀b i,g'.FP b i→b<w.heap.size)
  (hfbox:∀b i id,g'.ow b=some (.box id)→¬g'.FP b i):Inv P g' { ts:=[(0,r)],n:=1,σ:=st.σ } #[rv] w:=by
 refine h.step hC rfl ?_ (by rw [hr];exact h.rlen) ?_ ?_ (fun id alts l h1=>.inl ⟨h1,fun _ hh=>hh,by rw [hfam]⟩) hrown (by rw [hfam];exact h.fdom) holt hflt hfbox
 ·intro t x hx
  have ht:t<1:=get_lt hx
  have h0:t=0:=by omega
  subst h0
  simp only [St.get,lkp,Nat.beq_refl] at hx
  have hxr:x=r:=by simpa using hx.symm
  subst hxr
  exact .inr (.inr ⟨rv,by simp,hs⟩)
 ·intro id ty cs b h1 h2
  exact .inl ⟨h1,by rw [←hr];exact h2,fun hh=>hh,fun _ _ _ _ hh=>hh⟩
 ·intro id es b h1 h2
  exact .inl ⟨h1,by rw [←hr];exact h2,fun hh=>hh⟩
theorem Inv.result {P:Program} {st:St} {g:Gh} {vs:Array Value} {w:World} (h:Inv P g st vs w) {r:PV} {rv:Value} (hr:Rel g w r rv):Inv P g { ts:=[(0,r)],n:=1,σ:=st.σ } #[rv] w:=
 h.only (Chg.refl _ g w) rfl rfl (slot_of_rel hr hr.plain) h.rown h.olt h.flt h.fbox
theorem Inv.resultOwn {P:Program} {st:St} {g:Gh} {vs:Array Value} {w:World} (h:Inv P g st vs w) {t:Nat} {fl:Flag} {n:Bool} {xs:Xs} (hx:st.get t=some (.sl fl n xs)) (ho:fl.isOwn=true) :
  ∃g' rv,vs[t]? = some rv∧Inv P g' { ts:=[(0,.sl fl n xs)],n:=1,σ:=st.σ } #[rv] w∧Ext g g' w w:=by
 obtain ⟨v,hv,hs⟩:=h.slot t _ hx
 have key:∀{ex:Bool} {e:TypeId},OwnOk P g w (.tmp t) ex e n xs.els v→(∀g',OwnOk P g' w (.tmp 0) ex e n xs.els v→Slot P { ts:=[(0,PV.sl fl n xs)],n:=1,σ:=st.σ } g' #[v] w (.tmp 0) (.sl fl n xs) v)→
   ∃g' rv,vs[t]? = some rv∧Inv P g' { ts:=[(0,.sl fl n xs)],n:=1,σ:=st.σ } #[rv] w∧Ext g g' w w:=by
  intro ex e hok hslot
  rcases hok with hk | ⟨hn,b,cap,hval,hb⟩
  ·exact ⟨g,v,hv,h.only (Chg.refl _ g w) rfl rfl (hslot g (.inl hk)) h.rown h.olt h.flt h.fbox,Ext.refl _ _⟩
  ·have hC:=chg_setOw (w:=w) (q:=.tmp 0) hb.ow (A:=isTmp) trivial
   obtain ⟨k1,k2,k3⟩:=setOw_rown (q:=.tmp 0) h hb.ow
   exact ⟨_,v,hv,h.only hC rfl rfl (hslot _ (.inr ⟨hn,b,cap,hval,hb.rename⟩)) k1 k2 h.flt k3,hC.ext⟩
 cases fl with
 | view=>cases ho
 | own e=>exact key hs fun g' hk=>hk
 | excl e=>exact key hs fun g' hk=>hk
def resultAt (tmps:Array Value):ResultVar→Sem Value
 | .tmp t=>pure (tmps.getD t undef)
 | .cell a t=>do loadVar t (←asAddr (tmps.getD a undef))
theorem retVar_sound {P:Program} {st st1:St} {g:Gh} {vs:Array Value} {w:World} (h:Inv P g st vs w) {r:ResultVar} {x:PV} (he:retVar P st r=some (x,st1)) :
  ∃g' v,(resultAt vs r).run P w=.ok v w∧Inv P g' st1 vs w∧Ext g g' w w∧Rel g' w x v∧st1.σ.length=st.σ.length:=by
 have hlen:∀{g1:Gh},Inv P g1 st1 vs w→g1.rho=g.rho→st1.σ.length=st.σ.length:=fun i1 i2=>by rw [←i1.rlen,←h.rlen,i2]
 unfold retVar at he
 split at he
 ·rename_i t
  obtain ⟨g',i1,i2,i3,i4,i5⟩:=use_sound h he
  refine ⟨g',_,?_,i1,i2,i3,hlen i1 i4⟩
  simp only [resultAt,Sem.run_pure,evalV]
 ·rename_i a t
  split at he
  ·rename_i id off hg
   obtain ⟨p,hp,hs⟩:=h.slot a _ hg
   have hs:Rel g w _ _:=hs
   cases hs with
   | ptr _ _ b hb=>
    have hasA:(asAddr (vs.getD a undef)).run P w=.ok ⟨b,off,none⟩ w:=by
     have:vs.getD a undef=.pointer (some ⟨b,off,none⟩):=by
      simp only [Array.getD_eq_getD_getElem?,hp,Option.getD_some]
     rw [this];rfl
    split at he
    ·rename_i n ha hn
     split at he
     ·rename_i cs st2 ht
      injection he with he;injection he with e1 e2;subst e1;subst e2
      obtain ⟨g1,us,i1,i2,i3,i4,i5,i6,i7⟩:=takeC_sound h ht
      have hc:∀j (hj:j<us.length),w.cell? ⟨b,off+j,none⟩=some us[j]:=by
       intro j hj
       have:=i7 j hj
       simpa only [realAt,hb] using this
      refine ⟨g1,.agg us.toArray,?_,i1,i2,RelL.agg i3,hlen i1 i4⟩
      subst i6
      simp only [resultAt,loadVar,Sem.run_bind,hasA,run_agg ha,Result.andThen_ok,if_true,run_size hn,run_loadCells_at hc,Sem.run_pure]
     ·cases he
    ·rename_i n ha hn
     obtain ⟨g1,v,i1,i2,i3,i4,i5,i6⟩:=useP_sound h he
     simp only [realAt,hb] at i3
     refine ⟨g1,v,?_,i1,i2,i4,hlen i1 i5⟩
     simp only [resultAt,loadVar,Sem.run_bind,hasA,run_agg ha,Result.andThen_ok,Bool.false_eq_true,if_false,run_load_some i3]
    ·cases he
  ·cases he
theorem retVars_sound {P:Program} {vs:Array Value} {w:World}:∀{rs:List ResultVar} {st st1:St} {g:Gh} {xs:List PV},Inv P g st vs w→retVars P rs st=some (xs,st1)→
  ∃g' us,(rs.mapM (resultAt vs)).run P w=.ok us w∧Inv P g' st1 vs w∧Ext g g' w w∧RelL g' w xs us∧us.length=rs.length∧st1.σ.length=st.σ.length:=by
 intro rs
 induction rs with
 | nil=>
  intro st st1 g xs h he
  injection he with he;injection he with e1 e2;subst e1;subst e2
  exact ⟨g,[],by simp [Sem.run_pure],h,Ext.refl _ _,⟨rfl,fun i hi=>by simp at hi⟩,rfl,rfl⟩
 | cons r rs ih=>
  intro st st1 g xs h he
  simp only [retVars] at he
  split at he
  ·rename_i x st2 hx
   split at he
   ·rename_i ys st3 hy
    injection he with he;injection he with e1 e2;subst e1;subst e2
    obtain ⟨g1,v,i1,i2,i3,i4,i5⟩:=retVar_sound h hx
    obtain ⟨g2,us,j1,j2,j3,j4,j5,j6⟩:=ih i2 hy
    refine ⟨g2,v :: us,?_,j2,i3.trans j3,⟨by simp [j4.1],?_⟩,by simp [j5],j6.trans i5⟩
    ·simp only [List.mapM_cons,Sem.run_bind,i1,Result.andThen_ok,j1,Sem.run_pure]
    ·intro i hi hv
     cases i with
     | zero=>exact i4.ext j3
     | succ i=>exact j4.2 i (by simpa using hi) (by simpa using hv)
   ·cases he
  ·cases he
theorem results_eq (fn:Func) (vs:Array Value):results fn vs=(do
  let us ←fn.results.mapM (resultAt vs)
  pure (if h:us.size=1 then us[0] else .tuple us)):=by
 unfold results
 congr 1
theorem run_results {P:Program} {fn:Func} {vs:Array Value} {w:World} {us:List Value} (h:(fn.results.toList.mapM (resultAt vs)).run P w=.ok us w) :
  (results fn vs).run P w=.ok (if h:us.toArray.size=1 then us.toArray[0] else .tuple us.toArray) w:=by
 rw [results_eq]
 have:(fn.results.mapM (resultAt vs)).run P w=.ok us.toArray w:=by
  rw [Array.mapM_eq_mapM_toList]
  show ((List.toArray <$> fn.results.toList.mapM (resultAt vs)):Sem _).run P w=_
  rw [map_eq_pure_bind]
  simp only [Sem.run_bind,h,Result.andThen_ok,Sem.run_pure]
 simp only [Sem.run_bind,this,Result.andThen_ok,Sem.run_pure]
theorem retAll_sound {P:Program} {fn:Func} {st st1:St} {g:Gh} {vs:Array Value} {w:World} (h:Inv P g st vs w) {r:PV} (he:retAll P fn.results.toList st=some (r,st1)) :
  ∃g' v,(results fn vs).run P w=.ok v w∧Inv P g' { ts:=[(0,r)],n:=1,σ:=st1.σ } #[v] w∧Ext g g' w w:=by
 have hone:∀{rv:ResultVar} {v:Value},fn.results.toList=[rv]→(resultAt vs rv).run P w=.ok v w→(results fn vs).run P w=.ok v w:=by
  intro rv v h1 h2
  have:=run_results (fn:=fn) (vs:=vs) (us:=[v]) (P:=P) (w:=w) (by rw [h1];simp only [List.mapM_cons,List.mapM_nil,Sem.run_bind,h2,Result.andThen_ok,Sem.run_pure])
  rw [this];rfl
 have hvar:∀{rv:ResultVar},fn.results.toList=[rv]→retVar P st rv=some (r,st1)→∃g' v,(results fn vs).run P w=.ok v w∧Inv P g' { ts:=[(0,r)],n:=1,σ:=st1.σ } #[v] w∧Ext g g' w w:=by
  intro rv h1 h2
  obtain ⟨g1,v,i1,i2,i3,i4,i5⟩:=retVar_sound h h2
  exact ⟨g1,v,hone h1 i1,i2.result i4,i3⟩
 unfold retAll at he
 split at he
 ·rename_i t hrs
  split at he
  ·rename_i fl n xs hg
   injection he with he;injection he with e1 e2;subst e1;subst e2
   by_cases ho:fl.isOwn=true
   ·obtain ⟨g1,v,i1,i2,i3⟩:=h.resultOwn hg ho
    refine ⟨g1,v,hone hrs ?_,i2,i3⟩
    simp only [resultAt,Sem.run_pure,Array.getD_eq_getD_getElem?,i1,Option.getD_some]
   ·obtain ⟨v,hv,hs⟩:=h.slot t _ hg
    refine ⟨g,v,hone hrs ?_,h.result (slot_rel hs (by simpa [PV.isOwn] using ho) rfl (by rintro ⟨⟩)),Ext.refl _ _⟩
    simp only [resultAt,Sem.run_pure,Array.getD_eq_getD_getElem?,hv,Option.getD_some]
  ·exact hvar hrs he
 ·rename_i rv hnot hrs
  exact hvar hrs he
 ·rename_i rs hn1 hn2
  split at he
  ·rename_i xs st2 hx
   injection he with he;injection he with e1 e2;subst e1;subst e2
   obtain ⟨g1,us,i1,i2,i3,i4,i5,i6⟩:=retVars_sound h hx
   have hne:¬us.toArray.size=1:=by
    intro e
    have e:us.length=1:=by simpa using e
    rw [i5] at e
    obtain ⟨rv,hrv⟩:=List.length_eq_one_iff.1 e
    exact hn2 rv hrv
   have hrun:=run_results i1
   rw [dif_neg hne] at hrun
   exact ⟨g1,.tuple us.toArray,hrun,i2.result (.tup xs us.toArray (by simpa using i4.1) fun i hi hv=>by simpa using i4.2 i hi (by simpa using hv)),i3⟩
  ·cases he
mutual
def PV.ren (f:Nat→Nat):PV→PV
 | .lit v=>.lit v
 | .ptr id off=>.ptr (f id) off
 | .nilp=>.nilp
 | .sl fl n xs=>.sl fl n xs
 | .agg cs=>.agg (rens f cs)
 | .tup cs=>.tup (rens f cs)
 | .ifc t x=>.ifc t (PV.ren f x)
 | .fn k a b=>.fn k (rens f a) (rens f b)
 | .map id=>.map (f id)
 | .alias p=>.alias p
 | .elem p k off=>.elem p k off
 | .elemv cs off=>.elemv (rens f cs) off
 | .dead=>.dead
 | .oref id i=>.oref (f id) i
def rens (f:Nat→Nat):List PV→List PV
 | []=>[]
 | x :: r=>PV.ren f x :: rens f r
end
def renB (f:Nat→Nat):Bx→Bx
 | .cells t cs=>.cells t (rens f cs)
 | .mp es=>.mp es
 | .fam a l=>.fam a l
theorem renB_fam (f:Nat→Nat) (b:Bx):(renB f b).isFam=b.isFam:=by cases b <;> rfl
theorem rens_map (f:Nat→Nat):∀cs:List PV,rens f cs=cs.map (PV.ren f)
 | []=>rfl
 | x :: r=>by simp only [rens,List.map_cons,rens_map f r]
theorem rens_len (f:Nat→Nat) (cs:List PV):(rens f cs).length=cs.length:=by rw [rens_map,List.length_map]
theorem rens_get (f:Nat→Nat) (cs:List PV) (i:Nat) (h:i<(rens f cs).length):(rens f cs)[i]=PV.ren f (cs[i]'(rens_len f cs▸h)):=by
 simp only [rens_map,List.getElem_map]
theorem rens_get? (f:Nat→Nat) (cs:List PV) (i:Nat):(rens f cs)[i]? = (cs[i]?).map (PV.ren f):=by
 rw [rens_map,List.getElem?_map]
theorem rens_append (f:Nat→Nat):∀a b:List PV,rens f (a++b)=rens f a++rens f b
 | [],b=>rfl
 | x :: a,b=>by simp only [List.cons_append,rens,rens_append f a b]
theorem Sh.cells_ren (f:Nat→Nat):∀(s:Sh) (x:s.den),rens f (s.cells x)=s.cells x:=by
 intro s
 induction s with
 | cons a b iha ihb=>intro x;simp only [Sh.cells,rens_append,iha,ihb]
 | fz s ih=>intro x;exact congrArg (fun l=>[PV.elemv l 0]) (ih x)
 | _=>intro x;rfl
theorem Xs.els_ren (f:Nat→Nat) (x:Xs) {i j:Nat} (hi:i<x.els.length) (hj:j<x.els[i].length):x.els[i][j].ren f=x.els[i][j]:=by
 have h:rens f x.els[i]=x.els[i]:=by simp only [Xs.els,List.getElem_map];exact Sh.cells_ren f _ _
 have h2:=rens_get f x.els[i] j (by rw [rens_len];exact hj)
 rw [←h2]
 simp only [h]
theorem Rel.up {f:Nat→Nat} {g g':Gh} {w w':World} (hr:∀id b,g.rho[id]? = some b→g'.rho[f id]? = some b) (hm:∀id i v,g.fam id i=some v→g'.fam (f id) i=some v) (hf:∀b i,g.FP b i→g'.FP b i)
  (hc:∀b i,g.FP b i→w'.cell? ⟨b,i,none⟩=w.cell? ⟨b,i,none⟩) {x:PV} {v:Value} (h:Rel g w x v):Rel g' w' (x.ren f) v:=by
 induction h with
 | lit v=>exact .lit v
 | ptr id off b h=>exact .ptr (f id) off b (hr _ _ h)
 | nilp=>exact .nilp
 | slnil fl s=>exact .slnil fl s
 | slz s=>exact .slz s
 | sle s a cap=>exact .sle s a cap
 | slv x xs hx b o cap s vals hcap hlen hfp hrel ih=>
  subst hx
  exact .slv x _ rfl b o cap s vals hcap hlen (fun i j hi hj=>⟨hf _ _ (hfp i j hi hj).1,(hc _ _ (hfp i j hi hj).1).trans (hfp i j hi hj).2⟩)
   (fun i j hi hj=>by have:=ih i j hi hj;rwa [Xs.els_ren f x hi hj] at this)
 | agg cs vs hlen hrel ih=>exact .agg _ vs (by rw [rens_len];exact hlen) (fun i hi hv=>by rw [rens_get];exact ih i (by rw [rens_len] at hi;exact hi) hv)
 | tup cs vs hlen hrel ih=>exact .tup _ vs (by rw [rens_len];exact hlen) (fun i hi hv=>by rw [rens_get];exact ih i (by rw [rens_len] at hi;exact hi) hv)
 | ifc t x v h ih=>exact .ifc t _ v ih
 | fn k fs cs vf vc h1 h2 _ _ i1 i2=>
  exact .fn k _ _ vf vc (by rw [rens_len];exact h1) (by rw [rens_len];exact h2) (fun i hi hv=>by rw [rens_get];exact i1 i (by rw [rens_len] at hi;exact hi) hv) (fun i hi hv=>by rw [rens_get];exact i2 i (by rw [rens_len] at hi;exact hi) hv)
 | map id b h=>exact .map (f id) b (hr _ _ h)
 | oref id i v hv h=>exact .oref _ _ v hv (hm _ _ _ h)
 | elemv cs off b o vals hfp hrel ih=>
  exact .elemv _ off b o vals (fun j hj=>by rw [rens_len] at hj;exact ⟨hf _ _ (hfp j hj).1,(hc _ _ (hfp j hj).1).trans (hfp j hj).2⟩) (fun j hj=>by rw [rens_get];exact ih j (by rw [rens_len] at hj;exact hj))
theorem Rel.down {f:Nat→Nat} {n:Nat} {g g':Gh} {w:World} (hr:∀id b,id<n→g.rho[f id]? = some b→g'.rho[id]? = some b) (hm:∀id i v,id<n→g.fam (f id) i=some v→g'.fam id i=some v) (hf:g'.FP=g.FP) {y:PV} {v:Value} (h:Rel g w y v) :
  ∀x,y=PV.ren f x→noRef n x=true→Rel g' w x v:=by
 induction h with
 | lit v=>intro x e hn;cases x <;> simp only [PV.ren] at e <;> first | (injection e with e;subst e;exact .lit _) | cases e
 | ptr id off b h=>
  intro x e hn
  cases x <;> simp only [PV.ren] at e <;> first | (injection e with e1 e2;subst e1;subst e2;simp only [noRef,decide_eq_true_eq] at hn;exact .ptr _ _ b (hr _ _ hn h)) | cases e
 | nilp=>intro x e hn;cases x <;> simp only [PV.ren] at e <;> first | exact .nilp | cases e
 | slnil fl s=>
  intro x e hn
  cases x <;> simp only [PV.ren] at e <;> first | (rw [←e];exact .slnil fl s) | cases e
 | slz s=>
  intro x e hn
  cases x <;> simp only [PV.ren] at e <;> first | (rw [←e];exact .slz s) | cases e
 | sle s a cap=>
  intro x e hn
  cases x <;> simp only [PV.ren] at e <;> first | (rw [←e];exact .sle s a cap) | cases e
 | slv z ys hx b o cap s vals hcap hlen hfp hrel ih=>
  intro x e hn
  subst hx
  cases x <;> simp only [PV.ren] at e <;> try cases e
  exact .slv z _ rfl b o cap s vals hcap hlen (fun i j hi hj=>by rw [hf];exact hfp i j hi hj) (fun i j hi hj=>ih i j hi hj _ (Xs.els_ren f z hi hj).symm (Xs.els_get hi hj))
 | agg ys vs hlen hrel ih=>
  intro x e hn
  cases x <;> simp only [PV.ren] at e <;> try cases e
  simp only [noRef] at hn
  refine .agg _ vs (by rw [rens_len] at hlen;exact hlen) (fun i hi hv=>ih i (by rw [rens_len];exact hi) hv _ (rens_get f _ i _) (noRefs_get hn i hi))
 | tup ys vs hlen hrel ih=>
  intro x e hn
  cases x <;> simp only [PV.ren] at e <;> try cases e
  simp only [noRef] at hn
  refine .tup _ vs (by rw [rens_len] at hlen;exact hlen) (fun i hi hv=>ih i (by rw [rens_len];exact hi) hv _ (rens_get f _ i _) (noRefs_get hn i hi))
 | ifc t y v h ih=>
  intro x e hn
  cases x <;> simp only [PV.ren] at e <;> try cases e
  simp only [noRef] at hn
  exact .ifc _ _ v (ih _ rfl hn)
 | fn k fs cs vf vc h1 h2 _ _ i1 i2=>
  intro x e hn
  cases x <;> simp only [PV.ren] at e <;> try cases e
  simp only [noRef,Bool.and_eq_true] at hn
  exact .fn _ _ _ vf vc (by rw [rens_len] at h1;exact h1) (by rw [rens_len] at h2;exact h2) (fun i hi hv=>i1 i (by rw [rens_len];exact hi) hv _ (rens_get f _ i _) (noRefs_get hn.1 i hi))
   (fun i hi hv=>i2 i (by rw [rens_len];exact hi) hv _ (rens_get f _ i _) (noRefs_get hn.2 i hi))
 | map id b h=>
  intro x e hn
  cases x <;> simp only [PV.ren] at e <;> first | (injection e with e1;subst e1;simp only [noRef,decide_eq_true_eq] at hn;exact .map _ b (hr _ _ hn h)) | cases e
 | oref id i v hv h=>
  intro x e hn
  cases x <;> simp only [PV.ren] at e <;> first | (injection e with e1 e2;subst e1;subst e2;simp only [noRef,decide_eq_true_eq] at hn;exact .oref _ _ v hv (hm _ _ _ hn h)) | cases e
 | elemv ys off b o vals hfp hrel ih=>
  intro x e hn
  cases x <;> simp only [PV.ren] at e <;> try cases e
  simp only [noRef] at hn
  exact .elemv _ _ b o vals (fun j hj=>by rw [hf];exact hfp j (by rw [rens_len];exact hj)) (fun j hj=>ih j (by rw [rens_len];exact hj) _ (rens_get f _ j _) (noRefs_get hn j hj))
def hidden (inv:Nat→Option Nat):Option Own→Bool
 | some (.box id)=>(inv id).isNone
 | some (.plc (.cell id _))=>(inv id).isNone
 | some (.obj id _)=>(inv id).isNone
 | _=>false
def downO (inv:Nat→Option Nat):Option Own→Option Own
 | some (.box id)=>some (.box ((inv id).getD 0))
 | some (.plc (.cell id off))=>some (.plc (.cell ((inv id).getD 0) off))
 | some (.obj id i)=>some (.obj ((inv id).getD 0) i)
 | o=>o
def renO (f:Nat→Nat):Option Own→Option Own
 | some (.box id)=>some (.box (f id))
 | some (.plc (.cell id off))=>some (.plc (.cell (f id) off))
 | some (.obj id i)=>some (.obj (f id) i)
 | o=>o
def hidE (inv:Nat→Option Nat) (o:Option Own):Option Own:=if hidden inv o=true then some .frame else downO inv o
def unE (f:Nat→Nat) (inv:Nat→Option Nat) (o oc:Option Own):Option Own:=if hidden inv o=true then o else renO f oc
def Gh.pick (f:Nat→Nat) (inv:Nat→Option Nat) (n:Nat) (g:Gh):Gh:={ rho:=(List.range n).map (fun j=>g.rho.getD (f j) 0),FP:=g.FP,ow:=fun b=>hidE inv (g.ow b),fam:=fun id i=>if id<n then g.fam (f id) i else none }
def Gh.unpick (f:Nat→Nat) (inv:Nat→Option Nat) (n:Nat) (g gc:Gh):Gh:={ rho:=g.rho++gc.rho.drop n,FP:=gc.FP,ow:=fun b=>unE f inv (g.ow b) (gc.ow b),fam:=fun id i=>if id<g.rho.length then (match inv id with | some j=>gc.fam j i | none=>g.fam id i) else gc.fam (n+(id - g.rho.length)) i }
theorem FamOk.ren {P:Program} {g g':Gh} {w:World} {id id':Nat} {alts:List PT} {l:List (shA alts).den} (h:FamOk P g w id alts l) (hm:g'.fam id'=g.fam id) (hf:g'.FP=g.FP) (hh:∀i b,g.ow b=some (.obj id i)→g'.ow b=some (.obj id' i)):FamOk P g' w id' alts l:=by
 refine ⟨fun i v hv=>h.1 i v (by rw [←hm];exact hv),fun i x hx=>?_⟩
 obtain ⟨r,σ,h1,v,go,k1,k2,k3,k4,k5,k6⟩:=h.2 i x hx
 refine ⟨r,σ,h1,v,go,by rw [hm];exact k1,k2,fun b j hj=>by rw [hf];exact k3 b j hj,fun b=>?_,k5,fun b o j ho hj=>k6 b o j ho (by rw [hf] at hj;exact hj)⟩
 rcases k4 b with e | e
 ·exact .inl e
 ·exact .inr (hh i b e)
theorem renO_frame {f:Nat→Nat} {o:Option Own} (h:renO f o=some .frame):o=some .frame:=by
 cases o with
 | none=>cases h
 | some o=>cases o with
  | box=>cases h
  | frame=>rfl
  | plc p=>cases p <;> cases h
  | obj=>cases h
theorem downO_frame {f:Nat→Option Nat} {o:Option Own} (h:downO f o=some .frame):o=some .frame:=by
 cases o with
 | none=>cases h
 | some o=>cases o with
  | box=>cases h
  | frame=>rfl
  | plc p=>cases p <;> cases h
  | obj=>cases h
theorem hidE_frame {inv:Nat→Option Nat} {o:Option Own} (h:hidE inv o=some .frame):hidden inv o=true∨o=some .frame:=by
 unfold hidE at h
 split at h
 ·exact .inl ‹_›
 ·exact .inr (downO_frame h)
theorem pick_rho {f:Nat→Nat} {inv:Nat→Option Nat} {n:Nat} {g:Gh} {j b:Nat} (h:(g.pick f inv n).rho[j]? = some b):j<n∧g.rho.getD (f j) 0=b:=by
 have h:((List.range n).map (fun j=>g.rho.getD (f j) 0))[j]? = some b:=h
 rw [List.getElem?_map] at h
 by_cases hj:j<n
 ·rw [List.getElem?_range hj] at h
  exact ⟨hj,Option.some.inj h⟩
 ·rw [List.getElem?_eq_none (by simpa using hj)] at h
  cases h
theorem rho_pick {f:Nat→Nat} {inv:Nat→Option Nat} {n:Nat} {g:Gh} {j b:Nat} (hj:j<n) (h:g.rho[f j]? = some b):(g.pick f inv n).rho[j]? = some b:=by
 show ((List.range n).map (fun j=>g.rho.getD (f j) 0))[j]? = some b
 rw [List.getElem?_map,List.getElem?_range hj]
 simp only [Option.map_some,List.getD_eq_getElem?_getD,h,Option.getD_some]
theorem OwnOk.down {P:Program} {f:Nat→Nat} {k:Nat} {g g':Gh} {w:World} {p p':Plc} {ex:Bool} {e:TypeId} {n:Bool} {xs:Xs} {v:Value}
  (hr:∀id b,id<k→g.rho[f id]? = some b→g'.rho[id]? = some b) (hm:∀id i v,id<k→g.fam (f id) i=some v→g'.fam id i=some v) (hf:g'.FP=g.FP) (ho:∀b,g.ow b=some (.plc p)→g'.ow b=some (.plc p'))
  (h:OwnOk P g w p ex e n xs.els v):OwnOk P g' w p' ex e n xs.els v:=by
 rcases h with h1 | ⟨hn',b,cap,hv,hb⟩
 ·exact .inl h1
 ·refine .inr ⟨hn',b,cap,hv,hb.hcap,hb.blk,ho b hb.ow,⟨hb.el.1,fun i j hi hj=>?_⟩,fun he i=>by rw [hf];exact hb.ex_ he i,fun i hi=>by rw [hf];exact hb.fr i hi⟩
  obtain ⟨u,h1,h2⟩:=hb.el.2 i j hi hj
  exact ⟨u,h1,h2.down hr hm hf _ (Xs.els_ren f xs hi hj).symm (Xs.els_get hi hj)⟩
theorem OwnOk.up {P:Program} {f:Nat→Nat} {g g':Gh} {w:World} {p p':Plc} {ex:Bool} {e:TypeId} {n:Bool} {xs:Xs} {v:Value}
  (hr:∀id b,g.rho[id]? = some b→g'.rho[f id]? = some b) (hm:∀id i v,g.fam id i=some v→g'.fam (f id) i=some v) (hf:g'.FP=g.FP) (ho:∀b,g.ow b=some (.plc p)→g'.ow b=some (.plc p'))
  (h:OwnOk P g w p ex e n xs.els v):OwnOk P g' w p' ex e n xs.els v:=by
 rcases h with h1 | ⟨hn',b,cap,hv,hb⟩
 ·exact .inl h1
 ·refine .inr ⟨hn',b,cap,hv,hb.hcap,hb.blk,ho b hb.ow,⟨hb.el.1,fun i j hi hj=>?_⟩,fun he i=>by rw [hf];exact hb.ex_ he i,fun i hi=>by rw [hf];exact hb.fr i hi⟩
  obtain ⟨u,h1,h2⟩:=hb.el.2 i j hi hj
  refine ⟨u,h1,?_⟩
  have:=h2.up hr hm (fun b i hb=>by rw [hf];exact hb) (fun _ _ _=>rfl)
  rwa [Xs.els_ren f xs hi hj] at this
theorem Slot.down {P:Program} {f:Nat→Nat} {k:Nat} {st st':St} {g g':Gh} {vs vs':Array Value} {w:World} {p p':Plc} {x:PV} {v:Value}
  (hr:∀id b,id<k→g.rho[f id]? = some b→g'.rho[id]? = some b) (hm:∀id i v,id<k→g.fam (f id) i=some v→g'.fam id i=some v) (hf:g'.FP=g.FP) (ho:∀b,g.ow b=some (.plc p)→g'.ow b=some (.plc p'))
  (h:Slot P st g vs w p (x.ren f) v) (hn:noRef k x=true):Slot P st' g' vs' w p' x v:=by
 cases x with
 | sl fl n xs=>
  cases fl with
  | view=>exact Rel.down (y:=PV.ren f (.sl .view n xs)) hr hm hf h _ rfl hn
  | own e=>exact OwnOk.down hr hm hf ho h
  | excl e=>exact OwnOk.down hr hm hf ho h
 | alias _=>simp [noRef] at hn
 | elem _ _ _=>simp [noRef] at hn
 | dead=>trivial
 | lit _=>exact Rel.down (y:=PV.ren f (.lit _)) hr hm hf h _ rfl hn
 | ptr a b=>exact Rel.down (y:=PV.ren f (.ptr a b)) hr hm hf h _ rfl hn
 | nilp=>exact Rel.down (y:=PV.ren f .nilp) hr hm hf h _ rfl hn
 | agg a=>exact Rel.down (y:=PV.ren f (.agg a)) hr hm hf h _ rfl hn
 | tup a=>exact Rel.down (y:=PV.ren f (.tup a)) hr hm hf h _ rfl hn
 | ifc a b=>exact Rel.down (y:=PV.ren f (.ifc a b)) hr hm hf h _ rfl hn
 | fn a b c=>exact Rel.down (y:=PV.ren f (.fn a b c)) hr hm hf h _ rfl hn
 | map a=>exact Rel.down (y:=PV.ren f (.map a)) hr hm hf h _ rfl hn
 | elemv a b=>exact Rel.down (y:=PV.ren f (.elemv a b)) hr hm hf h _ rfl hn
 | oref a b=>exact Rel.down (y:=PV.ren f (.oref a b)) hr hm hf h _ rfl hn
theorem Slot.up {P:Program} {f:Nat→Nat} {st st':St} {g g':Gh} {vs vs':Array Value} {w:World} {p p':Plc} {x:PV} {v:Value}
  (hr:∀id b,g.rho[id]? = some b→g'.rho[f id]? = some b) (hm:∀id i v,g.fam id i=some v→g'.fam (f id) i=some v) (hf:g'.FP=g.FP) (ho:∀b,g.ow b=some (.plc p)→g'.ow b=some (.plc p'))
  (h:Slot P st g vs w p x v) (hn:x.noAl=true):Slot P st' g' vs' w p' (x.ren f) v:=by
 have hR:∀{y u},Rel g w y u→Rel g' w (y.ren f) u:=fun hh=>hh.up hr hm (fun b i hb=>by rw [hf];exact hb) (fun _ _ _=>rfl)
 cases x with
 | sl fl n xs=>
  cases fl with
  | view=>exact hR (y:=.sl .view n xs) h
  | own e=>exact OwnOk.up hr hm hf ho h
  | excl e=>exact OwnOk.up hr hm hf ho h
 | alias _=>simp [PV.noAl] at hn
 | elem _ _ _=>simp [PV.noAl] at hn
 | dead=>trivial
 | lit a=>exact hR (y:=.lit a) h
 | ptr a b=>exact hR (y:=.ptr a b) h
 | nilp=>exact hR (y:=.nilp) h
 | agg a=>exact hR (y:=.agg a) h
 | tup a=>exact hR (y:=.tup a) h
 | ifc a b=>exact hR (y:=.ifc a b) h
 | fn a b c=>exact hR (y:=.fn a b c) h
 | map a=>exact hR (y:=.map a) h
 | elemv a b=>exact hR (y:=.elemv a b) h
 | oref a b=>exact hR (y:=.oref a b) h
theorem ren_noAl {f:Nat→Nat} {x:PV} (h:x.noAl=true):(x.ren f).noAl=true:=by
 cases x <;> first | rfl | cases h
structure Emb (f:Nat→Nat) (inv:Nat→Option Nat) (n:Nat) (σ0 σ:List Bx):Prop where
 fi:∀j,j<n→inv (f j)=some j
 iv:∀id j,inv id=some j→j<n∧f j=id
 len:σ0.length=n
 at_:∀j bx,σ0[j]? = some bx→σ[f j]? = some (renB f bx)
theorem Inv.pick {P:Program} {f:Nat→Nat} {inv:Nat→Option Nat} {n:Nat} {args:List PV} {σ0 σ:List Bx} {g:Gh} {us:Array Value} {w:World} (hm:Emb f inv n σ0 σ)
  (h:Inv P g { ts:=number 0 (rens f args),n:=(rens f args).length,σ } us w) (hn:noRefs n args=true) (hb:∀bx∈σ0,noRefB n bx=true) :
  Inv P (g.pick f inv n) { ts:=number 0 args,n:=args.length,σ:=σ0 } us w:=by
 have hlt:∀j,j<n→∃b,g.rho[f j]? = some b:=fun j hj=>by
  have h1:j<σ0.length:=by rw [hm.len];exact hj
  have h2:=hm.at_ j _ (List.getElem?_eq_getElem h1)
  have h3:=(List.getElem?_eq_some_iff.1 h2).1
  exact ⟨_,List.getElem?_eq_getElem (by rw [h.rlen];exact h3)⟩
 have hup:∀j b,(g.pick f inv n).rho[j]? = some b→j<n∧g.rho[f j]? = some b:=fun j b hj=>by
  obtain ⟨k1,k2⟩:=pick_rho hj
  obtain ⟨b',hb'⟩:=hlt j k1
  rw [List.getD_eq_getElem?_getD,hb'] at k2
  simp only [Option.getD_some] at k2
  exact ⟨k1,by rw [hb',k2]⟩
 have hdn:∀id b,id<n→g.rho[f id]? = some b→(g.pick f inv n).rho[id]? = some b:=fun id b h1 h2=>rho_pick h1 h2
 have hfm:∀id i v,id<n→g.fam (f id) i=some v→(g.pick f inv n).fam id i=some v:=fun id i v h1 h2=>by
  show (if id<n then g.fam (f id) i else none)=_
  rw [if_pos h1];exact h2
 refine { size:=by rw [h.size];exact rens_len f args,slot:=fun t x hx=>?_,rlen:=by show ((List.range n).map _).length=_;rw [List.length_map,List.length_range];exact hm.len.symm,box:=fun id ty cs b h1 h2=>?_,bmap:=fun id es b h1 h2=>?_,bfam:=fun id alts l h1=>?_,fdom:=fun id i v hv=>?_,rown:=fun id b hk hb2=>?_,olt:=fun b o hb2=>?_,flt:=h.flt,fbox:=fun b i id hb2=>?_ }
 ·have ht:t<args.length:=get_lt hx
  have hxa:x=args[t]:=by
   simp only [St.get] at hx
   rw [if_pos ht,lkp_number,if_pos (by omega),Nat.sub_zero,List.getD_eq_getElem?_getD,List.getElem?_eq_getElem ht] at hx
   exact (Option.some.inj hx).symm
  have ht':t<(rens f args).length:=by rw [rens_len];exact ht
  have hg:({ ts:=number 0 (rens f args),n:=(rens f args).length,σ }:St).get t=some (x.ren f):=by
   simp only [St.get]
   rw [if_pos ht',lkp_number,if_pos (by omega),Nat.sub_zero,List.getD_eq_getElem?_getD,List.getElem?_eq_getElem ht',Option.getD_some,rens_get,hxa]
  obtain ⟨v,hv,hs⟩:=h.slot t _ hg
  refine ⟨v,hv,hs.down hdn hfm rfl (fun b hb=>?_) (by rw [hxa];exact noRefs_get hn t ht)⟩
  show hidE inv (g.ow b)=_
  rw [hb];rfl
 ·obtain ⟨k1,k2⟩:=hup id b h2
  obtain ⟨c,fz,j1,j2,j3,j4⟩:=h.box (f id) ty (rens f cs) b (hm.at_ id _ h1) k2
  refine ⟨c,fz,j1,j2,by rw [j3,rens_len],fun off x hx=>?_⟩
  obtain ⟨l1,v,l2,l3⟩:=j4 off (x.ren f) (by rw [rens_get?,hx];rfl)
  have hnx:noRef n x=true:=by
   have:=hb _ (List.mem_of_getElem? h1)
   simp only [noRefB] at this
   obtain ⟨ho,rfl⟩:=List.getElem?_eq_some_iff.1 hx
   exact noRefs_get this off ho
  refine ⟨by cases x <;> first | rfl | simp [noRef] at hnx,v,l2,l3.down hdn hfm rfl (fun b2 hb2=>?_) hnx⟩
  show hidE inv (g.ow b2)=_
  rw [hb2]
  simp only [hidE,hidden,hm.fi id k1,Option.isNone_some,Bool.false_eq_true,if_false,downO,Option.getD_some]
 ·obtain ⟨k1,k2⟩:=hup id b h2
  exact h.bmap (f id) es b (hm.at_ id _ h1) k2
 ·have hid:id<n:=by rw [←hm.len];exact (List.getElem?_eq_some_iff.1 h1).1
  refine (h.bfam (f id) alts l (hm.at_ id _ h1)).ren ?_ rfl fun i b hb=>?_
  ·funext i
   show (if id<n then g.fam (f id) i else none)=_
   rw [if_pos hid]
  ·show hidE inv (g.ow b)=_
   rw [hb]
   simp only [hidE,hidden,hm.fi id hid,Option.isNone_some,Bool.false_eq_true,if_false,downO,Option.getD_some]
 ·obtain ⟨k1,k2⟩:=hup id b hb2
  show hidE inv (g.ow b)=_
  have hk2:famAt σ (f id)=false:=by
   have h3:id<σ0.length:=by rw [hm.len];exact k1
   have h4:=hm.at_ id _ (List.getElem?_eq_getElem h3)
   have hk:famAt σ0 id=false:=hk
   rw [famAt_some (List.getElem?_eq_getElem h3)] at hk
   rw [famAt_some h4,renB_fam];exact hk
  rw [h.rown _ _ hk2 k2]
  simp only [hidE,hidden,hm.fi id k1,Option.isNone_some,Bool.false_eq_true,if_false,downO,Option.getD_some]
 ·have hv:(if id<n then g.fam (f id) i else none)=some v:=hv
  split at hv
  ·rename_i hid;show id<σ0.length;rw [hm.len];exact hid
  ·cases hv
 ·have hb2:hidE inv (g.ow b)=some o:=hb2
  cases e:g.ow b with
  | none=>rw [e] at hb2;simp [hidE,hidden,downO] at hb2
  | some o'=>exact h.olt b o' e
 ·have hb2:hidE inv (g.ow b)=some (.box id):=hb2
  unfold hidE at hb2
  split at hb2
  ·cases hb2
  ·cases e:g.ow b with
   | none=>rw [e] at hb2;cases hb2
   | some o'=>
    rw [e] at hb2
    cases o' with
    | box id'=>exact h.fbox b i id' e
    | frame=>cases hb2
    | plc p=>cases p <;> cases hb2
    | obj id' i'=>cases hb2
theorem Inv.unpick {P:Program} {f f':Nat→Nat} {inv inv':Nat→Option Nat} {n n':Nat} {args:List PV} {σ0 σ σ0' σ':List Bx} {g gc:Gh} {us:Array Value} {w w':World} (hm:Emb f inv n σ0 σ)
  (h:Inv P g { ts:=number 0 args,n:=args.length,σ } us w) {r:PV} {rv:Value} (hc:Inv P gc { ts:=[(0,r)],n:=1,σ:=σ0' } #[rv] w') (hr:r.noAl=true) (hE:Ext (g.pick f inv n) gc w w')
  (hm':Emb f' inv' n' σ0' σ') (hff:∀j,j<n→f' j=f j) (hfn:∀j,n≤j→f' j=σ.length+(j - n)) (hii:∀id,id<σ.length→inv' id=inv id)
  (hlen:σ'.length=σ.length+(n' - n)) (hnn:n≤n') (hoth:∀id,id<σ.length→inv id=none→σ'[id]? = σ[id]?) :
  Inv P (g.unpick f' inv n gc) { ts:=[(0,r.ren f')],n:=1,σ:=σ' } #[rv] w'∧Ext g (g.unpick f' inv n gc) w w':=by
 have hlt:∀j,j<n→∃b,g.rho[f j]? = some b:=fun j hj=>by
  have h1:j<σ0.length:=by rw [hm.len];exact hj
  have h2:=hm.at_ j _ (List.getElem?_eq_getElem h1)
  have h3:=(List.getElem?_eq_some_iff.1 h2).1
  exact ⟨_,List.getElem?_eq_getElem (by rw [h.rlen];exact h3)⟩
 have hgl:g.rho.length=σ.length:=h.rlen
 have hfl:∀j,j<n→f j<σ.length:=fun j hj=>by
  obtain ⟨b,hb⟩:=hlt j hj
  have:=(List.getElem?_eq_some_iff.1 hb).1
  omega
 have hcl:gc.rho.length=n':=by rw [hc.rlen];exact hm'.len
 have hpr:∀j b,j<n→gc.rho[j]? = some b→g.rho[f j]? = some b:=fun j b hj hb=>by
  obtain ⟨b',hb'⟩:=hlt j hj
  have:=prefix_get hE.rho (rho_pick (inv:=inv) hj hb')
  rw [this] at hb
  rw [hb',←hb]
 have hup:∀j b,gc.rho[j]? = some b→(g.unpick f' inv n gc).rho[f' j]? = some b:=fun j b hj=>by
  show (g.rho++gc.rho.drop n)[f' j]? = some b
  rcases Nat.lt_or_ge j n with hlt' | hge
  ·rw [hff j hlt',List.getElem?_append_left (by have:=hfl j hlt';omega)]
   exact hpr j b hlt' hj
  ·rw [hfn j hge,List.getElem?_append_right (by omega),List.getElem?_drop]
   rw [show n+(σ.length+(j - n) - g.rho.length)=j by omega]
   exact hj
 have hdn:∀id j b,inv' id=some j→(g.unpick f' inv n gc).rho[id]? = some b→gc.rho[j]? = some b:=fun id j b h1 h2=>by
  obtain ⟨k1,k2⟩:=hm'.iv id j h1
  have h2:(g.rho++gc.rho.drop n)[id]? = some b:=h2
  rcases Nat.lt_or_ge j n with hlt' | hge
  ·rw [hff j hlt'] at k2
   have hid:id<σ.length:=by have:=hfl j hlt';omega
   rw [List.getElem?_append_left (by omega)] at h2
   obtain ⟨b',hb'⟩:=hlt j hlt'
   rw [k2] at hb'
   have e:=hb'.symm.trans h2
   injection e with e
   subst e
   exact prefix_get hE.rho (rho_pick (inv:=inv) hlt' (by rw [k2];exact hb'))
  ·rw [hfn j hge] at k2
   subst k2
   rw [List.getElem?_append_right (by omega),List.getElem?_drop,show n+(σ.length+(j - n) - g.rho.length)=j by omega] at h2
   exact h2
 have hnone:∀id,id<σ'.length→inv' id=none→id<σ.length∧inv id=none:=fun id h1 h2=>by
  rcases Nat.lt_or_ge id σ.length with hl | hg
  ·exact ⟨hl,by rw [←hii id hl];exact h2⟩
  ·exfalso
   have h3:=hm'.fi (n+(id - σ.length)) (by omega)
   rw [hfn _ (by omega),show σ.length+(n+(id - σ.length) - n)=id by omega,h2] at h3
   cases h3
 have hfr:∀{b},hidden inv (g.ow b)=true→(g.pick f inv n).ow b=some .frame:=fun {b} hb=>by
  show hidE inv (g.ow b)=_
  simp only [hidE,hb,if_true]
 have hvis:∀{b o},gc.ow b=some o→o≠.frame→hidden inv (g.ow b)=false:=fun {b o} hb ho=>by
  cases e:hidden inv (g.ow b) with
  | false=>rfl
  | true=>
   have:=hE.frame b (hfr e)
   rw [hb] at this
   exact absurd (Option.some.inj this) ho
 have hun:∀{b o},gc.ow b=some o→o≠.frame→(g.unpick f' inv n gc).ow b=renO f' (some o):=fun {b o} hb ho=>by
  show unE f' inv (g.ow b) (gc.ow b)=_
  simp only [unE,hvis hb ho,Bool.false_eq_true,if_false,hb]
 have hfu:∀j i v,gc.fam j i=some v→(g.unpick f' inv n gc).fam (f' j) i=some v:=fun j i v hv=>by
  show (if f' j<g.rho.length then (match inv (f' j) with | some j=>gc.fam j i | none=>g.fam (f' j) i) else gc.fam (n+(f' j - g.rho.length)) i)=some v
  rcases Nat.lt_or_ge j n with hlt' | hge
  ·rw [hff j hlt',if_pos (by have:=hfl j hlt';omega),hm.fi j hlt'];exact hv
  ·rw [hfn j hge,if_neg (by omega),show n+(σ.length+(j - n) - g.rho.length)=j by omega];exact hv
 have hExt:Ext g (g.unpick f' inv n gc) w w':=
  {rho:=List.prefix_append _ _,fp:=hE.fp,fpc:=hE.fpc
   fam:=fun id i v hv=>by
    have hid:id<σ.length:=h.fdom id i v hv
    show (if id<g.rho.length then (match inv id with | some j=>gc.fam j i | none=>g.fam id i) else gc.fam (n+(id - g.rho.length)) i)=some v
    rw [if_pos (by omega)]
    cases hi:inv id with
    | none=>exact hv
    | some j=>
     obtain ⟨k1,k2⟩:=hm.iv id j hi
     refine hE.fam j i v ?_
     show (if j<n then g.fam (f j) i else none)=some v
     rw [if_pos k1,k2];exact hv
   obx:=fun b id hl hb=>by
    show unE f' inv (g.ow b) (gc.ow b)=_
    rw [hb]
    cases hi:inv id with
    | none=>simp [unE,hidden,hi]
    | some j=>
     obtain ⟨k1,k2⟩:=hm.iv id j hi
     have h1:gc.ow b=some (.box j):=by
      refine hE.obx b j ?_ ?_
      ·show j<((List.range n).map _).length
       rw [List.length_map,List.length_range];exact k1
      ·show hidE inv (g.ow b)=_
       rw [hb];simp [hidE,hidden,hi,downO]
     simp [unE,hidden,hi,h1,renO,hff j k1,k2]
   keep:=fun b hb ho=>hE.keep b hb (by
    rcases ho with ho | ho
    ·left;show hidE inv (g.ow b)=_;rw [ho];rfl
    ·right;show hidE inv (g.ow b)=_;rw [ho];rfl)
   size:=hE.size
   frame:=fun b hb=>by
    have:=hE.frame b (by show hidE inv (g.ow b)=_;rw [hb];rfl)
    show unE f' inv (g.ow b) (gc.ow b)=_
    rw [hb,this];rfl
   noframe:=fun b hb hf=>by
    have hf:unE f' inv (g.ow b) (gc.ow b)=some .frame:=hf
    unfold unE at hf
    split at hf
    ·exact hb hf
    ·rename_i hh
     refine hE.noframe b (fun he=>?_) (renO_frame hf)
     have he:hidE inv (g.ow b)=some .frame:=he
     rcases hidE_frame he with k | k
     ·exact hh k
     ·exact hb k
   none_:=fun b hb hn=>by
    have:=hE.none_ b hb (by show hidE inv (g.ow b)=_;rw [hn];rfl)
    show unE f' inv (g.ow b) (gc.ow b)=_
    rw [hn,this];rfl
   fnew:=fun b i hb hf=>hE.fnew b i (by show hidE inv (g.ow b)=_;rw [hb];rfl) hf
   os:=hE.os,tape:=hE.tape,output:=hE.output }
 have hkeep:∀{b o},g.ow b=some o→hidden inv (some o)=true→w'.heap[b]? = w.heap[b]?:=fun {b o} hb ho=>
  hE.keep b (h.olt b o hb) (.inr (hfr (by rw [hb];exact ho)))
 refine ⟨?_,hExt⟩
 refine { size:=rfl,slot:=fun t x hx=>?_,rlen:=by show (g.rho++gc.rho.drop n).length=σ'.length;rw [List.length_append,List.length_drop,hlen,hgl,hcl],box:=fun id ty cs b h1 h2=>?_,bmap:=fun id es b h1 h2=>?_,bfam:=fun id alts l h1=>?_,fdom:=fun id i v hv=>?_,rown:=fun id b hk hb=>?_,olt:=fun b o hb=>?_,flt:=hc.flt,fbox:=fun b i id hb hf=>?_ }
 ·have ht:t<1:=get_lt hx
  have h0:t=0:=by omega
  subst h0
  have hxr:x=r.ren f':=by simpa [St.get,lkp] using hx.symm
  subst hxr
  obtain ⟨v,hv,hs⟩:=hc.slot 0 r (by simp [St.get,lkp])
  exact ⟨v,hv,hs.up hup hfu rfl (fun b hb=>(hun (o:=.plc (.tmp 0)) hb (by simp)).trans rfl) hr⟩
 ·cases hi':inv' id with
  | none=>
   obtain ⟨hidl,hi⟩:=hnone id (List.getElem?_eq_some_iff.1 h1).1 hi'
   have h1':σ[id]? = some (Bx.cells ty cs):=by rw [←hoth id hidl hi];exact h1
   have h2:g.rho[id]? = some b:=by
    have h2:(g.rho++gc.rho.drop n)[id]? = some b:=h2
    rwa [List.getElem?_append_left (by omega)] at h2
   have hhid:hidden inv (some (.box id))=true:=by simp [hidden,hi]
   obtain ⟨c,fz,k1,k2,k3,k4⟩:=h.box id ty cs b h1' h2
   have hb:=h.rown id b (famAt_cells h1') h2
   refine ⟨c,fz,(hkeep hb hhid).trans k1,k2,k3,fun off x hx=>?_⟩
   obtain ⟨j1,v,j2,j3⟩:=k4 off x hx
   refine ⟨j1,v,j2,?_⟩
   have hhc:hidden inv (some (.plc (.cell id off)))=true:=by simp [hidden,hi]
   have hO:∀{ex e nn xs},OwnOk P g w (.cell id off) ex e nn xs v→OwnOk P (g.unpick f' inv n gc) w' (.cell id off) ex e nn xs v:=by
    rintro ex e nn xs (hk | ⟨hn,b2,cap,hval,hb2⟩)
    ·exact .inl hk
    ·have hh:=hkeep hb2.ow hhc
     have hf2:=hfr (b:=b2) (by rw [hb2.ow];exact hhc)
     obtain ⟨c2,fz2,l1,l2,l3⟩:=hb2.blk
     refine .inr ⟨hn,b2,cap,hval,hb2.hcap,⟨c2,fz2,hh.trans l1,l2,l3⟩,?_,hb2.el.mono hExt (cell_of_heap hh),fun he i hf=>hb2.ex_ he i (hE.fnew b2 i hf2 hf),fun i hi hf=>hb2.fr i hi (hE.fnew b2 i hf2 hf)⟩
     show unE f' inv (g.ow b2) (gc.ow b2)=_
     rw [hb2.ow]
     simp only [unE,hhc,if_true]
   cases x with
   | sl fl n xs=>
    cases fl with
    | view=>exact Rel.ext hExt j3
    | own e=>exact hO j3
    | excl e=>exact hO j3
   | alias _=>simp [PV.noAl] at j1
   | elem _ _ _=>simp [PV.noAl] at j1
   | dead=>trivial
   | _=>exact Rel.ext hExt j3
  | some j=>
   obtain ⟨k1,k2⟩:=hm'.iv id j hi'
   have hj:j<σ0'.length:=by rw [hm'.len];exact k1
   have e1:=hm'.at_ j _ (List.getElem?_eq_getElem hj)
   rw [k2,h1] at e1
   have e2:=List.getElem?_eq_getElem hj
   have hbc:=hdn id j b hi' h2
   cases hbx:σ0'[j] with
   | mp es=>rw [hbx] at e1;cases e1
   | fam a l=>rw [hbx] at e1;cases e1
   | cells ty' cs0=>
    rw [hbx] at e1 e2
    injection e1 with e1
    injection e1 with e3 e4
    subst e3;subst e4
    obtain ⟨c,fz,l1,l2,l3,l4⟩:=hc.box j ty cs0 b e2 hbc
    refine ⟨c,fz,l1,l2,by rw [l3,rens_len],fun off x hx=>?_⟩
    rw [rens_get?] at hx
    cases hx0:cs0[off]? with
    | none=>rw [hx0] at hx;cases hx
    | some x0=>
     rw [hx0] at hx
     injection hx with hx
     subst hx
     obtain ⟨o1,v,o2,o3⟩:=l4 off x0 hx0
     refine ⟨ren_noAl o1,v,o2,o3.up hup hfu rfl (fun b2 hb2=>?_) o1⟩
     rw [hun hb2 (by simp)]
     simp only [renO,k2]
 ·cases hi':inv' id with
  | none=>
   obtain ⟨hidl,hi⟩:=hnone id (List.getElem?_eq_some_iff.1 h1).1 hi'
   have h1':σ[id]? = some (Bx.mp es):=by rw [←hoth id hidl hi];exact h1
   have h2:g.rho[id]? = some b:=by
    have h2:(g.rho++gc.rho.drop n)[id]? = some b:=h2
    rwa [List.getElem?_append_left (by omega)] at h2
   have hhid:hidden inv (some (.box id))=true:=by simp [hidden,hi]
   obtain ⟨en,ck,k1,k2⟩:=h.bmap id es b h1' h2
   exact ⟨en,ck,(hkeep (h.rown id b (famAt_mp h1') h2) hhid).trans k1,k2⟩
  | some j=>
   obtain ⟨k1,k2⟩:=hm'.iv id j hi'
   have hj:j<σ0'.length:=by rw [hm'.len];exact k1
   have e1:=hm'.at_ j _ (List.getElem?_eq_getElem hj)
   rw [k2,h1] at e1
   have e2:=List.getElem?_eq_getElem hj
   cases hbx:σ0'[j] with
   | cells ty' cs0=>rw [hbx] at e1;cases e1
   | fam a l=>rw [hbx] at e1;cases e1
   | mp es0=>
    rw [hbx] at e1 e2
    injection e1 with e1
    injection e1 with e3
    subst e3
    exact hc.bmap j es b e2 (hdn id j b hi' h2)
 ·cases hi':inv' id with
  | none=>
   obtain ⟨hidl,hi⟩:=hnone id (List.getElem?_eq_some_iff.1 h1).1 hi'
   have h1':σ[id]? = some (Bx.fam alts l):=by rw [←hoth id hidl hi];exact h1
   refine (h.bfam id alts l h1').mono ?_ hE.fp hE.fpc (fun i b hb=>⟨hkeep hb (by simp [hidden,hi]),?_,fun j=>hE.fnew b j (hfr (by rw [hb];simp [hidden,hi]))⟩) hE.size
   ·funext i
    show (if id<g.rho.length then (match inv id with | some j=>gc.fam j i | none=>g.fam id i) else gc.fam (n+(id - g.rho.length)) i)=_
    rw [if_pos (by omega),hi]
   ·show unE f' inv (g.ow b) (gc.ow b)=_
    rw [hb]
    simp [unE,hidden,hi]
  | some j=>
   obtain ⟨k1,k2⟩:=hm'.iv id j hi'
   have hj:j<σ0'.length:=by rw [hm'.len];exact k1
   have e1:=hm'.at_ j _ (List.getElem?_eq_getElem hj)
   rw [k2,h1] at e1
   have e2:=List.getElem?_eq_getElem hj
   cases hbx:σ0'[j] with
   | cells ty' cs0=>rw [hbx] at e1;cases e1
   | mp es0=>rw [hbx] at e1;cases e1
   | fam a0 l0=>
    rw [hbx] at e1 e2
    injection e1 with e1
    injection e1 with e3 e4
    subst e3
    have e4:=eq_of_heq e4
    subst e4
    refine (hc.bfam j alts l e2).ren ?_ rfl fun i b hb=>?_
    ·funext i
     show (if id<g.rho.length then (match inv id with | some j=>gc.fam j i | none=>g.fam id i) else gc.fam (n+(id - g.rho.length)) i)=_
     rcases Nat.lt_or_ge j n with hlt' | hge
     ·rw [hff j hlt'] at k2
      rw [if_pos (by rw [←k2];have:=hfl j hlt';omega),←k2,hm.fi j hlt']
     ·rw [hfn j hge] at k2
      rw [if_neg (by omega),show n+(id - g.rho.length)=j by omega]
    ·rw [hun hb (by simp)]
     simp only [renO,k2]
 ·have hidl':id<σ'.length:=by
   have:=(List.getElem?_eq_some_iff.1 hb).1
   have e:(g.unpick f' inv n gc).rho.length=σ'.length:=by show (g.rho++gc.rho.drop n).length=σ'.length;rw [List.length_append,List.length_drop,hlen,hgl,hcl]
   omega
  cases hi':inv' id with
  | none=>
   obtain ⟨hidl,hi⟩:=hnone id hidl' hi'
   have hb:g.rho[id]? = some b:=by
    have hb:(g.rho++gc.rho.drop n)[id]? = some b:=hb
    rwa [List.getElem?_append_left (by omega)] at hb
   show unE f' inv (g.ow b) (gc.ow b)=_
   rw [h.rown id b (by
    have hk:famAt σ' id=false:=hk
    unfold famAt at hk ⊢
    rwa [hoth id hidl hi] at hk) hb]
   simp [unE,hidden,hi]
  | some j=>
   have:=hc.rown j b (by
    obtain ⟨k1,k2⟩:=hm'.iv id j hi'
    have hj:j<σ0'.length:=by rw [hm'.len];exact k1
    have e1:=hm'.at_ j _ (List.getElem?_eq_getElem hj)
    rw [k2] at e1
    have hk:famAt σ' id=false:=hk
    rw [famAt_some e1,renB_fam] at hk
    show famAt σ0' j=false
    rw [famAt_some (List.getElem?_eq_getElem hj)];exact hk) (hdn id j b hi' hb)
   rw [hun this (by simp)]
   simp only [renO,(hm'.iv id j hi').2]
 ·have hv:(if id<g.rho.length then (match inv id with | some j=>gc.fam j i | none=>g.fam id i) else gc.fam (n+(id - g.rho.length)) i)=some v:=hv
  show id<σ'.length
  split at hv
  ·omega
  ·have:=hc.fdom _ i v hv
   have e:σ0'.length=n':=hm'.len
   have this:n+(id - g.rho.length)<σ0'.length:=this
   omega
 ·have hb:unE f' inv (g.ow b) (gc.ow b)=some o:=hb
  unfold unE at hb
  split at hb
  ·exact Nat.lt_of_lt_of_le (h.olt b _ hb) hE.size
  ·cases e:gc.ow b with
   | none=>rw [e] at hb;cases hb
   | some o'=>exact hc.olt b o' e
 ·have hb:unE f' inv (g.ow b) (gc.ow b)=some (.box id):=hb
  unfold unE at hb
  split at hb
  ·rename_i hh
   exact h.fbox b i _ hb (hE.fnew b i (hfr hh) hf)
  ·cases e:gc.ow b with
   | none=>rw [e] at hb;cases hb
   | some o'=>
    rw [e] at hb
    cases o' with
    | box id'=>exact hc.fbox b i id' e hf
    | frame=>cases hb
    | plc p=>cases p <;> cases hb
    | obj id' i'=>cases hb
theorem AbsCall.embed {P:Program} {k:FuncId} {f f':Nat→Nat} {inv inv':Nat→Option Nat} {n n':Nat} {args:List PV} {σ0 σ σ0' σ':List Bx} {r:PV} (h:AbsCall P k args σ0 r σ0')
  (hm:Emb f inv n σ0 σ) (hm':Emb f' inv' n' σ0' σ') (hff:∀j,j<n→f' j=f j) (hfn:∀j,n≤j→f' j=σ.length+(j - n)) (hii:∀id,id<σ.length→inv' id=inv id)
  (hlen:σ'.length=σ.length+(n' - n)) (hnn:n≤n') (hoth:∀id,id<σ.length→inv id=none→σ'[id]? = σ[id]?)
  (hn:noRefs n args=true) (hb:∀bx∈σ0,noRefB n bx=true) (hr:r.noAl=true):AbsCall P k (rens f args) σ (r.ren f') σ':=by
 intro g us w hi
 refine (h (g.pick f inv n) us w (hi.pick hm hn hb)).mono ?_
 rintro e w' ⟨rv,gc,rfl,h1,h2⟩
 obtain ⟨k1,k2⟩:=hi.unpick hm h1 hr h2 hm' hff hfn hii hlen hnn hoth
 exact ⟨rv,_,rfl,k1,k2⟩
def fmOf (m:List Nat) (j:Nat):Nat:=m.getD j 0
def idxN:List Nat→Nat→Nat→Option Nat
 | [],_,_=>none
 | a :: r,id,k=>match Nat.beq a id with
  | true=>some k
  | false=>idxN r id (k+1)
def inOf (m:List Nat) (id:Nat):Option Nat:=idxN m id 0
theorem idxN_some:∀(m:List Nat) (id k j:Nat),idxN m id k=some j→k≤j∧m[j - k]? = some id
 | [],_,_,_,h=>by cases h
 | a :: r,id,k,j,h=>by
  unfold idxN at h
  split at h
  ·rename_i e
   injection h with h
   subst h
   rw [Nat.sub_self]
   exact ⟨Nat.le_refl _,by rw [Nat.eq_of_beq_eq_true e];rfl⟩
  ·obtain ⟨h1,h2⟩:=idxN_some r id (k+1) j h
   refine ⟨by omega,?_⟩
   obtain ⟨d,hd⟩:∃d,j - k=d+1:=⟨j - k - 1,by omega⟩
   rw [hd,List.getElem?_cons_succ]
   have:j - (k+1)=d:=by omega
   rw [this] at h2
   exact h2
def embOk (m:List Nat):Bool:=(List.range m.length).all fun j=>inOf m (fmOf m j) == some j
theorem emb_of {m:List Nat} {σ0 σ:List Bx} (h1:embOk m=true) (h2:σ0.length=m.length) (h3:σ0.map (fun b=>some (renB (fmOf m) b))=m.map (fun id=>σ[id]?)):Emb (fmOf m) (inOf m) m.length σ0 σ where
 fi j hj:=by
  have:=List.all_eq_true.1 h1 j (List.mem_range.2 hj)
  simpa using this
 iv id j h:=by
  obtain ⟨k1,k2⟩:=idxN_some m id 0 j h
  rw [Nat.sub_zero] at k2
  exact ⟨(List.getElem?_eq_some_iff.1 k2).1,by simp only [fmOf,List.getD_eq_getElem?_getD,k2,Option.getD_some]⟩
 len:=h2
 at_ j bx h:=by
  have hj:j<m.length:=by rw [←h2];exact (List.getElem?_eq_some_iff.1 h).1
  have e1:(σ0.map (fun b=>some (renB (fmOf m) b)))[j]? = some (some (renB (fmOf m) bx)):=by rw [List.getElem?_map,h];rfl
  rw [h3,List.getElem?_map,List.getElem?_eq_getElem hj] at e1
  have e2:σ[m[j]]? = some (renB (fmOf m) bx):=Option.some.inj e1
  rw [←e2]
  simp only [fmOf,List.getD_eq_getElem?_getD,List.getElem?_eq_getElem hj,Option.getD_some]
noncomputable section
def shapeV:Value→Option (PT×List Dyn)
 | .int k n=>some (.lf (.int k),[⟨.int k,n⟩])
 | .bool b=>some (.lf .bool,[⟨.bool,b⟩])
 | .float k x=>some (.lf (.flt k),[⟨.flt k,x⟩])
 | .complex k x y=>some (.lf (.cpx k),[⟨.cpx k,(x,y)⟩])
 | .string s=>some (.lf .str,[⟨.str,s⟩])
 | .nilIface=>some (.nili,[])
 | .tuple vs=>match vs.toList with
  | []=>some (.undef,[])
  | _=>none
 | _=>none
mutual
def shape:PV→Option (PT×List Dyn)
 | .lit v=>shapeV v
 | .ptr id off=>some (.ptr id off,[])
 | .nilp=>some (.nilp,[])
 | .sl fl n xs=>some (.sl fl n xs.sh,[⟨.sl xs.sh,xs.l⟩])
 | .agg cs=>match shapes cs with
  | some (l,d)=>some (.agg l,d)
  | none=>none
 | .tup cs=>match shapes cs with
  | some (l,d)=>some (.tup l,d)
  | none=>none
 | .ifc t x=>match shape x with
  | some (p,d)=>some (.ifc t p,d)
  | none=>none
 | .fn f a b=>match f with
  | .func k=>match shapes a with
   | some (p,d)=>match shapes b with
    | some (q,e)=>some (.fn k p q,d++e)
    | none=>none
   | none=>none
  | _=>none
 | .map id=>some (.mapr id,[])
 | .alias p=>some (.alias p,[])
 | .elem _ _ _=>none
 | .elemv cs off=>match shapes cs with
  | some (l,d)=>some (.elemv l off,d)
  | none=>none
 | .dead=>some (.dead,[])
 | .oref id i=>some (.oref id,[⟨.oix,i⟩])
def shapes:List PV→Option (List PT×List Dyn)
 | []=>some ([],[])
 | x :: r=>match shape x with
  | some (p,d)=>match shapes r with
   | some (q,e)=>some (p :: q,d++e)
   | none=>none
  | none=>none
end
structure ST where
 ts:List (Nat×PT)
 bx:List (TypeId×List PT)
def ST.ls (T:ST):List Sh:=T.ts.flatMap (fun p=>p.2.ls)++T.bx.flatMap fun b=>PT.lss b.2
def shapeT:List (Nat×PV)→Option (List (Nat×PT)×List Dyn)
 | []=>some ([],[])
 | (t,x) :: r=>match shape x with
  | some (p,d)=>match shapeT r with
   | some (q,e)=>some ((t,p) :: q,d++e)
   | none=>none
  | none=>none
def shapeB:List Bx→Option (List (TypeId×List PT)×List Dyn)
 | []=>some ([],[])
 | .cells ty cs :: r=>match shapes cs with
  | some (p,d)=>match shapeB r with
   | some (q,e)=>some ((ty,p) :: q,d++e)
   | none=>none
  | none=>none
 | .fam a l :: r=>match shapeB r with
  | some (q,e)=>some ((0,[.fam a]) :: q,⟨.sl (shA a),l⟩ :: e)
  | none=>none
 | .mp ⟨ks,vs,l⟩ :: r=>match shapeB r with
  | some (q,e)=>some ((0,[.mp ks vs]) :: q,⟨.sl (.cons ks vs),l⟩ :: e)
  | none=>none
def plugT:List (Nat×PT)→List Dyn→Option (List (Nat×PV)×List Dyn)
 | [],ds=>some ([],ds)
 | (t,p) :: r,ds=>match plug p ds with
  | some (x,d)=>match plugT r d with
   | some (q,e)=>some ((t,x) :: q,e)
   | none=>none
  | none=>none
def famPT:List PT→Option (List PT)
 | []=>none
 | x :: r=>match x,r with
  | .fam a,[]=>some a
  | _,_=>none
def mapPT:List PT→Option (Sh×Sh)
 | []=>none
 | x :: r=>match x,r with
  | .mp k v,[]=>some (k,v)
  | _,_=>none
def plugB:List (TypeId×List PT)→List Dyn→Option (List Bx×List Dyn)
 | [],ds=>some ([],ds)
 | (ty,l) :: r,ds=>match famPT l with
  | some a=>(match ds with
   | d :: ds'=>(match castD d (.sl (shA a)) with
    | some x=>(match plugB r ds' with
     | some (q,e)=>some (.fam a x :: q,e)
     | none=>none)
    | none=>none)
   | []=>none)
  | none=>match mapPT l with
   | some (k,v)=>(match ds with
    | d :: ds'=>(match castD d (.sl (.cons k v)) with
     | some x=>(match plugB r ds' with
      | some (q,e)=>some (.mp ⟨k,v,x⟩ :: q,e)
      | none=>none)
     | none=>none)
    | []=>none)
   | none=>match plugs l ds with
    | some (cs,d)=>match plugB r d with
     | some (q,e)=>some (.cells ty cs :: q,e)
     | none=>none
    | none=>none
def St.shape (st:St):Option (ST×List Dyn):=
 match shapeT st.ts with
 | some (p,d)=>match shapeB st.σ with
  | some (q,e)=>some (⟨p,q⟩,d++e)
  | none=>none
 | none=>none
def ST.plug (T:ST) (n:Nat) (ds:List Dyn):Option St:=
 match plugT T.ts ds with
 | some (ts,d)=>match plugB T.bx d with
  | some (σ,[])=>some { ts,n,σ }
  | _=>none
 | none=>none
mutual
def PT.beq:PT→PT→Bool
 | .lf s,y=>match y with
  | .lf t=>decide (s=t)
  | _=>false
 | .sl fl n s,y=>match y with
  | .sl fl' n' t=>decide (fl=fl') && (n == n') && decide (s=t)
  | _=>false
 | .ptr i o,y=>match y with
  | .ptr j p=>Nat.beq i j && Nat.beq o p
  | _=>false
 | .nilp,y=>match y with
  | .nilp=>true
  | _=>false
 | .nili,y=>match y with
  | .nili=>true
  | _=>false
 | .dead,y=>match y with
  | .dead=>true
  | _=>false
 | .undef,y=>match y with
  | .undef=>true
  | _=>false
 | .alias p,y=>match y with
  | .alias q=>decide (p=q)
  | _=>false
 | .agg l,y=>match y with
  | .agg m=>PT.beqs l m
  | _=>false
 | .tup l,y=>match y with
  | .tup m=>PT.beqs l m
  | _=>false
 | .elemv l o,y=>match y with
  | .elemv m p=>PT.beqs l m && Nat.beq o p
  | _=>false
 | .ifc t x,y=>match y with
  | .ifc u z=>Nat.beq t u && PT.beq x z
  | _=>false
 | .fn f a b,y=>match y with
  | .fn g c d=>Nat.beq f g && (PT.beqs a c && PT.beqs b d)
  | _=>false
 | .oref i,y=>match y with
  | .oref j=>Nat.beq i j
  | _=>false
 | .fam l,y=>match y with
  | .fam m=>PT.beqs l m
  | _=>false
 | .mapr i,y=>match y with
  | .mapr j=>Nat.beq i j
  | _=>false
 | .mp a b,y=>match y with
  | .mp c d=>decide (a=c) && decide (b=d)
  | _=>false
def PT.beqs:List PT→List PT→Bool
 | [],m=>match m with
  | []=>true
  | _=>false
 | x :: r,m=>match m with
  | y :: s=>PT.beq x y && PT.beqs r s
  | []=>false
end
def beqT:List (Nat×PT)→List (Nat×PT)→Bool
 | [],m=>match m with
  | []=>true
  | _=>false
 | (t,x) :: r,m=>match m with
  | (u,y) :: s=>Nat.beq t u && (x.beq y && beqT r s)
  | []=>false
def beqB:List (TypeId×List PT)→List (TypeId×List PT)→Bool
 | [],m=>match m with
  | []=>true
  | _=>false
 | (t,x) :: r,m=>match m with
  | (u,y) :: s=>Nat.beq t u && (PT.beqs x y && beqB r s)
  | []=>false
def ST.beq (a b:ST):Bool:=beqT a.ts b.ts && beqB a.bx b.bx
structure OS where
 r:PT
 bx:List (TypeId×List PT)
def OS.ls (o:OS):List Sh:=o.r.ls++o.bx.flatMap fun b=>PT.lss b.2
def OS.beq (a b:OS):Bool:=a.r.beq b.r && beqB a.bx b.bx
def denA:List OS→Type
 | []=>Empty
 | [o]=>(tup o.ls).den
 | o :: p :: r=>(tup o.ls).den⊕denA (p :: r)
structure IS where
 vs:List PT
 bx:List (TypeId×List PT)
def IS.ls (i:IS):List Sh:=PT.lss i.vs++i.bx.flatMap fun b=>PT.lss b.2
structure KO where
 alts:List PT
 name:String
 args:List PT
 res:PT
 model:(shA alts).den→(tup (PT.lss args)).den→Option ((tup res.ls).den×(shA alts).den)
structure KF where
 inp:IS
 outs:List OS
 pure:Bool:=true
 model:(tup inp.ls).den→Option (denA outs)
def ifO {α:Type} (b:Bool) (o:Option α):Option α:=
 match b with
 | true=>o
 | false=>none
def orO {α β:Type} (b:Bool) (x:Option α) (y:Option β):Option (α⊕β):=
 match b with
 | true=>x.map .inl
 | false=>y.map .inr
def orA {α β:Type} (b:Bool) (x:Option α) (y:Option β):Option (α⊕β):=
 match b with
 | true=>(match x with
  | some a=>some (Sum.inl a)
  | none=>none)
 | false=>(match y with
  | some a=>some (Sum.inr a)
  | none=>none)
def fitO (o:OS) (f:OS→Option (OS×List Dyn)):Bool×List Dyn:=
 match f o with
 | some (x,ds)=>(o.beq x,ds)
 | none=>(false,[])
def inj:(outs:List OS)→(OS→Option (OS×List Dyn))→Option (denA outs)
 | [],_=>none
 | [o],f=>ifO (fitO o f).1 (pack o.ls (fitO o f).2)
 | o :: p :: r,f=>orO (fitO o f).1 (pack o.ls (fitO o f).2) (inj (p :: r) f)
def bxV:Bx→Option PV
 | .cells ty cs=>some (.ifc ty (.agg cs))
 | _=>none
def bxsV:List Bx→Option (List PV)
 | []=>some []
 | b :: r=>match bxV b with
  | some x=>match bxsV r with
   | some l=>some (x :: l)
   | none=>none
  | none=>none
def injA:(alts:List PT)→PT→List Dyn→Option (shA alts).den
 | [],_,_=>none
 | [a],p,ds=>ifO (a.beq p) (pack a.ls ds)
 | a :: b :: r,p,ds=>orA (a.beq p) (pack a.ls ds) (injA (b :: r) p ds)
def closeA (alts:List PT) (r:PV) (σ:List Bx):Option (shA alts).den:=
 match bxsV σ with
 | some bs=>match shape (.tup (r :: bs)) with
  | some (p,ds)=>injA alts p ds
  | none=>none
 | none=>none
def elimO {R:Type}:(alts:List PT)→(shA alts).den→(PT→List Dyn→Option R)→Option R
 | [],_,_=>none
 | [a],x,k=>k a (unpack a.ls x)
 | a :: b :: r,x,k=>Sum.rec (motive:=fun _=>Option R) (fun y=>k a (unpack a.ls y)) (fun y=>elimO (b :: r) y k) (show (tup a.ls).den⊕(shA (b :: r)).den from x)
def elimA {R:Type}:(outs:List OS)→denA outs→(OS→List Dyn→Option R)→Option R
 | [],_,_=>none
 | [o],x,k=>k o (unpack o.ls x)
 | o :: p :: r,x,k=>Sum.rec (motive:=fun _=>Option R) (fun a=>k o (unpack o.ls a)) (fun b=>elimA (p :: r) b k) (show (tup o.ls).den⊕denA (p :: r) from x)
structure LH where
 keep:Option (List Nat):=none
 excl:List Nat:=[]
 nz:List (Nat×TypeId×Sh):=[]
 deriving Inhabited
structure DS where
 T:List Nat
 chg:Bool:=false
 deriving Inhabited
structure DH where
 frz:List Nat
 lin:List Nat
 fz:List Nat
 steps:List DS
 deriving Inhabited
structure TC where
 C:Ctx
 kn:FuncId→List KF
 fu:Nat
 lp:Nat→LH
 dr:Nat→Option DH
 can:TypeId→List (Nat×Nat×TypeId×Sh)
 tt:Nat→Option (TypeId×Sh)
 lv:List Nat:=[]
 vw:List Nat:=[]
 ko:List KO:=[]
 nv:Nat→List (Plc×Nat×TypeId×Sh):=fun _=>[]
def firstReg:Code→Option Nat
 | .region id _ _=>some id
 | .seq a b=>match firstReg a with
  | some i=>some i
  | none=>firstReg b
 | .cond _ a b=>match firstReg a with
  | some i=>some i
  | none=>firstReg b
 | .block _ c=>firstReg c
 | .loop c=>firstReg c
 | _=>none
end
end Go.AM
namespace Go.AM
noncomputable section
def strI (s:ByteArray) (i:Int):Option Int:=if 0≤i then (s[i.toNat]?).map (fun b=>(b.toNat:Int)) else none
def f2i (k:IntKind) (x:Nat):Option Int:=
 match (FloatKind.f64.decode x).toInt .zero with
 | some n=>if k.min≤n∧n≤k.max then some n else none
 | none=>none
def fadd (a b:Nat):Option Nat:=FloatKind.f64.format.add a b
def grd {R:Type} (b:Bool) (k:Option R):Option R:=cond b k none
variable {R:Type}
def setDK (st:St) (d:Option Tmp) (x:PV) (k:St→Option R):Option R:=
 match st.setD d x with
 | some s=>k s
 | none=>none
def setAK (st:St) (d:Option Tmp) (x:PV) (k:St→Option R):Option R:=
 match st.setAddr d x with
 | some s=>k s
 | none=>none
def orK (o:Option St) (k:St→Option R):Option R:=
 match o with
 | some s=>k s
 | none=>none
def indexAddrK (P:Program) (st:St) (t:TypeId) (x i:Operand) (d:Option Tmp) (k:St→Option R):Option R:=
 match P.underlying t with
 | some (.slice e)=>match st.int i,szOf P e,st.sl x with
  | some i,some n,some (false,xs)=>if xs.sh.size=n then (match st.plc x with
    | some q=>(nthI xs.l i).bind fun _=>setAK st d (.elem q i.toNat 0) k
    | none=>(nthI xs.l i).bind fun y=>setAK st d (.elemv (xs.sh.cells y) 0) k) else none
  | _,_,_=>none
 | some (.array len e)=>match st.int i,szOf P e,st.peek x with
  | some i,some n,some y=>match addOff y (i.toNat*n) with
   | some z=>grd (decide (0≤i∧i<len)) (setAK st d z k)
   | none=>none
  | _,_,_=>none
 | _=>none
def listOf (s:Sh):List PV→Option (List s.den)
 | []=>some []
 | x :: r=>match s.of [x] with
  | some y=>match listOf s r with
   | some l=>some (y :: l)
   | none=>none
  | none=>none
def isArr (P:Program) (t:TypeId):Bool:=
 match P.underlying t with
 | some (.array _ _)=>true
 | _=>false
def loadK (C:Ctx) (st:St) (t:TypeId) (a:Operand) (d:Option Tmp) (k:St→Option R):Option R:=
 match st.peek a with
 | some (.elem q j off)=>match contentAt st q with
  | some (.sl fl false xs)=>if fl.isOwn then (xs.l[j]?).bind fun y=>(match partOf C.P t (xs.sh.cells y) off with
    | some x=>setDK st d x k
    | none=>none) else none
  | _=>none
 | some (.ptr id off)=>match st.σ[id]?,aggT C.P t with
  | some (.cells ty cs),some false=>if isArr C.P ty && (C.sh t).scalar then (match listOf (C.sh t) cs with
    | some l=>(l[off]?).bind fun y=>(match (C.sh t).cells y with
     | [x]=>setDK st d x k
     | _=>none)
    | none=>none) else orK (evLoad C.P st t a d) k
  | _,_=>orK (evLoad C.P st t a d) k
 | _=>orK (evLoad C.P st t a d) k
def storeK (C:Ctx) (st:St) (t:TypeId) (a x:Operand) (d:Option Tmp) (k:St→Option R):Option R:=
 match st.peek a,szOf C.P t with
 | some (.elem p j off),some n=>match st.use x with
  | some (y,st1)=>if y.cells.length=n then (match contentAt st1 p with
   | some (.sl (.excl e) false xs)=>if off+y.cells.length≤xs.sh.size∧y.cells.all PV.one=true then (xs.l[j]?).bind fun z=>(match xs.sh.of (setRange (xs.sh.cells z) off y.cells) with
     | some z'=>setDK (st1.putP p (.sl (.excl e) false ⟨xs.sh,xs.l.set j z'⟩)) d (.lit undef) k
     | none=>none) else none
   | _=>none) else none
  | none=>none
 | _,_=>match evStore C.P st t a x with
  | some st1=>setDK st1 d (.lit undef) k
  | none=>none
def sliceK (P:Program) (st:St) (t:TypeId) (x:Operand) (lo hi mx:Option Operand) (d:Option Tmp) (k:St→Option R):Option R:=
 match P.underlying t,mx with
 | some (.slice e),none=>
  match szOf P e,(match lo with | some o=>st.int o | none=>some 0),(match hi with | some o=>st.int o | none=>(st.sl x).map fun p=>(p.2.l.length:Int)),st.use x with
  | some sz,some l,some h,some (.sl .view n xs,st1)=>if xs.sh.size=sz∨n=true then (sliceI xs.l l h).bind fun m=>setDK st1 d (.sl .view n ⟨xs.sh,m⟩) k else none
  | _,_,_,_=>none
 | _,_=>none
def appendK (C:Ctx) (st:St) (tys:Array TypeId) (s x:Operand) (d:Option Tmp) (k:St→Option R):Option R:=
 match tys[0]?,tys[1]? with
 | some ts,some tx=>match C.P.underlying ts,C.P.underlying tx with
  | some (.slice e),some ux=>if isIntT ux=true then none else
   match C.P.info? e,st.peek s with
   | some i,some (.sl fl nil xs)=>match elemsOf st i.size x with
    | some ys=>if 0<i.bytes∧zeroFits i=true then
      (match nil with
      | true=>(match d with
       | some t=>grd (decide (optLen ys*i.bytes≤2 ^ 46)) (setDK st (some t) (.sl (.excl e) false (appN (C.sh e) ys)) k)
       | none=>none)
      | false=>if fl.isOwn∧fl.e=e then (match st.plc s,d,appX xs ys with
       | some p,some t,some zs=>if t<st.n∧p≠.tmp t then grd (decide ((xs.l.length+optLen ys)*i.bytes≤2 ^ 46)) (k ((st.setP p .dead).setP (.tmp t) (.sl fl false zs))) else none
       | _,_,_=>none)
      else none) else none
    | none=>none
   | _,_=>none
  | _,_=>none
 | _,_=>none
def binK (P:Program) (st:St) (op:BinOp) (t:TypeId) (x y:Operand) (d:Option Tmp) (k:St→Option R):Option R:=
 match st.peek x,st.peek y with
 | some (.lit (.int kx a)),some (.lit (.int ky b))=>match op with
  | .shl=>grd (!decide (b<0)) (setDK st d (.lit (.int kx (kx.wrap (a*2 ^ (min b.toNat kx.bits))))) k)
  | .shr=>grd (!decide (b<0)) (setDK st d (.lit (.int kx (a.fdiv (2 ^ (min b.toNat kx.bits))))) k)
  | .quo=>if kx≠ky then none else grd (!decide (b=0)) (setDK st d (.lit (.int kx (kx.wrap (a.tdiv b)))) k)
  | .rem=>if kx≠ky then none else grd (!decide (b=0)) (setDK st d (.lit (.int kx (a.tmod b))) k)
  | _=>orK (evBin P st op t x y d) k
 | some (.lit (.complex .f64 a b)),some (.lit (.complex .f64 c e))=>match op with
  | .add=>(fadd a c).bind fun r=>(fadd b e).bind fun i=>setDK st d (.lit (.complex .f64 r i)) k
  | _=>orK (evBin P st op t x y d) k
 | some (.sl _ false xs),some (.sl _ true _)=>match isNilC y,eqOp op,P.underlying t with
  | true,some b,some (.slice _)=>grd (Nat.blt 0 xs.l.length) (setDK st d (.lit (.bool b)) k)
  | _,_,_=>none
 | some (.sl _ true xs),some (.sl _ true ys)=>grd (Nat.beq ys.l.length 0) (grd (Nat.beq xs.l.length 0) (match det P (do eqGuard op t x y (.slice none 0 0) (.slice none 0 0);binOp op t (.slice none 0 0) (.slice none 0 0)) with
  | some r=>setDK st d (constPV r) k
  | none=>none))
 | _,_=>orK (evBin P st op t x y d) k
def indexK (C:Ctx) (st:St) (t:TypeId) (x i:Operand) (d:Option Tmp) (k:St→Option R):Option R:=
 match st.peek x with
 | some (.lit (.string s))=>match st.int i,C.P.underlying t with
  | some i,some .string=>(strI s i).bind fun c=>setDK st d (.lit (.int .u8 c)) k
  | _,_=>none
 | some (.agg cs)=>match st.int i,C.P.underlying t with
  | some i,some (.array len e)=>match listOf (C.sh e) cs,szOf C.P e,aggT C.P e with
   | some l,some 1,some false=>if (C.sh e).scalar && Nat.beq cs.length len then (nthI l i).bind fun y=>(match (C.sh e).cells y with
     | [z]=>setDK st d z k
     | _=>none) else none
   | _,_,_=>none
  | _,_=>none
 | _=>none
def litB (st:St) (t:Nat) (b:Bool):St:={ st with ts:=upd st.ts t (.lit (.bool b)) }
def litO (st:St) (o:Operand) (b:Bool):St:=
 match o with
 | .tmp t=>(match lkp st.ts t with
  | .lit (.bool _)=>litB st t b
  | _=>st)
 | _=>st
def pickK (st:St) (c a b:Operand) (d:Option Tmp) (k:St→Option R):Option R:=
 match st.bool c with
 | some w=>cond w (match st.peek a with
   | some (.lit v)=>setDK (litO st c true) d (.lit v) k
   | _=>none) (match st.peek b with
   | some (.lit v)=>setDK (litO st c false) d (.lit v) k
   | _=>none)
 | none=>none
def convertK (P:Program) (st:St) (s t:TypeId) (x:Operand) (d:Option Tmp) (k:St→Option R):Option R:=
 match st.peek x with
 | some (.lit (.float .f64 b))=>match P.underlying s,P.underlying t with
  | some (.float .f64),some (.int q)=>(f2i q b).bind fun n=>setDK st d (.lit (.int q n)) k
  | _,_=>orK (evConvert P st s t x d) k
 | _=>orK (evConvert P st s t x d) k
mutual
def nilW:PT→PV→PV
 | .sl fl n s,x=>match fl,n,x with
  | .view,false,.sl .view true _=>.sl .view false ⟨s,[]⟩
  | _,_,x=>x
 | .agg ts,x=>match x with
  | .agg xs=>.agg (nilWs ts xs)
  | x=>x
 | .tup ts,x=>match x with
  | .tup xs=>.tup (nilWs ts xs)
  | x=>x
 | _,x=>x
def nilWs:List PT→List PV→List PV
 | [],xs=>xs
 | t :: ts,xs=>match xs with
  | x :: xs=>nilW t x :: nilWs ts xs
  | []=>[]
end
def nilR (t:PT) (x:PV):PV:=
 match t,x with
 | .sl fl false s,.sl _ true _=>.sl fl false ⟨s,[]⟩
 | t,x=>nilW t x
def nilAs:List PT→List PV→List PV
 | [],xs=>xs
 | t :: ts,xs=>match xs with
  | x :: xs=>nilR t x :: nilAs ts xs
  | []=>[]
mutual
def PT.ren (f:Nat→Nat):PT→PT
 | .lf s=>.lf s
 | .sl fl n s=>.sl fl n s
 | .ptr id off=>.ptr (f id) off
 | .nilp=>.nilp
 | .nili=>.nili
 | .dead=>.dead
 | .undef=>.undef
 | .alias p=>.alias p
 | .agg l=>.agg (PT.rens f l)
 | .tup l=>.tup (PT.rens f l)
 | .elemv l o=>.elemv (PT.rens f l) o
 | .ifc t x=>.ifc t (PT.ren f x)
 | .fn k a b=>.fn k (PT.rens f a) (PT.rens f b)
 | .oref id=>.oref (f id)
 | .fam a=>.fam a
 | .mapr id=>.mapr (f id)
 | .mp k v=>.mp k v
def PT.rens (f:Nat→Nat):List PT→List PT
 | []=>[]
 | x :: r=>PT.ren f x :: PT.rens f r
end
def renPB (f:Nat→Nat):List (TypeId×List PT)→List (TypeId×List PT)
 | []=>[]
 | (t,l) :: r=>(t,PT.rens f l) :: renPB f r
mutual
def pairs:PT→PV→List (Nat×Nat)
 | .ptr j _,x=>match x with
  | .ptr id _=>[(j,id)]
  | _=>[]
 | .agg l,x=>match x with
  | .agg cs=>pairss l cs
  | _=>[]
 | .tup l,x=>match x with
  | .tup cs=>pairss l cs
  | _=>[]
 | .elemv l _,x=>match x with
  | .elemv cs _=>pairss l cs
  | _=>[]
 | .ifc _ y,x=>match x with
  | .ifc _ z=>pairs y z
  | _=>[]
 | .fn _ a b,x=>match x with
  | .fn _ c d=>pairss a c++pairss b d
  | _=>[]
 | .oref j,x=>match x with
  | .oref id _=>[(j,id)]
  | _=>[]
 | .mapr j,x=>match x with
  | .map id=>[(j,id)]
  | _=>[]
 | _,_=>[]
def pairss:List PT→List PV→List (Nat×Nat)
 | [],_=>[]
 | t :: ts,xs=>match xs with
  | x :: xs=>pairs t x++pairss ts xs
  | []=>[]
end
def lookN:List (Nat×Nat)→Nat→Nat
 | [],_=>0
 | (a,b) :: r,j=>match Nat.beq a j with
  | true=>b
  | false=>lookN r j
def gather (σ:List Bx):List (TypeId×List PT)→List (Nat×Nat)→Nat→List Nat
 | [],_,_=>[]
 | (_,l) :: r,ps,j=>match σ[lookN ps j]? with
  | some (.cells _ cs)=>lookN ps j :: gather σ r (ps++pairss l cs) (j+1)
  | some (.fam _ _)=>lookN ps j :: gather σ r ps (j+1)
  | some (.mp _)=>lookN ps j :: gather σ r ps (j+1)
  | _=>[]
def pickBx (σ:List Bx):List Nat→Option (List Bx)
 | []=>some []
 | id :: r=>match σ[id]? with
  | some b=>match pickBx σ r with
   | some l=>some (b :: l)
   | none=>none
  | none=>none
def setBxs (σ:List Bx) (m:List Nat) (τ:List Bx):List Bx:=(List.range σ.length).map fun id=>match inOf m id with
 | some j=>τ.getD j (.mp default)
 | none=>σ.getD id (.mp default)
def newF (m:List Nat) (len j:Nat):Nat:=if j<m.length then fmOf m j else len+(j - m.length)
def tryK (C:TC) (bxs:Bool) (st1:St) (N:Nat) (d:Option Tmp) (xs:List PV) (k:St→Option R):List KF→Option R
 | []=>none
 | kf :: r=>match shapes (nilAs kf.inp.vs xs),kf.pure with
  | some (vs,ds),true=>if PT.beqs vs kf.inp.vs && (kf.inp.bx.isEmpty && noRefs 0 (nilAs kf.inp.vs xs)) then (match pack kf.inp.ls ds with
    | some a=>(kf.model a).bind fun res=>elimA kf.outs res fun o ds=>(match plug o.r ds with
     | some (y,_)=>if y.noAl=true∧y.isDead=false∧o.bx.isEmpty then orK (afterCall st1 N d y st1.σ) k else none
     | none=>none)
    | none=>none) else tryK C bxs st1 N d xs k r
  | some (vs,ds),false=>nrm (gather st1.σ kf.inp.bx (pairss kf.inp.vs (nilAs kf.inp.vs xs)) 0) fun m=>(match pickBx st1.σ m with
   | some σp=>match shapeB σp with
    | some (bs,es)=>if bxs && (PT.beqs vs (PT.rens (fmOf m) kf.inp.vs) && (beqB bs (renPB (fmOf m) kf.inp.bx) && (embOk m && m.all fun id=>Nat.blt id st1.σ.length))) then (match pack kf.inp.ls (ds++es),plugs kf.inp.vs (ds++es),plugB kf.inp.bx es with
      | some a,some (args0,_),some (σ0,_)=>if noRefs m.length args0 && σ0.all (noRefB m.length) then (kf.model a).bind fun res=>elimA kf.outs res fun o ds=>(match plug (PT.ren (newF m st1.σ.length) o.r) ds with
        | some (y,r1)=>match plugB (renPB (newF m st1.σ.length) o.bx) r1 with
         | some (τ,_)=>if y.noAl=true∧y.isDead=false∧m.length≤τ.length then nrmB (setBxs st1.σ m τ++τ.drop m.length) fun σ'=>orK (afterCall st1 N d y σ') k else none
         | none=>none
        | none=>none) else none
      | _,_,_=>none) else tryK C bxs st1 N d xs k r
    | none=>tryK C bxs st1 N d xs k r
   | none=>tryK C bxs st1 N d xs k r)
  | none,_=>tryK C bxs st1 N d xs k r
def koEnd (alts:List PT) (res:PT) (r:PV) (n:Nat) (y:PV) (σ':List Bx):Option ((tup res.ls).den×(shA alts).den):=
 match shape (nilR res y) with
 | some (p,d)=>if p.beq res && Nat.beq σ'.length n then both (pack res.ls d) (closeA alts r σ') else none
 | none=>none
def koRun (C:TC) (alts:List PT) (name:String) (args:List PT) (res:PT) (x:(shA alts).den) (a:(tup (PT.lss args)).den):Option ((tup res.ls).den×(shA alts).den):=
 elimO alts x fun alt ds=>match openAlt alt ds with
  | some (r,σ)=>(match plugs args (unpack (PT.lss args) a) with
   | some (xs,[])=>(match r with
    | .ifc T v=>(match recvOf C.C.P { ts:=number 0 (.ifc T v :: xs),n:=(PV.ifc T v :: xs).length,σ } T v name with
     | some (f,rx)=>if (rx :: xs).all PV.noAl then tryK C true { ts:=[],n:=1,σ } 1 (some 0) (rx :: xs) (fun s=>koEnd alts res (.ifc T v) σ.length (lkp s.ts 0) s.σ) (C.kn f) else none
     | none=>none)
    | _=>none)
   | _=>none)
  | none=>none
def noRootL (l:List PV):Bool:=l.all fun x=>match x.root with
 | some _=>false
 | none=>true
def ownT:PT→Bool
 | .sl fl _ _=>fl.isOwn
 | _=>false
def mvOf (l:List KF) (j:Nat):Bool:=
 match l with
 | kf :: _=>ownT (kf.inp.vs.getD j .dead)
 | []=>false
def keepA (st:St) (m:Bool) (o:Operand):Bool:=
 match o with
 | .tmp t=>(match lkp st.ts t with
  | .alias (.cell id off)=>!m && (match contentAt st (.cell id off) with
   | some (.sl (.own _) false _)=>true
   | _=>false)
  | _=>true)
 | _=>true
def keepAs (st:St) (mv:Nat→Bool):Nat→List (PV⊕Operand)→Bool
 | _,[]=>true
 | j,a :: r=>(match a with
  | .inl _=>true
  | .inr o=>keepA st (mv j) o) && keepAs st mv (j+1) r
def callWK (C:TC) (bxs:Bool) (st:St) (id:FuncId) (first captured:List PV) (args:List Operand) (d:Option Tmp) (k:St→Option R):Option R:=
 if args.all (opLt st.n) && ((noRootL first && noRootL captured) && (bxs || keepAs { ts:=cutN st.n st.ts,n:=st.n+(first.length+args.length+captured.length),σ:=st.σ } (mvOf (C.kn id)) 0 (first.map .inl++args.map .inr++captured.map .inl))) then match ({ ts:=cutN st.n st.ts,n:=st.n+(first.length+args.length+captured.length),σ:=st.σ }:St).passL (mvOf (C.kn id)) st.n 0 (first.map .inl++args.map .inr++captured.map .inl) with
 | some st1=>nrmVs (getArgs st1.ts st.n (first.length+args.length+captured.length)) fun xs=>
  if xs.all PV.noAl then tryK C bxs st1 st.n d xs k (C.kn id) else none
 | none=>none else none
def callK (C:TC) (bxs:Bool) (st:St) (f:Operand) (args:List Operand) (d:Option Tmp) (k:St→Option R):Option R:=
 match st.peek f with
 | some (.fn (.func id) first captured)=>callWK C bxs st id first captured args d k
 | _=>none
def findKO:List KO→List PT→String→Option KO
 | [],_,_=>none
 | ko :: r,alts,name=>if PT.beqs ko.alts alts && ko.name == name then some ko else findKO r alts name
def objK (st1:St) (N:Nat) (d:Option Tmp) (id i:Nat) (ys:List PV) (ko:KO) (l:List (shA ko.alts).den) (k:St→Option R):Option R:=
 match shapes ys with
 | some (vs,ds)=>if PT.beqs vs ko.args && ys.all (fun y=>noRef 0 y && (y.plain && !y.isOwn)) then (match pack (PT.lss ko.args) ds with
  | some a=>(l[i]?).bind fun x=>(ko.model x a).bind fun res=>(match plug ko.res (unpack ko.res.ls (Prod.fst res)) with
   | some (y,[])=>if (y.noAl && !y.isDead) && noRef 0 y then nrmB (st1.σ.set id (.fam ko.alts (l.set i (Prod.snd res)))) fun σ'=>orK (afterCall st1 N d y σ') k else none
   | _=>none)
  | none=>none) else none
 | none=>none
def invokeO (C:TC) (st:St) (id i:Nat) (name:String) (args:List Operand) (d:Option Tmp) (k:St→Option R):Option R:=
 if args.all (opLt st.n) then match ({ ts:=cutN st.n st.ts,n:=st.n+(1+args.length+0),σ:=st.σ }:St).passL (fun _=>false) st.n 0 (.inl (.oref id i) :: (args.map .inr++[])) with
 | some st1=>nrmVs (getArgs st1.ts st.n (1+args.length+0)) fun xs=>if xs.all PV.noAl then (match xs with
  | x0 :: ys=>(match x0 with
   | .oref id' i'=>(match st1.σ[id']? with
    | some (.fam alts l)=>(match findKO C.ko alts name with
     | some ko=>(match castD ⟨.sl (shA alts),l⟩ (.sl (shA ko.alts)) with
      | some l'=>objK st1 st.n d id' i' ys ko l' k
      | none=>none)
     | none=>none)
    | _=>none)
   | _=>none)
  | []=>none) else none
 | none=>none else none
def invokeK (C:TC) (bxs:Bool) (st:St) (recv:Operand) (name:String) (args:List Operand) (d:Option Tmp) (k:St→Option R):Option R:=
 match st.peek recv with
 | some (.ifc T v)=>match recvOf C.C.P st T v name with
  | some (id,x)=>if x.noAl then callWK C bxs st id [x] [] args d k else none
  | none=>none
 | some (.oref id i)=>if bxs then invokeO C st id i name args d k else none
 | _=>none
def opK (C:TC) (bxs:Bool) (o:Oper) (st:St) (k:St→Option R):Option R:=
 match o.op with
 | .indexAddr t x i=>indexAddrK C.C.P st t x i o.dst k
 | .load t a=>loadK C.C st t a o.dst k
 | .store t a x=>storeK C.C st t a x o.dst k
 | .slice t x lo hi mx=>sliceK C.C.P st t x lo hi mx o.dst k
 | .binOp op t x y _=>binK C.C.P st op t x y o.dst k
 | .index t x i=>indexK C.C st t x i o.dst k
 | .pick c a b=>pickK st c a b o.dst k
 | .convert s t x=>convertK C.C.P st s t x o.dst k
 | .call c=>match c.callee with
  | .value f=>callK C bxs st f c.args.toList o.dst k
  | .invoke f name=>invokeK C bxs st f name c.args.toList o.dst k
  | .builtin .append=>match c.args.toList with
   | [s,x]=>appendK C.C st c.argTypes s x o.dst k
   | _=>none
  | _=>orK (evOp C.C o st) k
 | _=>orK (evOp C.C o st) k
def wantK (ops:Array Oper) (o:Oper) (st:St) (k:Bool→St→Option R):Option R:=
 match o.guard with
 | none=>k true st
 | some (j,want)=>match ops[j]? with
  | some p=>match p.dst with
   | some t=>match st.get t with
    | some (.lit (.bool b))=>cond b (k (true == want) (litB st t true)) (k (false == want) (litB st t false))
    | some (.lit _)=>k false st
    | _=>none
   | none=>k false st
  | none=>k false st
def ownTmp (st:St) (x:Operand):Option Tmp:=
 match st.plc x with
 | some (.tmp s)=>some s
 | _=>none
def St.partsB (st:St):List (Nat×Operand)→Option (List (Nat×List PV)×St)
 | []=>some ([],st)
 | (i,x) :: rest=>match ownTmp st x with
  | some s=>(match st.partsB rest with
   | some (ys,st2)=>some ((i,[.alias (.tmp s)]) :: ys,st2)
   | none=>none)
  | none=>match st.use x with
   | some (y,st1)=>match st1.partsB rest with
    | some (ys,st2)=>some ((i,y.cells) :: ys,st2)
    | none=>none
   | none=>none
def evBuildB (P:Program) (st:St) (t:TypeId) (ps:Array (Nat×Operand)):Option (List PV×St):=
 match zeroPV P t,st.partsB ps.toList with
 | some zs,some (ys,st1)=>match P.underlying t with
  | some (.struct fs)=>match fieldPlaces P fs.toList with
   | some pl=>match fillP (pl[·]?) zs ys with
    | some cs=>some (cs,st1)
    | none=>none
   | none=>none
  | _=>none
 | _,_=>none
def St.movesB (id:Nat):Nat→List PV→St→Option St
 | _,[],st=>some st
 | off,x :: l,st=>match x with
  | .alias (.tmp s)=>(match contentAt st (.tmp s) with
   | some (.sl fl n xs)=>if fl.isOwn then St.movesB id (off+1) l ((st.setP (.tmp s) .dead).setP (.cell id off) (.sl fl n xs)) else none
   | _=>none)
  | .alias _=>none
  | _=>St.movesB id (off+1) l st
def unA (x:PV):PV:=
 match x with
 | .alias _=>.dead
 | x=>x
def evBB (P:Program) (st:St) (t:TypeId) (ps:Array (Nat×Operand)) (a:Tmp) (t2:TypeId) (d:Option Tmp):Option St:=
 match evBuildB P st t ps with
 | some (cs,st1)=>match st1.get a with
  | some .dead=>match St.movesB st1.σ.length 0 cs { st1 with σ:=st1.σ++[.cells t2 (cs.map unA)] } with
   | some st2=>st2.setD d (.ptr st1.σ.length 0)
   | none=>none
  | _=>none
 | none=>none
def bbOf (C:TC) (o:Oper) (rest:List Oper) (st:St):Option St:=
 match o.op,rest with
 | .build t ps,o2 :: _=>match o2.op,o.dst,o.guard,o2.guard with
  | .box t2 (.tmp a),some b,none,none=>if Nat.beq a b && ps.toList.any (fun p=>(ownTmp st p.2).isSome) then evBB C.C.P st t ps a t2 o2.dst else none
  | _,_,_,_=>none
 | _,_=>none
def St.leave (a:Nat) (st:St):St:=
 match st.get a with
 | some (.alias (.tmp u))=>(match contentAt st (.tmp u) with
  | some (.sl fl false xs)=>if fl.isOwn && !Nat.beq u a then (((st.putP (.tmp u) (.sl (.own fl.e) false xs)).setP (.tmp u) .dead).setP (.tmp a) (.sl (.own fl.e) false xs)).setP (.tmp u) (.sl .view false xs) else st
  | _=>st)
 | _=>st
def leaveOf (C:TC) (o:Oper):Option Nat:=
 match o.op with
 | .call c=>match c.callee,c.args.toList with
  | .builtin .append,.tmp a :: _=>if C.lv.contains a then some a else none
  | _,_=>none
 | _=>none
def opLK (C:TC) (o:Oper) (st:St) (k:St→Option R):Option R:=
 match leaveOf C o with
 | some a=>nrmS true (st.leave a) fun st=>opK C true o st k
 | none=>opK C true o st k
def opsK (C:TC) (ops:Array Oper):List Oper→St→(St→Option R)→Option R
 | [],st,k=>k st
 | o :: rest,st,k=>match bbOf C o rest st with
  | some st1=>(match rest with
   | _ :: rest2=>nrmS true st1 fun st1=>opsK C ops rest2 st1 k
   | []=>none)
  | none=>wantK ops o st fun b st=>match b with
   | true=>opLK C o st fun st1=>nrmS (touches o.op) st1 fun st1=>opsK C ops rest st1 k
   | false=>setDK st o.dst (.lit undef) fun st1=>nrmS false st1 fun st1=>opsK C ops rest st1 k
def rootIn (T:List Nat) (x:PV):Bool:=
 match x.root with
 | some (.tmp s)=>T.contains s
 | _=>true
def delAll:List Nat→List (Nat×PV)→List (Nat×PV)
 | [],l=>l
 | t :: r,l=>delAll r (del l t)
def turns (fz:List Nat) (s:DS) (o:Oper):List Nat:=s.T.filter fun t=>!fz.contains t || o.dst == some t
def nrmN {β:Type} (n:Nat) (k:Nat→β):β:=Nat.rec (motive:=fun _=>β) (k 0) (fun m _=>k (m+1)) n
theorem nrmN_eq {β:Type} (n:Nat) (k:Nat→β):nrmN n k=k n:=by cases n <;> rfl
def cloF {β:Type} (l:List Oper):List Nat→(List Nat→β)→β:=
 List.rec (motive:=fun _=>List Nat→(List Nat→β)→β) (fun tb k=>k tb) (fun o _ ih tb k=>nrmN (cloRow tb o) fun m=>nrm (tb++[m]) fun tb=>ih tb k) l
theorem cloF_eq {β:Type} (l:List Oper):∀(tb:List Nat) (k:List Nat→β),cloF l tb k=k (clo l tb):=by
 induction l with
 | nil=>intro tb k;rfl
 | cons o r ih=>intro tb k;exact (nrmN_eq (cloRow tb o) fun m=>nrm (tb++[m]) fun tb=>cloF r tb k).trans ((nrm_eq _ _).trans (ih _ _))
def bndC (cl:List Nat) (j i:Nat):Bool:=(cl.getD j 0).testBit i
def loC (cl:List Nat) (m:Nat) (chg:Nat→Bool) (j:Nat):Nat:=cntTo (fun i=>chg i && (decide (i<j) && bndC cl j i)) m
def hiC (cl:List Nat) (m:Nat) (chg:Nat→Bool) (j:Nat):Nat:=cntTo (fun i=>chg i && (!Nat.beq i j && !(decide (j<i) && bndC cl i j))) m
def loF (ops:Array Oper) (chg:Nat→Bool) (j:Nat):Nat:=cntTo (fun i=>chg i && (decide (i<j) && bnd ops j i)) ops.size
def hiF (ops:Array Oper) (chg:Nat→Bool) (j:Nat):Nat:=cntTo (fun i=>chg i && (!Nat.beq i j && !(decide (j<i) && bnd ops i j))) ops.size
def isFz (fz:List Nat) (o:Oper):Bool:=
 match o.dst with
 | some d=>fz.contains d
 | none=>false
def plainF (x:PV):Bool:=x.isDead || (x.plain && !x.isOwn)
def allJ (m:Nat) (p:Nat→Bool):Bool:=(List.range m).all p
structure DV where
 tss:List (List (Nat×PV))
 Ts:List (List Nat)
 chgs:List Bool
 fz:List Nat
def DV.ts (v:DV) (j:Nat):List (Nat×PV):=v.tss.getD j []
def DV.T (v:DV) (j:Nat):List Nat:=v.Ts.getD j []
def DV.chg (v:DV) (j:Nat):Bool:=v.chgs.getD j false
def DV.W (v:DV) (ops:Array Oper) (j t:Nat):Bool:=(v.T j).contains t && (!v.fz.contains t || dstOf ops j == some t)
def okDraw (ops:Array Oper) (v:DV):Bool:=
 allJ ops.size (fun j=>match ops[j]? with
  | some o=>o.after.toList.all fun e=>!Region.binds .any e || Nat.blt e.on j
  | none=>true) &&
 (allJ ops.size (fun j=>allJ j fun i=>(v.T i).all fun t=>!((v.T j).contains t && (v.W ops i t || v.W ops j t)) || bnd ops j i) &&
 (allJ ops.size (fun j=>(v.T j).all fun t=>rootIn (v.T j) (lkp (v.ts j) t) && rootIn (v.T j) (lkp (v.ts (j+1)) t)) &&
 (allJ (ops.size+1) (fun i=>(v.ts i).all fun p=>match p.2.root with
  | some (.tmp s)=>!v.fz.contains s && allJ ops.size fun j=>!(Nat.ble i j && (v.T j).contains s) || (v.T j).contains p.1
  | some (.cell _ _)=>allJ ops.size fun j=>!(Nat.ble i j && v.chg j) || (v.T j).contains p.1
  | none=>true) &&
 (allJ ops.size (fun j=>!v.chg j || allJ ops.size fun k=>!Nat.blt j k || (v.T k).all fun t=>match (lkp (v.ts (k+1)) t).root with
  | some (.cell _ _)=>bnd ops k j
  | _=>true) &&
 (allJ ops.size (fun j=>allJ j fun i=>!(v.chg i && v.chg j) || bnd ops j i) &&
 (allJ ops.size (fun j=>match dstOf ops j with
  | some d=>(v.T j).contains d
  | none=>true) &&
 allJ ops.size (fun j=>(v.T j).all fun t=>!v.fz.contains t || plainF (lkp (v.ts j) t))))))))
def okDrawC (cl:List Nat) (ops:Array Oper) (v:DV):Bool:=
 allJ ops.size (fun j=>match ops[j]? with
  | some o=>o.after.toList.all fun e=>!Region.binds .any e || Nat.blt e.on j
  | none=>true) &&
 (allJ ops.size (fun j=>allJ j fun i=>(v.T i).all fun t=>!((v.T j).contains t && (v.W ops i t || v.W ops j t)) || bndC cl j i) &&
 (allJ ops.size (fun j=>(v.T j).all fun t=>rootIn (v.T j) (lkp (v.ts j) t) && rootIn (v.T j) (lkp (v.ts (j+1)) t)) &&
 (allJ (ops.size+1) (fun i=>(v.ts i).all fun p=>match p.2.root with
  | some (.tmp s)=>!v.fz.contains s && allJ ops.size fun j=>!(Nat.ble i j && (v.T j).contains s) || (v.T j).contains p.1
  | some (.cell _ _)=>allJ ops.size fun j=>!(Nat.ble i j && v.chg j) || (v.T j).contains p.1
  | none=>true) &&
 (allJ ops.size (fun j=>!v.chg j || allJ ops.size fun k=>!Nat.blt j k || (v.T k).all fun t=>match (lkp (v.ts (k+1)) t).root with
  | some (.cell _ _)=>bndC cl k j
  | _=>true) &&
 (allJ ops.size (fun j=>allJ j fun i=>!(v.chg i && v.chg j) || bndC cl j i) &&
 (allJ ops.size (fun j=>match dstOf ops j with
  | some d=>(v.T j).contains d
  | none=>true) &&
 allJ ops.size (fun j=>(v.T j).all fun t=>!v.fz.contains t || plainF (lkp (v.ts j) t))))))))
theorem okDrawC_eq (ops:Array Oper) (v:DV):okDrawC (closure ops) ops v=okDraw ops v:=rfl
theorem loC_eq (ops:Array Oper) (chg:Nat→Bool) (j:Nat):loC (closure ops) ops.size chg j=loF ops chg j:=rfl
theorem hiC_eq (ops:Array Oper) (chg:Nat→Bool) (j:Nat):hiC (closure ops) ops.size chg j=hiF ops chg j:=rfl
def useAll:List Nat→St→Option (List (Nat×PV)×St)
 | [],st=>some ([],st)
 | t :: r,st=>match st.use (.tmp t) with
  | some (x,st1)=>match useAll r st1 with
   | some (l,st2)=>some ((t,x) :: l,st2)
   | none=>none
  | none=>none
def outV (WL:List Nat) (x:PV):PV:=
 match x.root with
 | some (.tmp s)=>if WL.contains s then .dead else x
 | some (.cell _ _)=>.dead
 | none=>x
def outL (WL:List Nat):List (Nat×PV)→List (Nat×PV)
 | []=>[]
 | (t,x) :: r=>(t,outV WL x) :: outL WL r
def turnsAll (fz:List Nat):List Oper→List DS→List Nat
 | o :: os,s :: ss=>turns fz s o++turnsAll fz os ss
 | _,_=>[]
def okStart (d:DH) (ts:List (Nat×PV)):Bool:=d.lin.all fun t=>!d.frz.contains t && match (lkp ts t).root with
 | some (.tmp s)=>d.lin.contains s && !d.frz.contains s
 | _=>true
def okEnd (ops:Array Oper) (WL:List Nat) (ts:List (Nat×PV)):Bool:=(WL.all fun t=>rootIn WL (lkp ts t)) && allJ ops.size fun j=>match dstOf ops j with
 | some d=>WL.contains d
 | none=>true
def freezeD (fz:Bool) (d:Option Tmp) (st:St):Option St:=
 match fz,d with
 | true,some d=>match st.use (.tmp d) with
  | some (x,st1)=>st1.setD (some d) x
  | none=>none
 | _,_=>some st
def noCA (ts:List (Nat×PV)):Bool:=ts.all fun p=>match p.2.root with
 | some (.cell _ _)=>false
 | _=>true
def sigKeep (P:Program) (o:Oper) (st:St):Bool:=
 match o.op with
 | .move _=>true
 | .pick _ _ _=>true
 | .nilCheck _=>true
 | .binOp _ _ _ _ _=>true
 | .unOp _ _ _=>true
 | .convert _ _ _=>true
 | .fieldAddr _ _ _=>true
 | .field _ _ _=>true
 | .indexAddr _ _ _=>true
 | .index _ _ _=>true
 | .extract _ _=>true
 | .load t a=>match aggT P t with
  | some true=>(match st.peek a with
   | some (.ptr id _)=>(match st.σ[id]? with
    | some (.cells _ cs)=>cs.all fun x=>!x.isOwn
    | _=>false)
   | _=>true)
  | _=>true
 | .assign _=>noCA st.ts
 | .build _ _=>noCA st.ts
 | .buildSlice _ _ _=>noCA st.ts
 | .slice _ _ _ _ _=>noCA st.ts
 | .makeInterface _ _=>noCA st.ts
 | .makeFunc _ _ _=>noCA st.ts
 | .call c=>match c.callee with
  | .builtin .len=>true
  | .builtin .min=>true
  | .builtin .max=>true
  | .builtin .real=>true
  | .builtin .imag=>true
  | .builtin .complex=>true
  | .value _=>true
  | .invoke _ _=>true
  | _=>noCA st.ts
 | _=>false
def simple (o:Oper):Bool:=
 match o.op with
 | .move _=>true
 | _=>false
def isAl (o:Oper):Bool:=
 match o.op with
 | .alloc _=>true
 | _=>false
def alIn (ops:Array Oper) (fz:List Nat) (chg:Nat→Bool) (lo hi:Nat):Bool:=allJ ops.size fun i=>!(chg i && (Nat.ble lo (cntTo chg i) && Nat.blt (cntTo chg i) hi)) || match ops[i]? with
 | some o=>isAl o && !isFz fz o
 | none=>false
def stepDK (C:TC) (o:Oper) (s:DS) (fz:Bool) (b one al last:Bool) (st:St) (k:List (Nat×PV)→List Bx→Option R):Option R:=
 match b with
 | false=>if s.chg && !(one && last) then none else setDK st o.dst (.lit undef) fun st1=>k st1.ts st1.σ
 | true=>match s.chg with
  | true=>if one && last then opK C true o st fun st1=>(match freezeD fz o.dst st1 with
    | some st2=>nrmB st2.σ fun σ=>k st2.ts σ
    | none=>none) else none
  | false=>match one || (al && !(simple o && !fz)) with
   | true=>if keepKind o.op && sigKeep C.C.P o st && (one || st.cutOk st.σ.length) then opK C false o st fun st1=>(if fz && !noCA st1.ts then none else match freezeD fz o.dst st1 with
     | some st2=>k st2.ts st.σ
     | none=>none) else none
   | false=>if simple o && !fz then orK (evOp C.C o st) fun st1=>k st1.ts st.σ else none
def guardIn (ops:Array Oper) (o:Oper) (T:List Nat):Bool:=
 match o.guard with
 | none=>true
 | some (j,_)=>match ops[j]? with
  | some p=>match p.dst with
   | some t=>T.contains t
   | none=>true
  | none=>true
def opdT:Operand→List Nat
 | .tmp t=>[t]
 | _=>[]
def opT (o:Oper):List Nat:=o.op.operands.toList.flatMap opdT
def dstT (ops:Array Oper) (j:Nat):List Nat:=
 match dstOf ops j with
 | some d=>[d]
 | none=>[]
def rootT (ts:List (Nat×PV)) (t:Nat):List Nat:=
 match (lkp ts t).root with
 | some (.tmp s)=>[s]
 | _=>[]
def namesT (ts:List (Nat×PV)) (l:List Nat):List Nat:=ts.flatMap fun p=>match p.2.root with
 | some (.tmp s)=>if l.contains s then [p.1] else []
 | _=>[]
def nubN:List Nat→List Nat
 | []=>[]
 | x :: r=>if (nubN r).contains x then nubN r else x :: nubN r
def closeT (ts:List (Nat×PV)) (l:List Nat):List Nat:=nubN (l++(l.flatMap (rootT ts)++namesT ts (l++l.flatMap (rootT ts))))
def isSlT (C:TC) (t:TypeId):Bool:=
 match C.C.P.underlying t with
 | some (.slice _)=>true
 | _=>false
def outOf (C:TC) (ops:Array Oper):List Nat:=ops.toList.foldl (fun acc o=>match o.op,o.dst with
 | .load t _,some d=>if isSlT C t then acc++[d] else acc
 | .indexAddr _ x _,some d=>if (opdT x).any acc.contains then acc++[d] else acc
 | .fieldAddr _ x _,some d=>if (opdT x).any acc.contains then acc++[d] else acc
 | .move x,some d=>if (opdT x).any acc.contains then acc++[d] else acc
 | _,_=>acc) []
def chgG (C:TC) (out:List Nat) (o:Oper):Bool:=
 match o.op with
 | .store _ _ _=>true
 | .alloc _=>true
 | .box _ _=>true
 | .assign x=>(opdT x).any out.contains
 | .slice _ x _ _ _=>(opdT x).any out.contains
 | .call c=>match c.callee with
  | .builtin .append=>(match c.args.toList with
   | s :: _=>(opdT s).any out.contains
   | []=>false)
  | .builtin _=>false
  | .value (.func f)=>(match C.kn f with
   | kf :: _=>!kf.pure
   | []=>false)
  | .value _=>false
  | .invoke _ _=>true
 | _=>false
def ownB:Bx→Bool
 | .cells _ cs=>cs.any PV.isOwn
 | .mp _=>false
 | .fam _ _=>false
def ownOp (C:TC) (o:Oper):Bool:=
 match o.op with
 | .call _=>true
 | .buildSlice _ _ _=>true
 | .assign _=>true
 | .extract _ _=>true
 | _=>false
def rootsG (C:TC) (fz:List Nat) (ts:List (Nat×PV)):Nat→List Oper→List (Nat×Nat×Nat)→List (Nat×Nat×Nat)
 | _,[],acc=>acc
 | j,o :: os,acc=>rootsG C fz ts (j+1) os (match (match o.op with | .move (.tmp s)=>some s | .indexAddr _ (.tmp s) _=>some s | .fieldAddr _ (.tmp s) _=>some s | _=>none),o.dst with
  | some s,some d=>(match acc.find? (fun p=>Nat.beq p.1 s) with
   | some p=>(d,p.2.1,j) :: acc
   | none=>acc)
  | none,some d=>if ownOp C o && (isSlT C o.type && !fz.contains d) then (d,d,j) :: acc else acc
  | _,_=>acc)
def startG (fz:List Nat) (ts:List (Nat×PV)):List (Nat×Nat×Nat):=ts.flatMap fun p=>if fz.contains p.1 then [] else if p.2.isOwn then [(p.1,p.1,0)] else match p.2.root with
 | some (.tmp s)=>if fz.contains s then [] else [(p.1,s,0)]
 | _=>[]
def closeG (G:List (Nat×Nat×Nat)) (j:Nat) (l:List Nat):List Nat:=
 let rs:=G.flatMap fun p=>if l.contains p.1 then [p.2.1] else []
 if rs.isEmpty then l else nubN (l++(rs++G.flatMap fun p=>if rs.contains p.2.1 && Nat.ble p.2.2 j then [p.1] else []))
def guessD (C:TC) (cl:List Nat) (ops:Array Oper) (ts:List (Nat×PV)) (σ:List Bx):DH:=
 let out:=if σ.any ownB then outOf C ops else []
 let S0:=(List.range ops.size).map fun j=>match ops[j]? with
  | some o=>nubN (opT o++(dstT ops j++(match o.guard with | some (i,_)=>dstT ops i | none=>[])))
  | none=>[]
 let fz:=nubN ((List.range ops.size).flatMap fun j=>(List.range j).flatMap fun i=>if bndC cl j i then [] else (S0.getD i []).filter fun t=>(S0.getD j []).contains t)
 let G:=rootsG C fz ts 0 ops.toList (startG fz ts)
 let S:=(List.range ops.size).map fun j=>closeG G j (S0.getD j [])
 let keys:=ts.map (·.1)
 let lin:=closeT ts ((nubN (S.flatMap id)).filter fun t=>keys.contains t && !fz.contains t)
 {frz:=fz.filter fun t=>keys.contains t,lin:=lin.filter fun t=>!fz.contains t,fz,
  steps:=(List.range ops.size).map fun j=>match ops[j]? with
   | some o=>{ T:=if chgG C out o then nubN (S.getD j []++out.filter fun t=>(List.range j).any fun i=>dstOf ops i == some t) else S.getD j [],chg:=chgG C out o }
   | none=>{ T:=[] } }
def drawGoK (C:TC) (cl:List Nat) (ops:Array Oper) (n:Nat) (fz:List Nat) (chg:Nat→Bool):Nat→List Oper→List DS→List (Nat×PV)→List (List (Nat×PV))→List (List Bx)→(List (List (Nat×PV))→List (List Bx)→Option R)→Option R
 | _,[],ss,ts,tss,σs,k=>match ss with
  | []=>k (tss++[ts]) σs
  | _=>none
 | j,o :: os,ss,ts,tss,σs,k=>match ss with
  | s :: ss=>nrmN (loC cl ops.size chg j) fun lo=>nrmN (hiC cl ops.size chg j) fun hi=>match σs[lo]? with
   | some σ=>if guardIn ops o s.T then wantK ops o { ts,n,σ } fun b st0=>
    stepDK C o s (isFz fz o) b (Nat.beq hi lo) (alIn ops fz chg lo hi) (Nat.beq (lo+1) σs.length) { ts:=pickL st0.ts s.T,n,σ } fun loc' σ'=>
     nrmT (pickL loc' (turns fz s o)++delAll (turns fz s o) st0.ts) fun ts'=>drawGoK C cl ops n fz chg (j+1) os ss ts' (tss++[ts]) (if s.chg then σs++[σ'] else σs) k else none
   | none=>none
  | []=>none
def nrmDS {β:Type} (l:List DS):(List DS→β)→β:=
 List.rec (motive:=fun _=>(List DS→β)→β) (fun k=>k []) (fun p _ ih k=>DS.rec (motive:=fun _=>β) (fun T c=>nrm T fun T=>cond c (ih fun ys=>k (⟨T,true⟩ :: ys)) (ih fun ys=>k (⟨T,false⟩ :: ys))) p) l
theorem nrmDS_eq {β:Type} (l:List DS):∀k:List DS→β,nrmDS l k=k l:=by
 induction l with
 | nil=>intro k;rfl
 | cons p xs ih=>
  intro k
  obtain ⟨T,c⟩:=p
  refine (nrm_eq T _).trans ?_
  cases c <;> exact ih _
def nrmD {β:Type} (d:DH) (k:DH→β):β:=nrm d.frz fun a=>nrm d.lin fun b=>nrm d.fz fun c=>nrmDS d.steps fun s=>k ⟨a,b,c,s⟩
theorem nrmD_eq {β:Type} (d:DH) (k:DH→β):nrmD d k=k d:=by simp only [nrmD,nrm_eq,nrmDS_eq]
def drawK (C:TC) (cl:List Nat) (ops:Array Oper) (d:DH) (st:St) (k:St→Option R):Option R:=
 match useAll d.frz st with
 | some (fl,st1)=>nrmS true st1 fun st1=>
  if okStart d st1.ts then drawGoK C cl ops st.n d.fz (fun j=>(d.steps.map (·.chg)).getD j false) 0 ops.toList d.steps (fl++pickL st1.ts d.lin) [] [st1.σ] fun tss σs=>
   if okDrawC cl ops { tss,Ts:=d.steps.map (·.T),chgs:=d.steps.map (·.chg),fz:=d.fz } then
    (if okEnd ops (d.lin++turnsAll d.fz ops.toList d.steps) (tss.getD ops.size []) then
     k { ts:=pickL (tss.getD ops.size []) (d.lin++turnsAll d.fz ops.toList d.steps)++outL (d.lin++turnsAll d.fz ops.toList d.steps) st1.ts,n:=st.n,σ:=σs.getD (cntTo (fun i=>(d.steps.map (·.chg)).getD i false && true) ops.size) [] }
    else none) else none else none
 | none=>none
mutual
def frzV (id:Nat) (cs:List PV):PV→PV
 | .ptr i off=>if Nat.beq i id then .elemv cs off else .ptr i off
 | .agg l=>.agg (frzVs id cs l)
 | .tup l=>.tup (frzVs id cs l)
 | .ifc t x=>.ifc t (frzV id cs x)
 | .fn f a b=>.fn f (frzVs id cs a) (frzVs id cs b)
 | .elemv l off=>.elemv (frzVs id cs l) off
 | .lit v=>.lit v
 | .nilp=>.nilp
 | .sl fl n xs=>.sl fl n xs
 | .map i=>.map i
 | .alias p=>.alias p
 | .elem p k off=>.elem p k off
 | .dead=>.dead
 | .oref i j=>.oref i j
def frzVs (id:Nat) (cs:List PV):List PV→List PV
 | []=>[]
 | x :: r=>frzV id cs x :: frzVs id cs r
end
mutual
def noMap:PV→Bool
 | .map _=>false
 | .oref _ _=>false
 | .agg l=>noMaps l
 | .tup l=>noMaps l
 | .ifc _ x=>noMap x
 | .fn _ a b=>noMaps a && noMaps b
 | .elemv l _=>noMaps l
 | _=>true
def noMaps:List PV→Bool
 | []=>true
 | x :: r=>noMap x && noMaps r
end
def frzT (id:Nat) (cs:List PV):List (Nat×PV)→List (Nat×PV)
 | []=>[]
 | (t,x) :: r=>(t,frzV id cs x) :: frzT id cs r
def frzB (id:Nat) (cs:List PV):List Bx→List Bx
 | []=>[]
 | .cells ty l :: r=>.cells ty (frzVs id cs l) :: frzB id cs r
 | .mp es :: r=>.mp es :: frzB id cs r
 | .fam a l :: r=>.fam a l :: frzB id cs r
def St.freezeBox (st:St):Option St:=
 match st.σ.length with
 | 0=>none
 | id+1=>match st.σ[id]? with
  | some (.cells _ cs0)=>match st.takeC id 0 cs0.length with
   | some (cs,st1)=>if noRefs id cs && ((st1.ts.all fun p=>noMap p.2 && match p.2.root with
      | some (.cell i _)=>!Nat.beq i id
      | _=>true) && (st1.σ.all fun b=>match b with
      | .cells _ l=>noMaps l
      | .fam _ _=>true
      | .mp _=>true)) then some { ts:=frzT id cs st1.ts,n:=st1.n,σ:=frzB id cs (st1.σ.take id) } else none
   | none=>none
  | _=>none
def St.norm1 (st:St) (p:Plc) (m:Nat) (e:TypeId) (s:Sh):St:=
 match contentAt st p with
 | some (.sl fl n xs)=>match n with
  | true=>st.setP p (.sl (match m with | 0=>.view | 1=>.own e | _=>.excl e) false ⟨s,[]⟩)
  | false=>match m with
   | 0=>if fl.isOwn then (match st.useP p with
    | some (x,st1)=>st1.setP p x
    | none=>st) else st
   | 1=>(match fl with
    | .excl e'=>st.putP p (.sl (.own e') false xs)
    | _=>st)
   | _=>st
 | _=>st
def St.normL:List (Plc×Nat×TypeId×Sh)→St→St
 | [],st=>st
 | (p,m,e,s) :: r,st=>St.normL r (st.norm1 p m e s)
def boxNorms (can:TypeId→List (Nat×Nat×TypeId×Sh)):Nat→List Bx→List (Plc×Nat×TypeId×Sh)
 | _,[]=>[]
 | i,.cells ty _ :: r=>(can ty).map (fun q=>(.cell i q.1,q.2))++boxNorms can (i+1) r
 | i,.mp _ :: r=>boxNorms can (i+1) r
 | i,.fam _ _ :: r=>boxNorms can (i+1) r
def tmpNorms (vw:List Nat) (tt:Nat→Option (TypeId×Sh)):List (Nat×PV)→List (Plc×Nat×TypeId×Sh)
 | []=>[]
 | (t,x) :: r=>match x with
  | .sl _ true _=>(match tt t with
   | some (e,s)=>(.tmp t,(if vw.contains t then 0 else 2),e,s) :: tmpNorms vw tt r
   | none=>tmpNorms vw tt r)
  | _=>tmpNorms vw tt r
def restrictK (can:TypeId→List (Nat×Nat×TypeId×Sh)) (vw:List Nat) (tt:Nat→Option (TypeId×Sh)) (base:Nat) (h:Option Hint) (st:St) (k:St→Option R):Option R:=
 match h with
 | none=>k st
 | some h=>nrmS true (st.keepTo h) fun st0=>nrmS true (St.normL (tmpNorms vw tt st0.ts++boxNorms can 0 st0.σ) st0) fun st1=>match h.fb with
  | true=>if base<st1.σ.length then (match st1.freezeBox with
   | some st2=>nrmS true st2 k
   | none=>none) else none
  | false=>match h.cut with
   | none=>k st1
   | some n=>if base≤n∧n≤st1.σ.length∧st1.cutOk n=true then k { st1 with σ:=st1.σ.take n } else none
def exclL (ex:List Nat):List (Nat×PV)→List (Plc×Nat×TypeId×Sh)
 | []=>[]
 | (t,x) :: r=>match x with
  | .sl (.excl e) false xs=>if ex.contains t then exclL ex r else (.tmp t,1,e,xs.sh) :: exclL ex r
  | _=>exclL ex r
def insN (t:Nat):List Nat→List Nat
 | []=>[t]
 | u :: r=>match Nat.ble t u with
  | true=>t :: u :: r
  | false=>u :: insN t r
def isort:List Nat→List Nat
 | []=>[]
 | t :: r=>insN t (isort r)
def sortS (st:St):St:={ st with ts:=pickL st.ts (isort (st.ts.map (·.1))) }
def nzL:List (Nat×TypeId×Sh)→List (Plc×Nat×TypeId×Sh)
 | []=>[]
 | p :: r=>(.tmp p.1,2,p.2.1,p.2.2) :: nzL r
def prepK (h:LH) (st:St):St:=
 sortS (match (match h.keep with
  | none=>st
  | some l=>{ st with ts:=keepL l st.ts l }) with
 | st=>St.normL (nzL h.nz++exclL h.excl st.ts) st)
def likeL:List (Nat×PT)→List (Plc×Nat×TypeId×Sh)
 | []=>[]
 | (t,p) :: r=>match p with
  | .sl .view false s=>(.tmp t,0,0,s) :: likeL r
  | .sl (.own e) false s=>(.tmp t,1,e,s) :: likeL r
  | .sl (.excl e) false s=>(.tmp t,2,e,s) :: likeL r
  | _=>likeL r
def backK (T:ST) (base n:Nat) (st:St) (k:St→Option R):Option R:=
 nrmS true (sortS (St.normL (likeL T.ts) { ts:=pickL st.ts (T.ts.map (·.1)),n:=st.n,σ:=st.σ })) fun st1=>
  if (Nat.beq st.n n && (T.ts.map (·.1)).all fun t=>rootIn (T.ts.map (·.1)) (lkp st.ts t)) then
   (if Nat.blt T.bx.length st1.σ.length then (if base≤T.bx.length∧st1.cutOk T.bx.length=true then k { st1 with σ:=st1.σ.take T.bx.length } else none) else k st1) else none
def loopM {α ρ:Type} (step:α→Option (α⊕ρ)):Nat→α→Option ρ
 | 0,_=>none
 | n+1,a=>match step a with
  | some (.inl a')=>loopM step n a'
  | some (.inr r)=>some r
  | none=>none
def codeK (C:TC) (base:Nat):Code→{R:Type}→St→(Exit→St→Option R)→Option R
 | .skip,_,st,k=>k .normal st
 | .region id ops draw,_,st,k=>match draw with
  | false=>opsK C ops ops.toList st fun st1=>restrictK C.can C.vw C.tt base (C.C.live id) st1 fun st2=>k .normal st2
  | true=>nrmS true (St.normL (C.nv id) st) fun st=>cloF ops.toList [] fun cl=>nrmD (match C.dr id with
    | some d=>d
    | none=>guessD C cl ops st.ts st.σ) fun d=>drawK C cl ops d st fun st1=>restrictK C.can C.vw C.tt base (C.C.live id) st1 fun st2=>k .normal st2
 | .seq a b,_,st,k=>codeK C base a st fun e st1=>match e with
  | .normal=>codeK C base b st1 k
  | e=>k e st1
 | .cond c a b,_,st,k=>match st.bool c with
  | some x=>cond x (codeK C base a (litO st c true) k) (codeK C base b (litO st c false) k)
  | none=>none
 | .block id c,_,st,k=>codeK C base c st fun e st1=>match e with
  | .exit id'=>if id'=id then k .normal st1 else k (.exit id') st1
  | e=>k e st1
 | .loop c,_,st,k=>match (match firstReg c with
   | some i=>some (C.lp i)
   | none=>none) with
  | some h=>match (prepK h st).shape with
   | some (T,ds)=>match pack T.ls ds with
    | some x0=>loopM (fun x=>match T.plug st.n (unpack T.ls x) with
     | some st1=>codeK C base c st1 fun e st2=>match e with
      | .normal=>backK T base st.n st2 fun st3=>(match st3.shape with
       | some (T',ds')=>if T'.beq T then (match pack T.ls ds' with
        | some x'=>some (.inl x')
        | none=>none) else none
       | none=>none)
      | e=>(k e st2).map Sum.inr
     | none=>none) C.fu x0
    | none=>none
   | none=>none
  | none=>none
 | .exit id,_,st,k=>k (.exit id) st
 | .label _,_,st,k=>k .normal st
 | .ret,_,st,k=>k .ret st
 | .goto l,_,st,k=>k (.goto l) st
 | _,_,_,_=>none
def codeL (C:TC) (base:Nat):Code→Nat→{R:Type}→St→(Exit→St→Option R)→Option R
 | .seq a b,l,_,st,k=>match findLabel a l with
  | some _=>codeL C base a l st fun e st1=>match e with
   | .normal=>codeK C base b st1 k
   | e=>k e st1
  | none=>codeL C base b l st k
 | .label l',l,_,st,k=>match Nat.beq l' l with
  | true=>k .normal st
  | false=>none
 | _,_,_,_,_=>none
def jumpK (C:TC) (base:Nat) (c:Code):Nat→Nat→{R:Type}→St→(Exit→St→Option R)→Option R
 | 0,_,_,_,_=>none
 | n+1,l,_,st,k=>codeL C base c l st fun e st1=>match e with
  | .goto l'=>jumpK C base c n l' st1 k
  | e=>k e st1
def codeT (C:TC) (base:Nat):Code→{R:Type}→St→(Exit→St→Option R)→Option R
 | .seq a b,_,st,k=>codeT C base a st fun e st1=>match e with
  | .normal=>codeT C base b st1 k
  | e=>k e st1
 | .scope c,_,st,k=>codeK C base c st fun e st1=>match e with
  | .goto l=>jumpK C base c 5 l st1 k
  | e=>k e st1
 | c,_,st,k=>codeK C base c st k
def isIfc0 (n:Nat) (r:PV):Bool:=
 match n with
 | 0=>(match r with
  | .tup (x :: _)=>(match x with
   | .ifc _ _=>true
   | _=>false)
  | _=>false)
 | _=>false
def famEnd (o:OS):Option (List PT):=
 match o.r with
 | .tup (x :: _)=>(match x with
  | .oref _=>(match o.bx with
   | [(_,l)]=>famPT l
   | _=>none)
  | _=>none)
 | _=>none
def objEnd (alts:List PT) (r:PV) (σ:List Bx):Option (OS×List Dyn):=
 match r with
 | .tup (x :: xs)=>if noRefs 0 xs then (match closeA alts x σ with
  | some y=>(match shapes xs with
   | some (p,d)=>some (⟨.tup (.oref 0 :: p),[(0,[.fam alts])]⟩,⟨.oix,(0:Nat)⟩ :: (d++[⟨.sl (shA alts),[y]⟩]))
   | none=>none)
  | none=>none) else none
 | _=>none
def plainEnd (n:Nat) (r:PV) (st1:St) (o:OS):Option (OS×List Dyn):=
 match shape (nilR o.r r) with
 | some (p,ds)=>match shapeB (if Nat.beq st1.σ.length n then st1.σ else if St.cutOk n { ts:=[(0,r)],n:=1,σ:=st1.σ } then st1.σ.take n else st1.σ) with
  | some (q,es)=>some (⟨p,q⟩,ds++es)
  | none=>none
 | none=>none
def finK (P:Program) (fn:Func) (n:Nat) (outs:List OS) (e:Exit) (st:St):Option (denA outs):=
 match (match e with | .ret=>true | .normal=>true | _=>false) with
 | true=>match retAll P fn.results.toList st with
  | some (r,st1)=>if r.noAl then inj outs fun o=>(match (match isIfc0 n r with
    | true=>famEnd o
    | false=>none) with
   | some alts=>objEnd alts r st1.σ
   | none=>plainEnd n r st1 o) else none
  | none=>none
 | false=>none
def fnK (C:TC) (fn:Func) (inp:IS) (outs:List OS) (a:(tup inp.ls).den):Option (denA outs):=
 match fn.body with
 | some c=>match plugs inp.vs (unpack inp.ls a) with
  | some (args,ds)=>match plugB inp.bx ds with
   | some (σ,[])=>codeT { C with C:={ C.C with res:=resOf fn } } σ.length c { ts:=number 0 args,n:=args.length+(fn.ntmps - args.length),σ } (finK C.C.P fn σ.length outs)
   | _=>none
  | none=>none
 | none=>none
end
end Go.AM
namespace Go.AM
theorem castD_some {d:Dyn} {s:Sh} {x:s.den} (h:castD d s=some x):d=⟨s,x⟩:=by
 unfold castD at h
 split at h
 ·rename_i e
  obtain ⟨s',v⟩:=d
  simp only at e
  subst e
  injection h with h
  subst h
  rfl
 ·cases h
theorem castD_self (s:Sh) (x:s.den):castD ⟨s,x⟩ s=some x:=by simp [castD]
theorem both_some {α β:Type} {x:Option α} {y:Option β} {a:α×β} (h:both x y=some a):∃u v,x=some u∧y=some v∧a=(u,v):=by
 cases x with
 | none=>cases h
 | some u=>cases y with
  | none=>cases h
  | some v=>injection h with h;exact ⟨u,v,rfl,rfl,h.symm⟩
theorem unpack_pack:∀{ls:List Sh} {ds:List Dyn} {a:(tup ls).den},pack ls ds=some a→unpack ls a=ds:=by
 intro ls
 induction ls with
 | nil=>
  intro ds a h
  cases ds with
  | nil=>rfl
  | cons d r=>cases h
 | cons s r ih=>
  intro ds a h
  cases r with
  | nil=>
   cases ds with
   | nil=>cases h
   | cons d q=>
    cases q with
    | nil=>
     have h:castD d s=some a:=h
     rw [castD_some h];rfl
    | cons e q=>cases h
  | cons t r=>
   cases ds with
   | nil=>cases h
   | cons d q=>
    have h:both (castD d s) (pack (t :: r) q)=some a:=h
    obtain ⟨x,y,hx,hy,e⟩:=both_some h
    have e:a=(x,y):=e
    subst e
    rw [castD_some hx]
    show (⟨s,x⟩:Dyn) :: unpack (t :: r) y=_
    rw [ih hy]
theorem plugS_lf {s:Sh} {x:s.den} {y:PV} {r:List Dyn} (h:s.cells x=[y]):plugS s (⟨s,x⟩ :: r)=some (y,r):=by
 simp only [plugS,castD_self,h]
theorem shapeV_plug {v:Value} {p:PT} {d:List Dyn} (h:shapeV v=some (p,d)) (r:List Dyn):plug p (d++r)=some (.lit v,r):=by
 unfold shapeV at h
 split at h
 ·injection h with h;injection h with h1 h2;subst h1;subst h2;exact plugS_lf rfl
 ·injection h with h;injection h with h1 h2;subst h1;subst h2;exact plugS_lf rfl
 ·injection h with h;injection h with h1 h2;subst h1;subst h2;exact plugS_lf rfl
 ·injection h with h;injection h with h1 h2;subst h1;subst h2;exact plugS_lf rfl
 ·injection h with h;injection h with h1 h2;subst h1;subst h2;exact plugS_lf rfl
 ·injection h with h;injection h with h1 h2;subst h1;subst h2;rfl
 ·rename_i vs
  split at h
  ·rename_i hv
   injection h with h;injection h with h1 h2;subst h1;subst h2
   have:vs = #[]:=by rw [←Array.toArray_toList (xs:=vs),hv]
   subst this;rfl
  ·cases h
 ·cases h
mutual
theorem shape_plug:∀(x:PV) {p:PT} {d:List Dyn},shape x=some (p,d)→∀r,plug p (d++r)=some (x,r)
 | .lit v,_,_,h,r=>shapeV_plug h r
 | .ptr id off,_,_,h,r=>by injection h with h;injection h with h1 h2;subst h1;subst h2;rfl
 | .nilp,_,_,h,r=>by injection h with h;injection h with h1 h2;subst h1;subst h2;rfl
 | .dead,_,_,h,r=>by injection h with h;injection h with h1 h2;subst h1;subst h2;rfl
 | .alias p,_,_,h,r=>by injection h with h;injection h with h1 h2;subst h1;subst h2;rfl
 | .sl fl n xs,_,_,h,r=>by
  injection h with h;injection h with h1 h2;subst h1;subst h2
  simp only [plug,List.cons_append,List.nil_append]
  rw [show castD ⟨.sl xs.sh,xs.l⟩ (.sl xs.sh)=some xs.l from castD_self _ _]
 | .agg cs,_,_,h,r=>by
  simp only [shape] at h
  split at h
  ·rename_i l d hs
   injection h with h;injection h with h1 h2;subst h1;subst h2
   simp only [plug,shapes_plug cs hs r]
  ·cases h
 | .tup cs,_,_,h,r=>by
  simp only [shape] at h
  split at h
  ·rename_i l d hs
   injection h with h;injection h with h1 h2;subst h1;subst h2
   simp only [plug,shapes_plug cs hs r]
  ·cases h
 | .ifc t x,_,_,h,r=>by
  simp only [shape] at h
  split at h
  ·rename_i l d hs
   injection h with h;injection h with h1 h2;subst h1;subst h2
   simp only [plug,shape_plug x hs r]
  ·cases h
 | .fn f a b,_,_,h,r=>by
  simp only [shape] at h
  split at h
  ·split at h
   ·rename_i p d h1
    split at h
    ·rename_i q e h2
     injection h with h;injection h with h3 h4;subst h3;subst h4
     simp only [plug,List.append_assoc,shapes_plug a h1 (e++r),shapes_plug b h2 r]
    ·cases h
   ·cases h
  ·cases h
 | .map _,_,_,h,r=>by injection h with h;injection h with h1 h2;subst h1;subst h2;rfl
 | .oref id i,_,_,h,r=>by
  injection h with h;injection h with h1 h2;subst h1;subst h2
  simp only [plug,List.cons_append,List.nil_append]
  rw [show castD ⟨.oix,i⟩ .oix=some i from castD_self _ _]
 | .elem _ _ _,_,_,h,_=>by cases h
 | .elemv cs off,_,_,h,r=>by
  simp only [shape] at h
  split at h
  ·rename_i l d hs
   injection h with h;injection h with h1 h2;subst h1;subst h2
   simp only [plug,shapes_plug cs hs r]
  ·cases h
theorem shapes_plug:∀(xs:List PV) {p:List PT} {d:List Dyn},shapes xs=some (p,d)→∀r,plugs p (d++r)=some (xs,r)
 | [],_,_,h,r=>by injection h with h;injection h with h1 h2;subst h1;subst h2;rfl
 | x :: xs,_,_,h,r=>by
  simp only [shapes] at h
  split at h
  ·rename_i p d h1
   split at h
   ·rename_i q e h2
    injection h with h;injection h with h3 h4;subst h3;subst h4
    simp only [plugs,List.append_assoc,shape_plug x h1 (e++r),shapes_plug xs h2 r]
   ·cases h
  ·cases h
end
theorem shapeT_plug:∀{l:List (Nat×PV)} {p:List (Nat×PT)} {d:List Dyn},shapeT l=some (p,d)→∀r,plugT p (d++r)=some (l,r):=by
 intro l
 induction l with
 | nil=>intro p d h r;injection h with h;injection h with h1 h2;subst h1;subst h2;rfl
 | cons a l ih=>
  obtain ⟨t,x⟩:=a
  intro p d h r
  simp only [shapeT] at h
  split at h
  ·rename_i p d h1
   split at h
   ·rename_i q e h2
    injection h with h;injection h with h3 h4;subst h3;subst h4
    simp only [plugT,List.append_assoc,shape_plug x h1 (e++r),ih h2 r]
   ·cases h
  ·cases h
theorem shapeV_nofam {v:Value} {a:List PT} {d:List Dyn} (h:shapeV v=some (.fam a,d)):False:=by
 unfold shapeV at h
 split at h <;> first | (injection h with h;injection h with h1 h2;cases h1) | skip
 ·split at h
  ·injection h with h;injection h with h1 h2;cases h1
  ·cases h
 ·cases h
theorem shape_nofam {x:PV} {a:List PT} {d:List Dyn} (h:shape x=some (.fam a,d)):False:=by
 cases x <;> simp only [shape] at h
 case lit v=>exact shapeV_nofam h
 all_goals (repeat' split at h) <;> first | (injection h with h;injection h with h1 h2;cases h1) | cases h
theorem shapeV_nomp {v:Value} {k s:Sh} {d:List Dyn} (h:shapeV v=some (.mp k s,d)):False:=by
 unfold shapeV at h
 split at h <;> first | (injection h with h;injection h with h1 h2;cases h1) | skip
 ·split at h
  ·injection h with h;injection h with h1 h2;cases h1
  ·cases h
 ·cases h
theorem shape_nomp {x:PV} {k s:Sh} {d:List Dyn} (h:shape x=some (.mp k s,d)):False:=by
 cases x <;> simp only [shape] at h
 case lit v=>exact shapeV_nomp h
 all_goals (repeat' split at h) <;> first | (injection h with h;injection h with h1 h2;cases h1) | cases h
theorem mapPT_shapes {cs:List PV} {p:List PT} {d:List Dyn} (h:shapes cs=some (p,d)):mapPT p=none:=by
 cases cs with
 | nil=>injection h with h;injection h with h1 h2;subst h1;rfl
 | cons x xs=>
  simp only [shapes] at h
  split at h
  ·rename_i q d1 h1
   split at h
   ·injection h with h;injection h with h3 h4;subst h3
    cases q <;> first | rfl | exact (shape_nomp h1).elim
   ·cases h
  ·cases h
theorem famPT_shapes {cs:List PV} {p:List PT} {d:List Dyn} (h:shapes cs=some (p,d)):famPT p=none:=by
 cases cs with
 | nil=>injection h with h;injection h with h1 h2;subst h1;rfl
 | cons x xs=>
  simp only [shapes] at h
  split at h
  ·rename_i q d1 h1
   split at h
   ·injection h with h;injection h with h3 h4;subst h3
    cases q <;> first | rfl | exact (shape_nofam h1).elim
   ·cases h
  ·cases h
theorem shapeB_plug:∀{l:List Bx} {p:List (TypeId×List PT)} {d:List Dyn},shapeB l=some (p,d)→∀r,plugB p (d++r)=some (l,r):=by
 intro l
 induction l with
 | nil=>intro p d h r;injection h with h;injection h with h1 h2;subst h1;subst h2;rfl
 | cons a l ih=>
  intro p d h r
  cases a with
  | mp es=>
   obtain ⟨ks,vs,l0⟩:=es
   simp only [shapeB] at h
   split at h
   ·rename_i q e h2
    injection h with h;injection h with h3 h4;subst h3;subst h4
    simp only [plugB,famPT,mapPT,List.cons_append]
    rw [show castD ⟨.sl (.cons ks vs),l0⟩ (.sl (.cons ks vs))=some l0 from castD_self _ _]
    simp only [ih h2 r]
   ·cases h
  | cells ty cs=>
   simp only [shapeB] at h
   split at h
   ·rename_i p d h1
    split at h
    ·rename_i q e h2
     injection h with h;injection h with h3 h4;subst h3;subst h4
     simp only [plugB,famPT_shapes h1,mapPT_shapes h1,List.append_assoc,shapes_plug cs h1 (e++r),ih h2 r]
    ·cases h
   ·cases h
  | fam al fl=>
   simp only [shapeB] at h
   split at h
   ·rename_i q e h2
    injection h with h;injection h with h3 h4;subst h3;subst h4
    simp only [plugB,famPT,List.cons_append]
    rw [show castD ⟨.sl (shA al),fl⟩ (.sl (shA al))=some fl from castD_self _ _]
    simp only [ih h2 r]
   ·cases h
theorem St.shape_plug {st:St} {T:ST} {d:List Dyn} (h:st.shape=some (T,d)):T.plug st.n d=some st:=by
 unfold St.shape at h
 split at h
 ·rename_i p d1 h1
  split at h
  ·rename_i q e h2
   injection h with h;injection h with h3 h4;subst h3;subst h4
   have h2':=shapeB_plug h2 []
   rw [List.append_nil] at h2'
   simp only [ST.plug,shapeT_plug h1 e,h2']
  ·cases h
 ·cases h
mutual
theorem PT.beq_eq:∀(a b:PT),a.beq b=true→a=b
 | .lf s,b,h=>by cases b <;> simp only [PT.beq] at h <;> first | (simp only [decide_eq_true_eq] at h;subst h;rfl) | cases h
 | .sl fl n s,b,h=>by
  cases b <;> simp only [PT.beq] at h <;> first | (simp only [Bool.and_eq_true,decide_eq_true_eq,beq_iff_eq] at h;obtain ⟨⟨rfl,rfl⟩,rfl⟩:=h;rfl) | cases h
 | .ptr i o,b,h=>by
  cases b <;> simp only [PT.beq] at h <;> first | (simp only [Bool.and_eq_true] at h;rw [Nat.eq_of_beq_eq_true h.1,Nat.eq_of_beq_eq_true h.2]) | cases h
 | .nilp,b,h=>by cases b <;> simp only [PT.beq] at h <;> first | rfl | cases h
 | .nili,b,h=>by cases b <;> simp only [PT.beq] at h <;> first | rfl | cases h
 | .dead,b,h=>by cases b <;> simp only [PT.beq] at h <;> first | rfl | cases h
 | .undef,b,h=>by cases b <;> simp only [PT.beq] at h <;> first | rfl | cases h
 | .alias p,b,h=>by cases b <;> simp only [PT.beq] at h <;> first | (simp only [decide_eq_true_eq] at h;subst h;rfl) | cases h
 | .agg l,b,h=>by cases b <;> simp only [PT.beq] at h <;> first | (rw [PT.beqs_eq l _ h]) | cases h
 | .tup l,b,h=>by cases b <;> simp only [PT.beq] at h <;> first | (rw [PT.beqs_eq l _ h]) | cases h
 | .elemv l o,b,h=>by
  cases b <;> simp only [PT.beq] at h <;> first | (simp only [Bool.and_eq_true] at h;rw [PT.beqs_eq l _ h.1,Nat.eq_of_beq_eq_true h.2]) | cases h
 | .ifc t x,b,h=>by
  cases b <;> simp only [PT.beq] at h <;> first | (simp only [Bool.and_eq_true] at h;rw [PT.beq_eq x _ h.2,Nat.eq_of_beq_eq_true h.1]) | cases h
 | .fn f x y,b,h=>by
  cases b <;> simp only [PT.beq] at h <;> first | (simp only [Bool.and_eq_true] at h;rw [PT.beqs_eq x _ h.2.1,PT.beqs_eq y _ h.2.2,Nat.eq_of_beq_eq_true h.1]) | cases h
 | .oref i,b,h=>by cases b <;> simp only [PT.beq] at h <;> first | (rw [Nat.eq_of_beq_eq_true h]) | cases h
 | .fam l,b,h=>by cases b <;> simp only [PT.beq] at h <;> first | (rw [PT.beqs_eq l _ h]) | cases h
 | .mapr i,b,h=>by cases b <;> simp only [PT.beq] at h <;> first | (rw [Nat.eq_of_beq_eq_true h]) | cases h
 | .mp k v,b,h=>by cases b <;> simp only [PT.beq] at h <;> first | (simp only [Bool.and_eq_true,decide_eq_true_eq] at h;rw [h.1,h.2]) | cases h
theorem PT.beqs_eq:∀(a b:List PT),PT.beqs a b=true→a=b
 | [],b,h=>by cases b <;> simp only [PT.beqs] at h <;> first | rfl | cases h
 | x :: r,b,h=>by
  cases b <;> simp only [PT.beqs] at h <;> first | (simp only [Bool.and_eq_true] at h;rw [PT.beq_eq x _ h.1,PT.beqs_eq r _ h.2]) | cases h
end
theorem beqT_eq:∀(a b:List (Nat×PT)),beqT a b=true→a=b
 | [],b,h=>by cases b <;> simp only [beqT] at h <;> first | rfl | cases h
 | (t,x) :: r,b,h=>by
  cases b with
  | nil=>cases h
  | cons c s=>
   obtain ⟨u,y⟩:=c
   simp only [beqT,Bool.and_eq_true] at h
   rw [PT.beq_eq x _ h.2.1,beqT_eq r _ h.2.2,Nat.eq_of_beq_eq_true h.1]
theorem beqB_eq:∀(a b:List (TypeId×List PT)),beqB a b=true→a=b
 | [],b,h=>by cases b <;> simp only [beqB] at h <;> first | rfl | cases h
 | (t,x) :: r,b,h=>by
  cases b with
  | nil=>cases h
  | cons c s=>
   obtain ⟨u,y⟩:=c
   simp only [beqB,Bool.and_eq_true] at h
   rw [PT.beqs_eq x _ h.2.1,beqB_eq r _ h.2.2,Nat.eq_of_beq_eq_true h.1]
theorem ST.beq_eq {a b:ST} (h:a.beq b=true):a=b:=by
 obtain ⟨p,q⟩:=a
 obtain ⟨p',q'⟩:=b
 simp only [ST.beq,Bool.and_eq_true] at h
 rw [beqT_eq _ _ h.1,beqB_eq _ _ h.2]
theorem OS.beq_eq {a b:OS} (h:a.beq b=true):a=b:=by
 obtain ⟨p,q⟩:=a
 obtain ⟨p',q'⟩:=b
 simp only [OS.beq,Bool.and_eq_true] at h
 rw [PT.beq_eq _ _ h.1,beqB_eq _ _ h.2]
noncomputable def sel (outs:List OS) (x:denA outs):Option (OS×List Dyn):=elimA outs x fun o ds=>some (o,ds)
theorem elimA_sel {R:Type}:∀{outs:List OS} {x:denA outs} {k:OS→List Dyn→Option R} {r:R},elimA outs x k=some r→∃o ds,sel outs x=some (o,ds)∧k o ds=some r
 | [],x,k,r,h=>by cases h
 | [o],x,k,r,h=>⟨o,_,rfl,h⟩
 | o :: p :: q,x,k,r,h=>by
  change (tup o.ls).den⊕denA (p :: q) at x
  cases x with
  | inl a=>exact ⟨o,_,rfl,h⟩
  | inr b=>
   obtain ⟨o',ds,h1,h2⟩:=elimA_sel (outs:=p :: q) (x:=b) (k:=k) h
   exact ⟨o',ds,h1,h2⟩
theorem ifO_some {α:Type} {b:Bool} {o:Option α} {x:α} (h:ifO b o=some x):b=true∧o=some x:=by
 cases b with
 | true=>exact ⟨rfl,h⟩
 | false=>cases h
theorem orA_some {α β:Type} {b:Bool} {x:Option α} {y:Option β} {z:α⊕β} (h:orA b x y=some z):(b=true∧∃a,x=some a∧z=.inl a)∨∃a,y=some a∧z=.inr a:=by
 cases b with
 | true=>
  cases x with
  | none=>cases h
  | some a=>injection h with h;exact .inl ⟨rfl,a,rfl,h.symm⟩
 | false=>
  cases y with
  | none=>cases h
  | some a=>injection h with h;exact .inr ⟨a,rfl,h.symm⟩
theorem orO_some {α β:Type} {b:Bool} {x:Option α} {y:Option β} {z:α⊕β} (h:orO b x y=some z):(b=true∧∃a,x=some a∧z=.inl a)∨∃a,y=some a∧z=.inr a:=by
 cases b with
 | true=>
  obtain ⟨a,h1,h2⟩:=Option.map_eq_some_iff.1 h
  exact .inl ⟨rfl,a,h1,h2.symm⟩
 | false=>
  obtain ⟨a,h1,h2⟩:=Option.map_eq_some_iff.1 h
  exact .inr ⟨a,h1,h2.symm⟩
theorem fitO_some {o:OS} {f:OS→Option (OS×List Dyn)} (h:(fitO o f).1=true):f o=some (o,(fitO o f).2):=by
 unfold fitO at h ⊢
 split at h
 ·rename_i x ds e
  have:=OS.beq_eq h
  subst this
  rw [e]
 ·cases h
theorem bxsV_some:∀{σ:List Bx} {bs:List PV},bxsV σ=some bs→bxsOfV bs=some σ
 | [],bs,h=>by injection h with h;subst h;rfl
 | b :: r,bs,h=>by
  simp only [bxsV] at h
  split at h
  ·rename_i x hx
   split at h
   ·rename_i l hl
    injection h with h;subst h
    have h1:bxOfV x=some b:=by
     cases b with
     | cells ty cs=>injection hx with hx;subst hx;rfl
     | mp es=>cases hx
     | fam al l=>cases hx
    simp only [bxsOfV,h1,bxsV_some hl]
   ·cases h
  ·cases h
theorem injA_open:∀{alts:List PT} {p:PT} {ds:List Dyn} {x:(shA alts).den},injA alts p ds=some x→openA alts x=openAlt p ds
 | [],p,ds,x,h=>by cases h
 | [a],p,ds,x,h=>by
  have h:ifO (a.beq p) (pack a.ls ds)=some x:=h
  obtain ⟨e,hp⟩:=ifO_some h
  show openAlt a (unpack a.ls x)=_
  rw [unpack_pack hp,PT.beq_eq _ _ e]
 | a :: b :: r,p,ds,x,h=>by
  have h:orA (a.beq p) (pack a.ls ds) (injA (b :: r) p ds)=some x:=h
  rcases orA_some h with ⟨e,y,hy,hx⟩ | ⟨y,hy,hx⟩
  ·have hx:x=.inl y:=hx
   subst hx
   show openAlt a (unpack a.ls y)=_
   rw [unpack_pack hy,PT.beq_eq _ _ e]
  ·have hx:x=.inr y:=hx
   subst hx
   exact injA_open (alts:=b :: r) hy
theorem closeA_open {alts:List PT} {r:PV} {σ:List Bx} {x:(shA alts).den} (h:closeA alts r σ=some x):openA alts x=some (r,σ):=by
 unfold closeA at h
 split at h
 ·rename_i bs hb
  split at h
  ·rename_i p ds hs
   rw [injA_open h]
   have:=shape_plug _ hs []
   rw [List.append_nil] at this
   simp only [openAlt,this,bxsV_some hb]
  ·cases h
 ·cases h
theorem elimO_open {R:Type}:∀{alts:List PT} {x:(shA alts).den} {k:PT→List Dyn→Option R} {r:R},elimO alts x k=some r→∃a ds,k a ds=some r∧openA alts x=openAlt a ds
 | [],x,k,r,h=>by cases h
 | [a],x,k,r,h=>⟨a,_,h,rfl⟩
 | a :: b :: q,x,k,r,h=>by
  change (tup a.ls).den⊕(shA (b :: q)).den at x
  cases x with
  | inl y=>exact ⟨a,_,h,rfl⟩
  | inr y=>
   obtain ⟨a',ds,h1,h2⟩:=elimO_open (alts:=b :: q) (x:=y) (k:=k) h
   exact ⟨a',ds,h1,h2⟩
theorem bxsOfV_cells:∀{bs:List PV} {σ:List Bx},bxsOfV bs=some σ→∀b∈σ,∃ty cs,b=.cells ty cs
 | [],σ,h=>by injection h with h;subst h;intro b hb;cases hb
 | x :: xs,σ,h=>by
  simp only [bxsOfV] at h
  split at h
  ·rename_i c hc
   split at h
   ·rename_i l hl
    injection h with h;subst h
    intro b hb
    rcases List.mem_cons.1 hb with rfl | hb
    ·cases x <;> simp only [bxOfV] at hc <;> try cases hc
     split at hc
     ·injection hc with hc;exact ⟨_,_,hc.symm⟩
     ·cases hc
    ·exact bxsOfV_cells hl b hb
   ·cases h
  ·cases h
theorem openAlt_cells {a:PT} {ds:List Dyn} {r:PV} {σ:List Bx} (h:openAlt a ds=some (r,σ)):∀b∈σ,∃ty cs,b=.cells ty cs:=by
 unfold openAlt at h
 split at h
 ·split at h
  ·rename_i hb
   injection h with h;injection h with h1 h2;subst h2
   exact bxsOfV_cells hb
  ·cases h
 ·cases h
theorem openA_cells:∀{alts:List PT} {x:(shA alts).den} {r:PV} {σ:List Bx},openA alts x=some (r,σ)→∀b∈σ,∃ty cs,b=.cells ty cs
 | [],x,r,σ,h=>by cases h
 | [a],x,r,σ,h=>openAlt_cells h
 | a :: b :: q,x,r,σ,h=>by
  change (tup a.ls).den⊕(shA (b :: q)).den at x
  cases x with
  | inl y=>exact openAlt_cells (a:=a) h
  | inr y=>exact openA_cells (alts:=b :: q) (x:=y) h
theorem openA_nofam {alts:List PT} {x:(shA alts).den} {r:PV} {σ:List Bx} (h:openA alts x=some (r,σ)):∀(id:Nat) (al:List PT) (l:List (shA al).den),σ[id]?≠some (Bx.fam al l):=fun id al l e=>by
 obtain ⟨ty,cs,e2⟩:=openA_cells h _ (List.mem_of_getElem? e)
 cases e2
theorem inj_sel:∀{outs:List OS} {f:OS→Option (OS×List Dyn)} {x:denA outs},inj outs f=some x→∃o ds,sel outs x=some (o,ds)∧f o=some (o,ds)
 | [],f,x,h=>by cases h
 | [p],f,x,h=>by
  have h:ifO (fitO p f).1 (pack p.ls (fitO p f).2)=some x:=h
  obtain ⟨e,hp⟩:=ifO_some h
  refine ⟨p,_,?_,fitO_some e⟩
  show some (p,unpack p.ls x)=_
  rw [unpack_pack hp]
 | p :: q :: r,f,x,h=>by
  have h:orO (fitO p f).1 (pack p.ls (fitO p f).2) (inj (q :: r) f)=some x:=h
  rcases orO_some h with ⟨e,a,ha,hx⟩ | ⟨a,ha,hx⟩
  ·have hx:x=.inl a:=hx
   subst hx
   refine ⟨p,_,?_,fitO_some e⟩
   show some (p,unpack p.ls a)=_
   rw [unpack_pack ha]
  ·have hx:x=.inr a:=hx
   subst hx
   obtain ⟨o,ds,h1,h2⟩:=inj_sel (outs:=q :: r) ha
   exact ⟨o,ds,h1,h2⟩
theorem Slot.wide {P:Program} {st st':St} {g g':Gh} {vs vs':Array Value} {w:World} {p:Plc} {x:PV} {v:Value} (h:Slot P st g vs w p x v) (hn:x.noAl=true) (hr:g.rho <+: g'.rho) (hm:∀id i v,g.fam id i=some v→g'.fam id i=some v)
  (hf:∀b i,g.FP b i→g'.FP b i) (ho:∀b,g.ow b=some (.plc p)→g'.ow b=some (.plc p)∧∀i,g'.FP b i→g.FP b i):Slot P st' g' vs' w p x v:=by
 have hR:∀{y u},Rel g w y u→Rel g' w y u:=fun h=>h.mono hr hm hf (fun _ _ _=>rfl)
 have hO:∀{ex e n} {xs:Xs},OwnOk P g w p ex e n xs.els v→OwnOk P g' w p ex e n xs.els v:=by
  rintro ex e n xs (h | ⟨h1,b,cap,hv,hb⟩)
  ·exact .inl h
  ·obtain ⟨k1,k2⟩:=ho b hb.ow
   exact .inr ⟨h1,b,cap,hv,hb.hcap,hb.blk,k1,⟨hb.el.1,fun i j hi hj=>let ⟨u,j1,j2⟩:=hb.el.2 i j hi hj;⟨u,j1,hR j2⟩⟩,fun he i hi=>hb.ex_ he i (k2 i hi),fun i hi hfp=>hb.fr i hi (k2 i hfp)⟩
 cases x with
 | sl fl n xs=>
  cases fl with
  | view=>exact hR h
  | own e=>exact hO h
  | excl e=>exact hO h
 | alias _=>simp [PV.noAl] at hn
 | elem _ _ _=>simp [PV.noAl] at hn
 | dead=>trivial
 | _=>exact hR h
def frO:Option Own→Option Own
 | some _=>some .frame
 | none=>none
def inO (oo o:Option Own):Option Own:=
 match oo with
 | some x=>some x
 | none=>frO o
def Gh.objIn (g go:Gh):Gh:={ rho:=go.rho,FP:=g.FP,ow:=fun b=>inO (go.ow b) (g.ow b),fam:=go.fam }
def outO (id i:Nat) (o oc:Option Own):Option Own:=
 match oc with
 | some .frame=>o
 | some (.plc (.tmp t))=>some (.plc (.tmp t))
 | some _=>some (.obj id i)
 | none=>match o with
  | some (.obj id' i')=>some (.obj id' i')
  | _=>none
def Gh.objOut (g gc:Gh) (id i:Nat):Gh:={ rho:=g.rho,FP:=gc.FP,ow:=fun b=>outO id i (g.ow b) (gc.ow b),fam:=g.fam }
def keepO:Option Own→Option Own
 | some .frame=>none
 | some (.plc (.tmp _))=>none
 | o=>o
def Gh.objRest (gc:Gh):Gh:={ rho:=gc.rho,FP:=gc.FP,ow:=fun b=>keepO (gc.ow b),fam:=gc.fam }
theorem inO_own {oo o:Option Own} {x:Own} (h:oo=some x):inO oo o=some x:=by subst h;rfl
theorem rel_noRef0 {g g':Gh} {w:World} {x:PV} {v:Value} (h:Rel g w x v) (hn:noRef 0 x=true) (hf:g'.FP=g.FP):Rel g' w x v:=by
 have h1:=h.cut hn
 refine Rel.mono (g:=g.cut 0) (g':=g') (w:=w) (w':=w) ?_ (fun id i v hv=>?_) (fun b i hb=>by rw [hf];exact hb) (fun _ _ _=>rfl) h1
 ·show g.rho.take 0 <+: g'.rho
  rw [List.take_zero];exact List.nil_prefix
 ·have hv:(if id<0 then g.fam id i else none)=some v:=hv
  rw [if_neg (by omega)] at hv;cases hv
theorem slot_noRef0 {P:Program} {st st':St} {g g':Gh} {vs vs':Array Value} {w:World} {p p':Plc} {x:PV} {v:Value} (h:Slot P st g vs w p x v) (hn:noRef 0 x=true) (hf:g'.FP=g.FP) (ho:∀b,g.ow b=some (.plc p)→g'.ow b=some (.plc p')):Slot P st' g' vs' w p' x v:=by
 have hO:∀{ex e n} {xs:Xs},OwnOk P g w p ex e n xs.els v→OwnOk P g' w p' ex e n xs.els v:=by
  rintro ex e n xs (h | ⟨h1,b,cap,hv,hb⟩)
  ·exact .inl h
  ·exact .inr ⟨h1,b,cap,hv,hb.hcap,hb.blk,ho b hb.ow,⟨hb.el.1,fun i j hi hj=>let ⟨u,j1,j2⟩:=hb.el.2 i j hi hj;⟨u,j1,rel_noRef0 j2 (Xs.els_get hi hj) hf⟩⟩,fun he i hi=>hb.ex_ he i (by rw [←hf];exact hi),fun i hi hfp=>hb.fr i hi (by rw [←hf];exact hfp)⟩
 cases x with
 | sl fl n xs=>
  cases fl with
  | view=>exact rel_noRef0 (x:=.sl .view n xs) h rfl hf
  | own e=>exact hO h
  | excl e=>exact hO h
 | alias _=>simp [noRef] at hn
 | elem _ _ _=>simp [noRef] at hn
 | dead=>trivial
 | lit a=>exact rel_noRef0 (x:=.lit a) h hn hf
 | ptr a b=>exact rel_noRef0 (x:=.ptr a b) h hn hf
 | nilp=>exact rel_noRef0 (x:=.nilp) h hn hf
 | agg a=>exact rel_noRef0 (x:=.agg a) h hn hf
 | tup a=>exact rel_noRef0 (x:=.tup a) h hn hf
 | ifc a b=>exact rel_noRef0 (x:=.ifc a b) h hn hf
 | fn a b c=>exact rel_noRef0 (x:=.fn a b c) h hn hf
 | map a=>exact rel_noRef0 (x:=.map a) h hn hf
 | elemv a b=>exact rel_noRef0 (x:=.elemv a b) h hn hf
 | oref a b=>exact rel_noRef0 (x:=.oref a b) h hn hf
theorem plain_noAl {x:PV} (h:x.plain=true):x.noAl=true:=by cases x <;> first | rfl | simp [PV.plain] at h
theorem number_get (xs:List PV) (t:Nat) (x:PV) (σ:List Bx) (h:({ ts:=number 0 xs,n:=xs.length,σ }:St).get t=some x):∃ht:t<xs.length,x=xs[t]:=by
 have ht:t<xs.length:=get_lt h
 refine ⟨ht,?_⟩
 simp only [St.get] at h
 rw [if_pos ht,lkp_number,if_pos (by omega),Nat.sub_zero,List.getD_eq_getElem?_getD,List.getElem?_eq_getElem ht] at h
 exact (Option.some.inj h).symm
theorem get_number {xs:List PV} {t:Nat} (σ:List Bx) (ht:t<xs.length):({ ts:=number 0 xs,n:=xs.length,σ }:St).get t=some xs[t]:=by
 simp only [St.get]
 rw [if_pos ht,lkp_number,if_pos (by omega),Nat.sub_zero,List.getD_eq_getElem?_getD,List.getElem?_eq_getElem ht]
 rfl
theorem AbsI.obj {P:Program} {kp:Prop} {name:String} {id i:Nat} {r y:PV} {xs:List PV} {σ σo σo':List Bx} {alts:List PT} {l:List (shA alts).den} {x':(shA alts).den} (h:AbsI P False name (r :: xs) σo y σo')
  (hσ:σ[id]? = some (.fam alts l)) (hi:i<l.length) (hop:openA alts l[i]=some (r,σo)) (hop':openA alts x'=some (r,σo')) (hlen:σo'.length=σo.length)
  (hr:r.plain=true∧r.isOwn=false) (hx:∀z∈xs,noRef 0 z=true∧z.plain=true∧z.isOwn=false) (hy:noRef 0 y=true∧y.noAl=true) :
  AbsI P kp name (.oref id i :: xs) σ y (σ.set id (.fam alts (l.set i x'))):=by
 intro g us w hI T u rest hus
 have hsz:us.size=xs.length+1:=hI.size
 have hrsz:rest.size=xs.length:=by rw [hus,Array.size_append] at hsz;simp at hsz;omega
 have hus0:us[0]? = some (.iface T u):=by rw [hus,Array.getElem?_append_left (by simp)];rfl
 have hus1:∀t,us[t+1]? = rest[t]?:=fun t=>by rw [hus,Array.getElem?_append_right (by simp)];simp
 obtain ⟨v0,hv0,hs0⟩:=hI.slot 0 (.oref id i) (get_number (xs:=.oref id i :: xs) σ (by simp))
 rw [hus0] at hv0
 injection hv0 with hv0
 subst hv0
 have hs0:Rel g w (.oref id i) (.iface T u):=hs0
 have hfam:g.fam id i=some (.iface T u):=by cases hs0 with | oref _ _ _ _ h=>exact h
 obtain ⟨hF1,hF2⟩:=hI.bfam id alts l hσ
 obtain ⟨r',σ',hop2,v,go,j1,j2,j3,j4,j5,j6⟩:=hF2 i l[i] (List.getElem?_eq_getElem hi)
 rw [hop] at hop2
 injection hop2 with hop2
 injection hop2 with e1 e2
 subst e1;subst e2
 rw [hfam] at j1
 injection j1 with j1
 subst j1
 have hgo:∀{b o},go.ow b=some o→g.ow b=some (.obj id i):=fun {b o} hb=>by
  rcases j4 b with e | e
  ·rw [e] at hb;cases hb
  ·exact e
 have hin:∀{b o},go.ow b=some o→(g.objIn go).ow b=some o:=fun {b o} hb=>inO_own hb
 have hfr:∀{b o},g.ow b=some o→o≠.obj id i→(g.objIn go).ow b=some .frame:=fun {b o} hb ho=>by
  have:go.ow b=none:=by
   cases e:go.ow b with
   | none=>rfl
   | some o'=>
    have:=hgo e
    rw [hb] at this
    injection this with this
    exact absurd this ho
  show inO (go.ow b) (g.ow b)=_
  rw [this,hb];rfl
 have hno:∀{b},g.ow b=none→(g.objIn go).ow b=none:=fun {b} hb=>by
  have:go.ow b=none:=by
   cases e:go.ow b with
   | none=>rfl
   | some o'=>
    have:=hgo e
    rw [hb] at this;cases this
  show inO (go.ow b) (g.ow b)=_
  rw [this,hb];rfl
 have hFPo:∀{b o},go.ow b=some o→∀j,g.FP b j→go.FP b j:=fun {b o} hb j hj=>j6 b o j hb hj
 have hIn:Inv P (g.objIn go) { ts:=number 0 (r :: xs),n:=(r :: xs).length,σ:=σo } us w:=
  {size:=hsz
   slot:=fun t x hx0=>by
    obtain ⟨ht,rfl⟩:=number_get _ t x σo hx0
    cases t with
    | zero=>
     obtain ⟨v,hv,hs⟩:=j2.slot 0 r (by simp [St.get,lkp,Nat.beq_refl])
     have:v=.iface T u:=by simpa using hv.symm
     subst this
     exact ⟨_,hus0,hs.wide (plain_noAl hr.1) List.prefix_rfl (fun _ _ _ h=>h) j3 fun b hb=>⟨hin hb,hFPo hb⟩⟩
    | succ t=>
     have ht':t<xs.length:=by simpa using ht
     obtain ⟨v,hv,hs⟩:=hI.slot (t+1) xs[t] (by
      have:=get_number (xs:=.oref id i :: xs) σ (t:=t+1) (by simpa using ht')
      simpa using this)
     obtain ⟨k1,k2,k3⟩:=hx _ (List.getElem_mem ht')
     refine ⟨v,hv,?_⟩
     have hRel:Rel g w xs[t] v:=slot_rel hs k3 (plain_noAl k2) (by intro hd;rw [hd] at k2;simp [PV.plain] at k2)
     exact slot_of_rel (rel_noRef0 hRel k1 rfl) k2
   rlen:=j2.rlen
   box:=fun id2 ty cs b h1 h2=>by
    obtain ⟨c,fz,k1,k2,k3,k4⟩:=j2.box id2 ty cs b h1 h2
    refine ⟨c,fz,k1,k2,k3,fun off x hx=>?_⟩
    obtain ⟨l1,v,l2,l3⟩:=k4 off x hx
    exact ⟨l1,v,l2,l3.wide l1 List.prefix_rfl (fun _ _ _ h=>h) j3 fun b hb=>⟨hin hb,hFPo hb⟩⟩
   bmap:=j2.bmap
   bfam:=fun id2 al l2 e=>absurd e (openA_nofam hop id2 al l2)
   rown:=fun id2 b hk hb=>hin (j2.rown id2 b hk hb)
   fdom:=j2.fdom
   olt:=fun b o hb=>by
    cases e:g.ow b with
    | some o'=>exact hI.olt b o' e
    | none=>rw [hno e] at hb;cases hb
   flt:=hI.flt
   fbox:=fun b j id2 hb hf=>by
    have hb:inO (go.ow b) (g.ow b)=some (.box id2):=hb
    cases e:go.ow b with
    | some o=>
     rw [e] at hb
     have hb:some o=some (.box id2):=hb
     rw [hb] at e
     exact j2.fbox b j id2 e (hFPo e j hf)
    | none=>
     rw [e] at hb
     cases e2:g.ow b with
     | none=>rw [e2] at hb;cases hb
     | some o2=>rw [e2] at hb;cases hb }
 obtain ⟨f,u',hm,hfn,hcalls⟩:=h (g.objIn go) us w hIn T u rest hus
 refine ⟨f,u',hm,hfn,hcalls.mono ?_⟩
 rintro e w' ⟨rv,gc,rfl,i1,hE,-⟩
 have hgf:∀{b o},g.ow b=some o→o≠.obj id i→gc.ow b=some .frame:=fun {b o} hb ho=>hE.frame b (hfr hb ho)
 have hback:∀{b o},g.ow b=some o→o≠.obj id i→(g.objOut gc id i).ow b=some o:=fun {b o} hb ho=>by
  show outO id i (g.ow b) (gc.ow b)=_
  rw [hgf hb ho];exact hb
 have hkeep:∀{b o},g.ow b=some o→o≠.obj id i→w'.heap[b]? = w.heap[b]?:=fun {b o} hb ho=>hE.keep b (hI.olt b o hb) (.inr (hfr hb ho))
 have hfpb:∀{b o},g.ow b=some o→o≠.obj id i→∀j,gc.FP b j→g.FP b j:=fun {b o} hb ho j hj=>hE.fnew b j (hfr hb ho) hj
 have hExt:Ext g (g.objOut gc id i) w w':=
  {rho:=List.prefix_rfl,fam:=fun _ _ _ h=>h,obx:=fun b k _ hb=>hback hb (by simp),fp:=hE.fp,fpc:=hE.fpc
   keep:=fun b hb ho=>by
    rcases ho with ho | ho
    ·exact hE.keep b hb (.inl (hno ho))
    ·exact hkeep ho (by simp)
   size:=hE.size
   frame:=fun b hb=>hback hb (by simp)
   noframe:=fun b hb=>by
    show outO id i (g.ow b) (gc.ow b)≠_
    unfold outO
    split
    ·exact hb
    ·simp
    ·simp
    ·split <;> simp
   none_:=fun b hb hn=>by
    have:=hE.none_ b hb (hno hn)
    show outO id i (g.ow b) (gc.ow b)=_
    rw [this,hn];rfl
   fnew:=fun b j hb hf=>hfpb hb (by simp) j hf
   os:=hE.os,tape:=hE.tape,output:=hE.output }
 have hidl:id<σ.length:=(List.getElem?_eq_some_iff.1 hσ).1
 have hset:∀k,k≠id→(σ.set id (Bx.fam alts (l.set i x')))[k]? = σ[k]?:=fun k hk=>List.getElem?_set_ne (Ne.symm hk)
 have hsets:(σ.set id (Bx.fam alts (l.set i x')))[id]? = some (Bx.fam alts (l.set i x')):=List.getElem?_set_self hidl
 refine ⟨rv,g.objOut gc id i,rfl,?_,hExt,fun _ k b hb ho=>hkeep ho (by simp)⟩
 have hO:∀{k off ex e n} {z:Xs} {v:Value},OwnOk P g w (.cell k off) ex e n z.els v→OwnOk P (g.objOut gc id i) w' (.cell k off) ex e n z.els v:=by
  rintro k off ex e n z v (hk | ⟨hn,b2,cap,hval,hb2⟩)
  ·exact .inl hk
  ·have hh:=hkeep hb2.ow (by simp)
   obtain ⟨c2,fz2,l1,l2,l3⟩:=hb2.blk
   exact .inr ⟨hn,b2,cap,hval,hb2.hcap,⟨c2,fz2,hh.trans l1,l2,l3⟩,hback hb2.ow (by simp),hb2.el.mono hExt (cell_of_heap hh),fun he i hf=>hb2.ex_ he i (hfpb hb2.ow (by simp) i hf),fun i hi hf=>hb2.fr i hi (hfpb hb2.ow (by simp) i hf)⟩
 exact
 {size:=rfl
  slot:=fun t x hx0=>by
   have ht:t<1:=get_lt hx0
   have h0:t=0:=by omega
   subst h0
   have hxr:x=y:=by simpa [St.get,lkp,Nat.beq_refl] using hx0.symm
   subst hxr
   obtain ⟨v,hv,hs⟩:=i1.slot 0 x (by simp [St.get,lkp,Nat.beq_refl])
   exact ⟨v,hv,slot_noRef0 hs hy.1 rfl fun b hb=>by
    show outO id i (g.ow b) (gc.ow b)=_
    rw [hb];rfl⟩
  rlen:=by show g.rho.length=_;rw [List.length_set];exact hI.rlen
  box:=fun k ty cs b h1 h2=>by
   have hk:k≠id:=by rintro rfl;rw [hsets] at h1;cases h1
   rw [hset k hk] at h1
   obtain ⟨c,fz,k1,k2,k3,k4⟩:=hI.box k ty cs b h1 h2
   have hb:=hI.rown k b (famAt_cells h1) h2
   refine ⟨c,fz,(hkeep hb (by simp)).trans k1,k2,k3,fun off x hx=>?_⟩
   obtain ⟨m1,v,m2,m3⟩:=k4 off x hx
   refine ⟨m1,v,m2,?_⟩
   cases x with
   | sl fl n xs=>
    cases fl with
    | view=>exact Rel.ext hExt m3
    | own e=>exact hO m3
    | excl e=>exact hO m3
   | alias _=>simp [PV.noAl] at m1
   | elem _ _ _=>simp [PV.noAl] at m1
   | dead=>trivial
   | _=>exact Rel.ext hExt m3
  bmap:=fun k es b h1 h2=>by
   have hk:k≠id:=by rintro rfl;rw [hsets] at h1;cases h1
   rw [hset k hk] at h1
   obtain ⟨en,ck,k1,k2⟩:=hI.bmap k es b h1 h2
   exact ⟨en,ck,(hkeep (hI.rown k b (famAt_mp h1) h2) (by simp)).trans k1,k2⟩
  bfam:=fun k al l2 h1=>by
   by_cases hk:k=id
   ·subst hk
    rw [hsets] at h1
    injection h1 with h1
    injection h1 with e1 e2
    subst e1
    have e2:=eq_of_heq e2
    subst e2
    refine ⟨fun j v hv=>by rw [List.length_set];exact hF1 j v hv,fun j x hx=>?_⟩
    by_cases hj:j=i
    ·subst hj
     rw [List.getElem?_set_self hi] at hx
     injection hx with hx
     subst hx
     refine ⟨r,σo',hop',.iface T u,gc.objRest,hfam,?_,fun _ _ h=>h,fun b=>?_,fun b hb=>?_,fun b o j _ hj=>hj⟩
     ·have hRr:Rel (g.objIn go) w r (.iface T u):=by
       obtain ⟨v,hv,hs⟩:=hIn.slot 0 r (get_number (xs:=r :: xs) σo (by simp))
       rw [hus0] at hv
       injection hv with hv
       subst hv
       exact slot_rel hs hr.2 (plain_noAl hr.1) (by intro hd;rw [hd] at hr;simp [PV.plain] at hr)
      have hRr':Rel gc w' r (.iface T u):=hRr.ext hE
      have hko:∀{b id2 off},gc.ow b=some (.plc (.cell id2 off))→gc.objRest.ow b=some (.plc (.cell id2 off)):=fun {b id2 off} hb=>by
       show keepO (gc.ow b)=_
       rw [hb];rfl
      exact
      {size:=rfl
       slot:=fun t x hx0=>by
        have ht:t<1:=get_lt hx0
        have h0:t=0:=by omega
        subst h0
        have hxr:x=r:=by simpa [St.get,lkp,Nat.beq_refl] using hx0.symm
        subst hxr
        exact ⟨.iface T u,rfl,slot_of_rel (hRr'.gh rfl rfl) hr.1⟩
       rlen:=i1.rlen
       box:=fun id2 ty cs b k1 k2=>by
        obtain ⟨c,fz,n1,n2,n3,n4⟩:=i1.box id2 ty cs b k1 k2
        refine ⟨c,fz,n1,n2,n3,fun off x hx=>?_⟩
        obtain ⟨m1,v,m2,m3⟩:=n4 off x hx
        exact ⟨m1,v,m2,m3.gh m1 rfl rfl fun b hb=>hko hb⟩
       bmap:=i1.bmap
       nofam:=openA_nofam hop'
       rown:=fun id2 b k1 k2=>by
        show keepO (gc.ow b)=_
        rw [i1.rown id2 b k1 k2];rfl
       fdom:=i1.fdom
       olt:=fun b o hb=>by
        have hb:keepO (gc.ow b)=some o:=hb
        cases e:gc.ow b with
        | none=>rw [e] at hb;cases hb
        | some o'=>exact i1.olt b o' e
       flt:=i1.flt
       fbox:=fun b j id2 hb=>by
        have hb:keepO (gc.ow b)=some (.box id2):=hb
        refine i1.fbox b j id2 ?_
        cases e:gc.ow b with
        | none=>rw [e] at hb;cases hb
        | some o'=>
         rw [e] at hb
         cases o' with
         | box _=>exact hb
         | frame=>cases hb
         | obj _ _=>cases hb
         | plc p=>cases p <;> cases hb }
     ·show keepO (gc.ow b)=none∨outO k j (g.ow b) (gc.ow b)=_
      cases e:gc.ow b with
      | none=>exact .inl rfl
      | some o'=>
       cases o' with
       | box _=>exact .inr rfl
       | frame=>exact .inl rfl
       | obj _ _=>exact .inr rfl
       | plc p=>
        cases p with
        | tmp _=>exact .inl rfl
        | cell _ _=>exact .inr rfl
     ·have hb:keepO (gc.ow b)=some .frame:=hb
      cases e:gc.ow b with
      | none=>rw [e] at hb;cases hb
      | some o'=>
       rw [e] at hb
       cases o' with
       | box _=>cases hb
       | frame=>cases hb
       | obj _ _=>cases hb
       | plc p=>cases p <;> cases hb
    ·rw [List.getElem?_set_ne (Ne.symm hj)] at hx
     obtain ⟨r2,σ2,p1,p2⟩:=hF2 j x hx
     refine ⟨r2,σ2,p1,p2.mono (fun _ h=>h) hE.fp hE.fpc (fun b hb=>?_) hE.size⟩
     have hne:Own.obj k j≠.obj k i:=by intro e;injection e with _ e;exact hj e
     exact ⟨hkeep hb hne,hback hb hne,hfpb hb hne⟩
   ·rw [hset k hk] at h1
    have hne:∀j,Own.obj k j≠.obj id i:=fun j e=>by injection e with e _;exact hk e
    exact (hI.bfam k al l2 h1).mono rfl hE.fp hE.fpc (fun j b hb=>⟨hkeep hb (hne j),hback hb (hne j),hfpb hb (hne j)⟩) hE.size
  rown:=fun k b hk hb=>by
   have hk':famAt σ k=false:=by
    by_cases e:k=id
    ·subst e
     have hk:famAt (σ.set k (Bx.fam alts (l.set i x'))) k=false:=hk
     rw [famAt_some hsets] at hk;cases hk
    ·have hk:famAt (σ.set id (Bx.fam alts (l.set i x'))) k=false:=hk
     unfold famAt at hk ⊢
     rwa [hset k e] at hk
   exact hback (hI.rown k b hk' hb) (by simp)
  fdom:=fun k j v hv=>by rw [List.length_set];exact hI.fdom k j v hv
  olt:=fun b o hb=>by
   have hb:outO id i (g.ow b) (gc.ow b)=some o:=hb
   cases e:gc.ow b with
   | some o'=>exact i1.olt b o' e
   | none=>
    rw [e] at hb
    cases e2:g.ow b with
    | none=>rw [e2] at hb;cases hb
    | some o2=>exact Nat.lt_of_lt_of_le (hI.olt b o2 e2) hE.size
  flt:=i1.flt
  fbox:=fun b j k hb hf=>by
   have hb:outO id i (g.ow b) (gc.ow b)=some (.box k):=hb
   have hgb:g.ow b=some (.box k):=by
    unfold outO at hb
    split at hb
    ·exact hb
    ·cases hb
    ·cases hb
    ·split at hb <;> cases hb
   exact hI.fbox b j k hgb (hfpb hgb (by simp) j hf) }
end Go.AM
