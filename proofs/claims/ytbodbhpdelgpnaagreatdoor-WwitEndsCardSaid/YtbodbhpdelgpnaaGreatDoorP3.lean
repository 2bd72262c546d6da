/- A part of the proof. -/
import Derived.Test.YtbodbhpdelgpnaaGreatDoorP2
set_option linter.unusedVariables false
set_option linter.unusedSimpArgs false
set_option linter.unusedSectionVars false
set_option maxRecDepth 100000
set_option maxHeartbeats 8000000
namespace Ab
open Go
variable [Draws]
structure EOut where
 c:Option Prop
 skip:Bool
 a:AV
 q:Option Nat
 objs:List (Option AObj)
def cond(c:Option Prop):Prop:=match c with|none=>True|some p=>p
def EDoes(P:Program)(X:Nat→Prop)(π:List Value)(objs:List (Option AObj))(w:World)(r:EOut)(s:Sem Next):Prop:=
 ∃v w' π',s.run P w=.ok (if r.skip=true then .skip else .value v) w'∧Tr X π objs w r.q π' r.objs w'∧(r.skip=false→RelV w' (okOf X π' r.objs) π' r.a v)
def ERok(P:Program)(X:Nat→Prop)(π:List Value)(objs:List (Option AObj))(w:World):Option EOut→Sem Next→Prop
 | some r,s=>cond r.c→EDoes P X π objs w r s
 | none,_=>True
theorem z1u{P:Program}{w:World}(e:TypeId)(cs:Array Value):(newRow e cs).run P w=.ok ⟨w.heap.size,0,none⟩ (w.alloc (.cells cs e)):=by
 rfl
def z8i(e:TypeId)(cs:List AV)(objs:List (Option AObj)):EOut:=
 ⟨none,false,.ptr objs.length 0,none,objs++[some (.cells e cs)]⟩
theorem z5n{π:List Value}{objs:List (Option AObj)}(hl:π.length=objs.length)(h:Value):nth (π++[h]) objs.length=some h:=by
 have:=z3t (l:=π) (r:=[h]) (m:=0);rw [Nat.add_zero,hl]at this;rw [this];rfl
theorem z9e{P:Program}{X:Nat→Prop}{π:List Value}{objs:List (Option AObj)}{w:World}(m:Mem X π objs w){e:TypeId}{cs:List AV}{vs:List Value}(h:RelVs w (okOf X π objs) π cs vs)(hf:∀v∈vs,flat v=true)
  {s:Sem Value} (hs:s.run P w=.ok (.pointer (some ⟨w.heap.size,0,none⟩)) (w.alloc (.cells vs.toArray e))):EDoes P X π objs w (z8i e cs objs) (do pure (.value (←s))):=by
 have hh:∀b,blk (.pointer (some ⟨w.heap.size,0,none⟩))=some b→w.heap.size≤b:=by intro b e;cases e;exact Nat.le_refl _
 refine⟨.pointer (some ⟨w.heap.size,0,none⟩),_,π++[.pointer (some ⟨w.heap.size,0,none⟩)],by simp [hs,z8i],zki m (.cells vs.toArray e) _ (.cells e cs) rfl ?_,fun _=>?_⟩
 ·exact .cells (z23 _) (h.mono (zaw _ _ _ m.len hh) (zdp _)) hf
 ·exact .ptr (z5n m.len _)
def zmz(T:Tab)(t:TypeId)(objs:List (Option AObj)):Option EOut:=
 match tlook T t with
 | some r=>some (z8i t (r.zero.map fun v=>.d (.v v)) objs)
 | none=>none
theorem zmy{P:Program}{T:Tab}(hT:TabOk P T){X:Nat→Prop}{π:List Value}{objs:List (Option AObj)}{w:World}(m:Mem X π objs w)(t:TypeId):
  ERok P X π objs w (zmz T t objs) (do pure (.value (←Instr.alloc t true (.tuple #[])))):=by
 unfold zmz;split
 ·rename_i r hr;intro _;obtain⟨z,hz1,hz2,hz3,_⟩:=(zn hT hr).zero;have e:z.cells=r.zero.toArray:=by rw [←hz2]
  exact z9e m (z5w r.zero hz3) hz3 (by simp [Instr.alloc,hz1,newVar,z1u,e])
 ·trivial
def eBox(e:TypeId)(a:AV)(objs:List (Option AObj)):Option EOut:=
 match solid a with
 | true=>some (z8i e a.cells objs)
 | false=>none
theorem zsg{P:Program}{X:Nat→Prop}{π:List Value}{objs:List (Option AObj)}{w:World}(m:Mem X π objs w)(t:TypeId){a:AV}{v:Value}(ha:RelV w (okOf X π objs) π a v):
  ERok P X π objs w (eBox t a objs) (do pure (.value (←Instr.box t v))):=by
 unfold eBox;split
 ·rename_i hs;intro _;obtain⟨h1,h2⟩:=z8m ha hs;exact z9e m h1 h2 (by simp [Instr.box,newVar,z1u])
 ·trivial
theorem z3q{P:Program}:∀(us:List Value) (w:World) (b o i:Nat) (vs:List Value) (e:TypeId) (fz:Nat×Nat),w.heap[b]?=some (.cells vs.toArray e fz)→(∀j,j<vs.length→¬(fz.1≤j∧j<fz.2))→o+i+us.length≤vs.length→(∀u∈us,flat u=true) →
  ∃w',(storeCells ⟨b,o,none⟩ us i).run P w=.ok () w'∧w'.heap[b]?=some (.cells (setsL vs (o+i) us).toArray e fz)∧(∀c,c≠b→w'.heap[c]?=w.heap[c]?)∧w'.heap.size=w.heap.size∧w'.os=w.os∧w'.tape=w.tape∧(w'.output=w.output∧dr w≤dr w')
 | [],w,b,o,i,vs,e,fz,hb,_,_,_=>⟨w,by simp [storeCells],by simpa [setsL]using hb,fun _ _=>rfl,rfl,rfl,rfl,rfl,Nat.le_refl _⟩
 | u::us,w,b,o,i,vs,e,fz,hb,hz,hl,hf=>by
  have hlt:o+i<vs.length:=by simp at hl;omega
  have hc:w.cell? ⟨b,o+i,none⟩=some vs[o+i]:=by rw [cell_of_heap hb,List.getElem?_eq_getElem hlt]
  have hfz:w.frozen? ⟨b,o+i,none⟩=false:=by
   have:=hz (o+i) hlt;simp only [World.frozen?,hb];simpa using this
  have hu:flat u=true:=hf u (by simp);have hstore:(store ⟨b,o+i,none⟩ u).run P w=.ok () (w.setCell ⟨b,o+i,none⟩ u):=by
   unfold store;cases u<;>first|(simp [Sem.run,hc,hfz];done)|(simp [flat]at hu)
  have hb1:(w.setCell ⟨b,o+i,none⟩ u).heap[b]?=some (.cells (vs.set (o+i) u).toArray e fz):=by
   simp [World.setCell,Array.getElem?_modify,hb]
  have hne:∀c,c≠b→(w.setCell ⟨b,o+i,none⟩ u).heap[c]?=w.heap[c]?:=by
   intro c hc;simp [World.setCell,Array.getElem?_modify,hc.symm]
  obtain⟨w',h1,h2,h3,h4,h5,h6,h7⟩:=z3q (P:=P) us (w.setCell ⟨b,o+i,none⟩ u) b o (i+1) (vs.set (o+i) u) e fz hb1 (by simpa using hz) (by simp at hl ⊢;omega) (fun x hx=>hf x (by simp [hx]));refine⟨w',?_,?_,fun c hc=>(h3 c hc).trans (hne c hc),?_,h5,h6,h7⟩
  ·simp only [storeCells,Sem.run_bind,z34,hstore,Result.andThen_ok,h1]
  ·simpa [setsL,Nat.add_assoc]using h2
  ·rw [h4];simp [World.setCell]
theorem z7y:∀(us ws:List Value) (off:Nat),off+us.length≤ws.length→∀k,(setsL ws off us)[k]?=if off≤k∧k<off+us.length then us[k-off]? else ws[k]?
 | [],ws,off,_,k=>by
  simp only [setsL,List.length_nil,Nat.add_zero];rw [if_neg (by omega)]
 | u::us,ws,off,h,k=>by
  simp only [List.length_cons]at h;have ih:=z7y us (ws.set off u) (off+1) (by simp;omega) k;simp only [setsL,ih,List.length_cons];by_cases h1:off+1≤k∧k<off+1+us.length
  ·rw [if_pos h1,if_pos (by omega),show k-off=(k-(off+1))+1 by omega,List.getElem?_cons_succ]
  ·rw [if_neg h1,List.getElem?_set];by_cases h2:off=k
   ·subst h2;rw [if_pos rfl,if_pos (by omega),if_pos (by omega)];simp
   ·rw [if_neg h2,if_neg (by omega)]
def eSet(r:TRow)(objs:List (Option AObj))(i s j off:Nat)(y:D):Option EOut:=
 match objAt objs i with
 | some (.grow e s' xs rd)=>match Nat.beq s s' with
  | false=>none
  | true=>match off with
   | _+1=>none
   | 0=>match Nat.beq s r.size with
    | false=>none
    | true=>some ⟨some (j<xs.length),true,.dead,none,za objs i (some (.grow e s' (xs.set j y) (fun k=>match Nat.beq k j with|true=>y|false=>rd k)))⟩
 | _=>none
theorem zse{P:Program}{X:Nat→Prop}{π:List Value}{objs:List (Option AObj)}{w:World}(m:Mem X π objs w){t:TypeId}{r:TRow}(hr:RowOk P t r){i s j off:Nat}{y:D}{va vx:Value}
  (ha:RelV w (okOf X π objs) π (.ge i s j off) va) (hvl:vx.cells.size=r.size) (hyl:RelL w (okOf X π objs) y.cells vx.cells.toList) :
  ERok P X π objs w (eSet r objs i s j off y) (do Instr.storeAt t va vx;pure .skip):=by
 have hfl:=hyl.flat;unfold eSet;split
 ·rename_i e s' xs rd ho;have ho':=z2v ho;split
  ·trivial
  ·rename_i hs;have hs':s=s':=by simpa using hs
   subst hs';split
   ·trivial
   ·split
    ·trivial
    ·rename_i hsr;have hsr':s=r.size:=by simpa using hsr
     intro hj;have hj:j<xs.length:=hj;obtain⟨h,hp,hrel⟩:=m.obj _ _ ho';cases ha with
     | ge hh=>
      have hp0:=hp;rw [hh]at hp;cases hp;cases hrel with
      | gnil=>exact absurd hj (by simp)
      | grow hb hz he hu hc2 hm2 ho2 hr2=>
       rename_i b o c us vs fz;have hul:=he.length;have hjs:j*s+s≤xs.length*s:=by
        have:=Nat.mul_le_mul_right s (show j+1≤xs.length by omega);rwa [Nat.add_mul,Nat.one_mul]at this
       have hcs:=Nat.mul_le_mul_right s hc2;have hvl2:vx.cells.toList.length=s:=by simp [hvl,hsr']
       obtain⟨w',e1,e2,e3,e4,e5,e6,e7⟩:=z3q (P:=P) vx.cells.toList w b (o+j*s+0) 0 vs e fz hb hz (by rw [hvl2];omega) hfl;simp only [Nat.add_zero]at e1 e2;have hk:=z7z (X:=X) (w':=w') (o':=.grow e s (xs.set j y) (fun k=>match Nat.beq k j with|true=>y|false=>rd k)) ho' hp0 rfl e3;refine⟨undef,w',π,?_,zeh m ho' hp0 rfl e5 e6 e7 e4 e3 ?_,fun h=>by cases h⟩
       ·simp [Instr.storeAt,Instr.sureAddr,storeVar,hr.sizeOf,hvl,e1]
       ·have hset:=(he.set hyl hvl2 j hj).mono hk;have hxl:(xs.set j y).length=xs.length:=by simp
        have:=RelO.grow (π:=π) (e:=e) (rd:=fun k=>match Nat.beq k j with|true=>y|false=>rd k) (o:=o) e2 ?_ hset (fun q hq=>?_) (by rw [hxl];exact hc2) hm2 (by rw [z3f];exact ho2) (fun q hq=>?_)
        ·rwa [hxl]at this
        ·rw [z3f];exact hz
        ·rw [z7y _ _ _ (by rw [hvl2];omega),hvl2];have hlt:(us.take (j*s)).length=j*s:=by rw [List.length_take];omega
         by_cases h1:q<j*s
         ·rw [if_neg (by omega),List.append_assoc,List.getElem?_append_left (by omega),List.getElem?_take,if_pos h1];exact hu q (by omega)
         ·by_cases h2:q<j*s+s
          ·rw [if_pos (by omega),List.append_assoc,List.getElem?_append_right (by omega),hlt,List.getElem?_append_left (by omega)];congr 1;omega
          ·rw [if_neg (by omega),List.getElem?_append_right (by rw [List.length_append,hlt,hvl2];omega),List.length_append,hlt,hvl2,List.getElem?_drop];rw [show j*s+s+(q-(j*s+s))=q by omega];refine hu q ?_;simp only [List.length_append,hlt,hvl2,List.length_drop]at hq;omega
        ·rw [hxl]at hq;rw [List.getElem?_set];by_cases hqj:j=q
         ·subst hqj;simp [hq]
         ·rw [if_neg hqj];have:Nat.beq q j=false:=by
           rw [Bool.eq_false_iff];exact fun e=>hqj (Nat.eq_of_beq_eq_true e).symm
          simp only [this];exact hr2 q hq
 ·trivial
def zmv(T:Tab)(t:TypeId)(objs:List (Option AObj))(addr x:AV):Option EOut:=
 match tlook T t with
 | none=>none
 | some r=>match solid x with
  | false=>none
  | true=>match lenIs x.cells r.size with
   | false=>none
   | true=>match addr with
    | .ptr i off=>match objAt objs i with
     | some (.cells e cs)=>match x.cells with
      | []=>none
      | u::us=>match putAt cs off (u::us)with
       | some cs'=>some ⟨none,true,.dead,none,za objs i (some (.cells e cs'))⟩
       | none=>none
     | _=>none
    | .ge i s j off=>match x with
     | .d y=>eSet r objs i s j off y
     | _=>none
    | _=>none
theorem zmu{P:Program}{T:Tab}(hT:TabOk P T){X:Nat→Prop}{π:List Value}{objs:List (Option AObj)}{w:World}(m:Mem X π objs w){t:TypeId}{addr x:AV}{va vx:Value}
  (ha:RelV w (okOf X π objs) π addr va) (hx:RelV w (okOf X π objs) π x vx):ERok P X π objs w (zmv T t objs addr x) (do Instr.storeAt t va vx;pure .skip):=by
 unfold zmv;split
 ·trivial
 ·rename_i r hr;split
  ·trivial
  ·rename_i hsol;obtain⟨hcells,hfl⟩:=z8m hx hsol;split
   ·trivial
   ·rename_i hlen;have hlen:=z5p hlen;have hvl:vx.cells.size=r.size:=by
     have:=hcells.length;rw [hlen]at this;simpa using this
    split
    ·rename_i i off;split
     ·rename_i e cs ho;have ho':=z2v ho;split
      ·trivial
      ·rename_i u us hu;split
       ·rename_i cs' hput;intro _;rw [←hu]at hput;obtain⟨h,hp,hrel⟩:=m.obj _ _ ho';cases ha with
        | ptr hh=>
         have hp0:=hp;rw [hh]at hp;cases hp;cases hrel with
         | cells hb hvs hf=>
          rename_i b vs;obtain⟨h1,h2⟩:=zan hcells hvs hput;have hle:=h2 (by rw [hu];simp);have hcl:=hvs.length;obtain⟨w',e1,e2,e3,e4,e5,e6,e7⟩:=z3q (P:=P) vx.cells.toList w b off 0 vs e (0,0) hb (by simp) (by simp;omega) hfl;simp only [Nat.add_zero]at e2;have hk:=z7z (X:=X) (w':=w') (o':=.cells e cs') ho' hp0 rfl e3;refine⟨undef,w',π,?_,zeh m ho' hp0 rfl e5 e6 e7 e4 e3 ?_,fun h=>by cases h⟩
          ·simp [Instr.storeAt,Instr.sureAddr,storeVar,(zn hT hr).sizeOf,hvl,e1]
          ·exact .cells e2 (h1.mono hk (fun _ _ h=>h)) (za6 _ _ _ hf hfl)
       ·trivial
     ·trivial
    ·split
     ·rename_i y _;cases hx with
      | d hx=>
       refine zse m (zn hT hr) ha hvl ?_;have e:AV.cells (.d y)=y.cells.map .d:=by cases y<;>rfl
       rw [e]at hcells;exact hcells.toL hfl
     ·trivial
    ·trivial
end Ab
namespace Ab
open Go
variable [Draws]
def zh3(objs:List (Option AObj))(s:Nat)(x:AV):Option (List D×(Nat→D)):=
 match x with
 | .d (.sl s' ys rd)=>match Nat.beq s' s with|true=>some (ys,rd)|false=>none
 | .d (.v (.slice none 0 0))=>some ([],fun _=>.v undef)
 | .e0 _=>some ([],fun _=>.v undef)
 | .gs k=>match objAt objs k with
  | some (.grow _ s' ys rd)=>match Nat.beq s' s with|true=>some (ys,rd)|false=>none
  | _=>none
 | _=>none
theorem z7k{P:Program}{w:World}{b o:Nat}{us:List Value}(hm:∀j,j<us.length→w.cell? ⟨b,o+j,none⟩=us[j]?):(loadCells ⟨b,o,none⟩ us.length).run P w=.ok us.toArray w:=by
 have:=z2f (P:=P) (w:=w) (b:=b) (o:=o) us 0 #[] (fun j hj=>by rw [Nat.add_zero];exact hm j hj);simpa [loadCells]using this
theorem zms{P:Program}{X:Nat→Prop}{π:List Value}{objs:List (Option AObj)}{w:World}(m:Mem X π objs w){s:Nat}{x:AV}{ys:List D}{rd:Nat→D}{v:Value}(h:zh3 objs s x=some (ys,rd))(hx:RelV w (okOf X π objs) π x v):
  ∃A c us,v=.slice A ys.length c∧RelE w (okOf X π objs) s ys us∧(∀w',Ext w w'→(Builtin.firstCells s ys.length v).run P w'=.ok us.toArray w')∧(∀i,i<ys.length→ys[i]?=some (rd i)):=by
 unfold zh3 at h;split at h
 ·split at h
  ·rename_i s' _ _ _ hs;have hs':s'=s:=by simpa using hs
   subst hs';cases h;cases hx with
   | d hx=>cases hx with
    | nil hb=>
     rename_i c A;refine⟨A,c,[],rfl,.nil,fun w' _=>?_,fun i hi=>by simp at hi⟩;cases A<;>simp [Builtin.firstCells,loadCells,loadCellsFrom]
    | sl he hm hc hb hr=>
     rename_i b o c us;refine⟨_,_,us,rfl,he,fun w' hw=>?_,hr⟩;have hl:=he.length;have:=z7k (P:=P) (w:=w') (b:=b) (o:=o) (us:=us) (fun j hj=>by
      have:=(hm j hj).2;rw [List.getElem?_eq_getElem hj]at this ⊢;exact hw.cell this)
     rw [hl]at this;simpa [Builtin.firstCells]using this
  ·cases h
 ·cases h;cases hx with|d hx=>cases hx with|v _=>
  exact⟨_,_,[],rfl,.nil,fun w' _=>by simp [Builtin.firstCells],fun i hi=>by simp at hi⟩
 ·cases h;cases hx;rename_i A;refine⟨A,0,[],rfl,.nil,fun w' _=>?_,fun i hi=>by simp at hi⟩;cases A<;>simp [Builtin.firstCells,loadCells,loadCellsFrom]
 ·split at h
  ·rename_i k e s' ys' rd' ho;split at h
   ·rename_i hs;have hs':s'=s:=by simpa using hs
    subst hs';cases h;obtain⟨hd,hp,hrel⟩:=m.obj _ _ (z2v ho);cases hx with
    | gs hh=>
     rw [hh]at hp;cases hp;cases hrel with
     | gnil=>
      rename_i A;refine⟨A,0,[],rfl,.nil,fun w' _=>?_,fun i hi=>by simp at hi⟩;cases A<;>simp [Builtin.firstCells,loadCells,loadCellsFrom]
     | grow hb hz he hu hc2 hm2 ho2 hr2=>
      rename_i b o c us vs fz;refine⟨_,_,us,rfl,he,fun w' hw=>?_,hr2⟩;have hl:=he.length;have:=z7k (P:=P) (w:=w') (b:=b) (o:=o) (us:=us) (fun j hj=>by
       have h1:=(cell_of_heap (i:=o+j) hb).trans (hu j hj);rw [List.getElem?_eq_getElem hj]at h1 ⊢;exact hw.cell h1)
      rw [hl]at this;simpa [Builtin.firstCells]using this
   ·cases h
  ·cases h
 ·cases h
def strEs(b:ByteArray):List D:=b.data.toList.map fun c=>D.v (.int .u8 (c.toNat:Int))
def strRd(b:ByteArray)(i:Nat):D:=D.v (.int .u8 ((b.data.toList.getD i 0).toNat:Int))
def zmt(objs:List (Option AObj))(k:TK)(s:Nat)(x:AV):Option (List D×(Nat→D)):=
 match k with
 | .slice _=>zh3 objs s x
 | .str=>match x with
  | .d (.v (.string b))=>match Nat.beq s 1 with|true=>some (strEs b,strRd b)|false=>none
  | _=>none
 | _=>none
theorem z5z{w:World}{ok:Nat→Prop}:∀l:List UInt8,RelE w ok 1 (l.map fun c=>D.v (.int .u8 (c.toNat:Int))) (l.map fun c=>Value.int .u8 (c.toNat:Int))
 | []=>.nil
 | c::r=>by
  have:=RelE.cons (s:=1) (x:=D.v (.int .u8 (c.toNat:Int))) (us:=[.int .u8 (c.toNat:Int)]) (.cons (.v rfl) rfl .nil) rfl (z5z (w:=w) (ok:=ok) r);simpa using this
theorem zjt{P:Program}{T:Tab}(hT:TabOk P T){X:Nat→Prop}{π:List Value}{objs:List (Option AObj)}{w:World}(m:Mem X π objs w){t2:TypeId}{r2:TRow}(hr2:tlook T t2=some r2){s:Nat}{x:AV}{ys:List D}{rd:Nat→D}{v:Value}(h:zmt objs r2.kd s x=some (ys,rd))(hx:RelV w (okOf X π objs) π x v):
  ∃us,((∃e2,P.underlying t2=some (.slice e2))∨P.underlying t2=some .string)∧(∀w',(Builtin.lenOf v).run P w'=.ok ys.length w')∧RelE w (okOf X π objs) s ys us∧(∀w',Ext w w'→(Builtin.firstCells s ys.length v).run P w'=.ok us.toArray w')∧(∀i,i<ys.length→ys[i]?=some (rd i)):=by
 unfold zmt at h;split at h
 ·rename_i e hk;obtain⟨A,c,us,rfl,h2,h3,h4⟩:=zms (P:=P) m h hx;exact⟨us,.inl ⟨_,z1c hT hr2 hk⟩,fun w'=>by simp [Builtin.lenOf],h2,h3,h4⟩
 ·rename_i hk;split at h
  ·rename_i b;split at h
   ·rename_i hs;obtain rfl:s=1:=by simpa using hs
    cases h;cases hx with|d hx=>cases hx with|v _=>
    obtain⟨i,d,hi,hd,_,_,_,hkd⟩:=(zn hT hr2).ex;rw [hk]at hkd;refine⟨b.data.toList.map fun c=>Value.int .u8 (c.toNat:Int),.inr (by cases d<;>first|exact hd|exact absurd hkd (by simp [kdOk])),fun w'=>?_,z5z _,fun w' _=>?_,fun i hi=>?_⟩
    ·have:b.size=(strEs b).length:=by
      rw [strEs,List.length_map,Array.length_toList];rfl
     simp only [Builtin.lenOf,this,Sem.run_pure]
    ·have h1:(strEs b).length=b.size:=by
      rw [strEs,List.length_map,Array.length_toList];rfl
     have h2:b.extract 0 b.size=b:=ByteArray.extract_zero_size;rw [h1];simp only [Builtin.firstCells,h2,Sem.run_pure];congr 1;apply Array.ext';simp
    ·have hi':i<b.data.toList.length:=by simpa [strEs]using hi
     simp only [strEs,strRd,List.getElem?_map,List.getElem?_eq_getElem hi',List.getD_eq_getElem?_getD,Option.map_some,Option.getD_some]
   ·cases h
  ·cases h
 ·cases h
theorem z3r{P:Program}{w w':World}{t t2 ty e:TypeId}{rest:List TypeId}{i:TypeInfo}(ht:P.underlying t=some (.slice e))(ht2:(∃e2,P.underlying t2=some (.slice e2))∨P.underlying t2=some .string)(hi:P.info? e=some i)
  {A:Option Addr} {n c m:Nat} {x:Value} {us:List Value} (hln:∀w',(Builtin.lenOf x).run P w'=.ok m w') (hfit:n+m≤c)
  (h2:(Builtin.firstCells i.size m x).run P w=.ok us.toArray w)
  (hs:(match A with|some a=>storeCells (a.add (n*i.size)) us|none=>pure ()).run P w=.ok () w') :
  (Builtin.append_ ⟨t::t2::rest⟩ ty #[.slice A n c,x]).run P w=.ok (.slice A (n+m) c) w':=by
 rcases ht2 with⟨e2,ht2⟩|ht2
 all_goals
  simp [Builtin.append_,hfit,h2,run_underlying ht,run_underlying ht2,z52 hi,hln];cases A with
  | none=>
   simp only [Sem.run_pure]at hs;cases hs;rfl
  | some a=>
   simp only at hs;simp [hs]
theorem z63{P:Program}{w:World}{t t2 ty e:TypeId}{rest:List TypeId}{i:TypeInfo}(ht:P.underlying t=some (.slice e))(ht2:(∃e2,P.underlying t2=some (.slice e2))∨P.underlying t2=some .string)(hi:P.info? e=some i)
  {z:Value} (hz:i.zero=some z)
  {A:Option Addr} {n c m:Nat} {x:Value} {us1 us:List Value} (hln:∀w',(Builtin.lenOf x).run P w'=.ok m w') (hfit:¬n+m≤c) (hb:(n+m)*i.bytes≤140737488355328) (hm:n+m≤maxLen) (hb0:i.bytes≠0)
  (h1:∀w',Ext w w'→(Builtin.firstCells i.size n (.slice A n c)).run P w'=.ok us1.toArray w')
  (h2:∀w',Ext w w'→(Builtin.firstCells i.size m x).run P w'=.ok us.toArray w') :
  ∃(cap:Nat) (w1:World),n+m≤cap∧cap≤maxLen∧w1.heap=w.heap∧w1.os=w.os∧w1.tape=w.tape∧(w1.output=w.output∧dr w≤dr w1) ∧
   (Builtin.append_ ⟨t::t2::rest⟩ ty #[.slice A n c,x]).run P w=.ok (.slice (some ⟨w.heap.size,0,none⟩) (n+m) cap) (w1.alloc (.cells (us1++us++(Builtin.zeroCells z.cells (cap-(n+m))).toList).toArray e)):=by
 have hg:=growslice_fits (need:=n+m) (old:=c) (bytes:=i.bytes) (by omega) hb;have hml:maxLen=9223372036854775807:=rfl;refine⟨(n+m)+w.tape w.drawn (.appendCap (n+m) c e)%(2^63-(n+m)),{ w with drawn:=w.drawn+1 },by omega,?_,rfl,rfl,rfl,⟨rfl,z17 (Nat.le_succ _)⟩,?_⟩
 ·have:w.tape w.drawn (.appendCap (n+m) c e)%(2^63-(n+m))<2^63-(n+m):=Nat.mod_lt _ (by omega);omega
 ·have hask:∀(b:Nat) (w':World),(askRoom b).run P w'=.ok () w':=by
   intro b w';unfold askRoom;split<;>rfl
  have e1:=h1 w.drew (fun _ _=>rfl);have e2':=h2 w.drew (fun _ _=>rfl);have hng:¬(281474976710656<Builtin.nextslicecap (n+m) c*i.bytes):=by omega
  have ha:∀(a b:List Value) (x:Array Value),a.toArray++(b.toArray++x)=(a++(b++x.toList)).toArray:=by
   intro a b x;apply Array.ext';simp
  rcases ht2 with⟨e2,ht2⟩|ht2
  all_goals
   simp [Builtin.append_,hfit,run_underlying ht,run_underlying ht2,z52 hi,hln,run_typeInfo _ hi,hb0,hng,choose,Sem.run,Question.forced,Question.cut,hask,e1,e2',zeroValue,hz,z1u];rw [ha]
theorem z7w(z:Array Value)(n:Nat):(Builtin.zeroCells z n).size=n*z.size:=by simp [Builtin.zeroCells]
def catRd(n:Nat)(rd rd2:Nat→D)(j:Nat):D:=match Nat.blt j n with|true=>rd j|false=>rd2 (j-n)
theorem zit{xs ys:List D}{rd rd2:Nat→D}(h1:∀i,i<xs.length→xs[i]?=some (rd i))(h2:∀i,i<ys.length→ys[i]?=some (rd2 i)):∀i,i<(xs++ys).length→(xs++ys)[i]?=some (catRd xs.length rd rd2 i):=by
 intro i hi;unfold catRd;by_cases h:i<xs.length
 ·have e:Nat.blt i xs.length=true:=by simpa [Nat.blt_eq]using h
  rw [e,List.getElem?_append_left h];exact h1 i h
 ·have e:Nat.blt i xs.length=false:=by
   rw [Bool.eq_false_iff];intro e';exact h (by simpa [Nat.blt_eq]using e')
  rw [e,List.getElem?_append_right (by omega)];rw [List.length_append]at hi;exact h2 _ (by omega)
def zh5(T:Tab)(t t2:TypeId)(objs:List (Option AObj))(s x:AV):Option EOut:=
 match tlook T t with
 | none=>none
 | some r=>match r.kd with
  | .slice e=>match tlook T e with
   | none=>none
   | some re=>match tlook T t2 with
    | none=>none
    | some r2=>match zmt objs r2.kd re.size x with
     | none=>none
     | some (ys,rd2)=>match Nat.beq re.bytes 0 with
      | true=>none
      | false=>match s with
       | .d (.v (.slice none 0 0))=>some ⟨some (ys.length*re.bytes≤140737488355328),false,.gs objs.length,none,objs++[some (.grow e re.size ys rd2)]⟩
       | .e0 _=>some ⟨some (ys.length*re.bytes≤140737488355328),false,.gs objs.length,none,objs++[some (.grow e re.size ys rd2)]⟩
       | .gs i=>match objAt objs i with
        | some (.grow e' s' xs rd)=>match Nat.beq s' re.size with
         | true=>match Nat.beq e' e with
          | true=>some ⟨some ((xs.length+ys.length)*re.bytes≤140737488355328),false,.gs i,some i,za (dropO i objs) i (some (.grow e' s' (xs++ys) (catRd xs.length rd rd2)))⟩
          | false=>none
         | false=>none
        | _=>none
       | _=>none
  | _=>none
end Ab
namespace Ab
open Go
variable [Draws]
theorem RelE.ext{w:World}{ok:Nat→Prop}{s:Nat}{xs ys:List D}{us vs:List Value}(h:RelE w ok s xs us)(k:RelE w ok s ys vs):RelE w ok s (xs++ys) (us++vs):=h.append k
theorem zih{P:Program}{X:Nat→Prop}{π:List Value}{objs:List (Option AObj)}{w w1:World}{e:TypeId}{s n cap:Nat}{zs:List D}{us:List Value}{rd:Nat→D}{rest:List Value}{ok':Nat→Prop}{π':List Value}
  (hk:Keeps w (okOf X π objs) (w1.alloc (.cells (us++rest).toArray e)) ok') (hw1:w1.heap=w.heap) (he:RelE w (okOf X π objs) s zs us) (hn:n=zs.length) (hc:n≤cap+1) (hm:cap+1≤maxLen) (hrest:rest.length=(cap+1-n)*s)
  (hr:∀i,i<zs.length→zs[i]?=some (rd i)):RelO (w1.alloc (.cells (us++rest).toArray e)) ok' π' (.grow e s zs rd) (.slice (some ⟨w.heap.size,0,none⟩) n (cap+1)):=by
 subst hn;have hl:=he.length;refine .grow (us:=us) (vs:=us++rest) (fz:=(0,0)) ?_ (by simp) (he.mono hk) (fun i hi=>?_) hc hm ?_ hr
 ·rw [z1d,hw1];simp
 ·rw [Nat.zero_add,List.getElem?_append_left hi]
 ·rw [List.length_append,hl,hrest,Nat.zero_add,←Nat.add_mul];exact Nat.mul_le_mul_right s (by omega)
theorem zjv{P:Program}{T:Tab}(hT:TabOk P T){X:Nat→Prop}{π:List Value}{objs:List (Option AObj)}{w:World}(m:Mem X π objs w){t t2 ty:TypeId}{rest:List TypeId}{s x:AV}{vs vx:Value}
  (hs:RelV w (okOf X π objs) π s vs) (hx:RelV w (okOf X π objs) π x vx):ERok P X π objs w (zh5 T t t2 objs s x) (do pure (.value (←Builtin.append_ ⟨t::t2::rest⟩ ty #[vs,vx]))):=by
 unfold zh5;split
 ·trivial
 ·rename_i r hr;split
  ·rename_i e hk;have ht:=z1c hT hr hk;split
   ·trivial
   ·rename_i re hre;obtain⟨inf,d0,hi,hd0,hsz,hby,hz0,_⟩:=(zn hT hre).ex;obtain⟨z,hzr,hzc,hzf,_,_⟩:=(zn hT hre).zero;have hzl:z.cells.size=re.size:=by
     have:=(zn hT hre).zl;rw [←hzc]at this;simpa using this
    have hz:inf.zero=some z:=by
     have:=hzr w;simp only [zeroValue,Sem.run_bind,run_typeInfo w hi,Result.andThen_ok]at this;cases h:inf.zero with
     | none=>rw [h]at this;simp [unsupported,Sem.run]at this
     | some z'=>rw [h]at this;simp at this;rw [this]
    split
    ·trivial
    ·rename_i r2 hr2;first
     |skip
      split
      ·trivial
      ·rename_i ys rd2 hel;obtain⟨us,ht2,hln,hE,hload,hrd2⟩:=zjt hT m hr2 hel hx;have hul:=hE.length;split
       ·trivial
       ·rename_i hb0;have hb0':inf.bytes≠0:=by
         rw [hby];intro e;rw [e]at hb0;cases hb0
        have hml:maxLen=9223372036854775807:=rfl;have hbound:∀n:Nat,n*re.bytes≤140737488355328→n≤maxLen:=by
         intro n hn;have:n*1≤n*re.bytes:=Nat.mul_le_mul_left n (by rw [←hby];omega);omega
        -- a slice without capacity
        have key:∀(A:Option Addr),vs=.slice A 0 0→ys.length*re.bytes≤140737488355328 →
          EDoes P X π objs w ⟨some (ys.length*re.bytes≤140737488355328),false,.gs objs.length,none,objs++[some (.grow e re.size ys rd2)]⟩ (do pure (.value (←Builtin.append_ ⟨t::t2::rest⟩ ty #[vs,vx]))):=by
         rintro A rfl hc;by_cases h0:ys.length=0
         ·have hy:ys=[]:=List.eq_nil_of_length_eq_zero h0;subst hy;have hus:us=[]:=by cases hE;rfl
          subst hus;have:=z3r (P:=P) (w:=w) (w':=w) (ty:=ty) (rest:=rest) ht ht2 hi (A:=A) (n:=0) (c:=0) (m:=0) (us:=[]) hln (by omega) (by rw [hsz];exact hload w (Ext.refl w)) (by cases A<;>simp [storeCells]);refine⟨.slice A 0 0,w,π++[.slice A 0 0],by simp [this],z4r m rfl rfl ⟨rfl,z17 (Nat.le_refl _)⟩ (Nat.le_refl _) (fun _ _=>rfl) _ _ (by intro b e;cases A<;>cases e) .gnil,fun _=>.gs (z5n m.len _)⟩
         ·obtain⟨cap,w1,q1,q2,q3,q4,q5,q6,q7⟩:=z63 (P:=P) (w:=w) (ty:=ty) (rest:=rest) ht ht2 hi hz (A:=A) (n:=0) (c:=0) (m:=ys.length) (us1:=[]) (us:=us) hln (by omega) (by rw [hby,Nat.zero_add];exact hc) (by rw [Nat.zero_add];exact hbound _ hc) hb0'
           (fun w' _=>by cases A<;>simp [Builtin.firstCells,loadCells,loadCellsFrom]) (fun w' hw=>by rw [hsz];exact hload w' hw)
          obtain⟨cap',rfl⟩:∃k,cap=k+1:=⟨cap-1,by omega⟩
          simp only [List.nil_append,Nat.zero_add]at q7 q1;have hh:∀b,blk (.slice (some ⟨w.heap.size,0,none⟩) ys.length (cap'+1))=some b→w.heap.size≤b:=by intro b e;cases e;exact Nat.le_refl _
          have hext:∀b,b<w.heap.size→(w1.alloc (.cells (us++(Builtin.zeroCells z.cells (cap'+1-ys.length)).toList).toArray e)).heap[b]?=w.heap[b]?:=by
           intro b hb;rw [z1d,q3,Array.getElem?_push,if_neg (Nat.ne_of_lt hb)]
          have hk2:=z6u (X:=X) (π:=π) (objs:=objs) hext _ (.grow e re.size ys rd2) m.len hh;refine⟨.slice (some ⟨w.heap.size,0,none⟩) ys.length (cap'+1),w1.alloc (.cells (us++(Builtin.zeroCells z.cells (cap'+1-ys.length)).toList).toArray e),π++[.slice (some ⟨w.heap.size,0,none⟩) ys.length (cap'+1)],by simp [q7],z4r (w':=w1.alloc (.cells (us++(Builtin.zeroCells z.cells (cap'+1-ys.length)).toList).toArray e)) m q4 q5 q6 (by rw [z1d,q3];simp) hext _ _ hh ?_,fun _=>.gs (z5n m.len _)⟩;exact zih (P:=P) hk2 q3 hE rfl q1 q2 (by simp [z7w,hzl]) hrd2
        split
        ·cases hs with|d hs=>cases hs with|v _=>
         exact fun hc=>key none rfl hc
        ·cases hs;exact fun hc=>key _ rfl hc
        ·rename_i i;split
         ·rename_i e' s' xs rd ho;split
          ·rename_i hs1;have hs1':s'=re.size:=by simpa using hs1
           subst hs1';split
           ·rename_i he1;have he1':e'=e:=by simpa using he1
            subst he1';intro hc;have hc:(xs.length+ys.length)*re.bytes≤140737488355328:=hc;have ho':=z2v ho;obtain⟨h,hp,hrel⟩:=m.obj _ _ ho';cases hs with
            | gs hh=>
             have hp0:=hp;rw [hh]at hp;cases hp;rename_i n c A
             -- new memory
             have fresh:∀(us1:List Value),n=xs.length→RelE w (okOf X π objs) re.size xs us1→(∀w',Ext w w'→(Builtin.firstCells re.size n (.slice A n c)).run P w'=.ok us1.toArray w')→(∀i,i<xs.length→xs[i]?=some (rd i))→¬n+ys.length≤c →
               EDoes P X π objs w ⟨some ((xs.length+ys.length)*re.bytes≤140737488355328),false,.gs i,some i,za (dropO i objs) i (some (.grow e' re.size (xs++ys) (catRd xs.length rd rd2)))⟩ (do pure (.value (←Builtin.append_ ⟨t::t2::rest⟩ ty #[.slice A n c,vx]))):=by
              intro us1 hn hE1 hl1 hrd1 hnf;subst hn;obtain⟨cap,w1,q1,q2,q3,q4,q5,q6,q7⟩:=z63 (P:=P) (w:=w) (ty:=ty) (rest:=rest) ht ht2 hi hz (A:=A) (n:=xs.length) (c:=c) (m:=ys.length) (us1:=us1) (us:=us) hln hnf (by rw [hby];exact hc) (hbound _ hc) hb0'
               (fun w' hw=>by rw [hsz];exact hl1 w' hw) (fun w' hw=>by rw [hsz];exact hload w' hw)
              obtain⟨cap',rfl⟩:∃k,cap=k+1:=⟨cap-1,by omega⟩
              have hext:∀b,b<w.heap.size→(w1.alloc (.cells (us1++us++(Builtin.zeroCells z.cells (cap'+1-(xs.length+ys.length))).toList).toArray e')).heap[b]?=w.heap[b]?:=by
               intro b hb;rw [z1d,q3,Array.getElem?_push,if_neg (Nat.ne_of_lt hb)]
              have hb':∀b,blk (.slice (some ⟨w.heap.size,0,none⟩) (xs.length+ys.length) (cap'+1))=some b→blk (.slice A xs.length c)=some b∨w.heap.size≤b:=by intro b e;cases e;exact .inr (Nat.le_refl _)
              have hk2:=z65 (X:=X) (o':=.grow e' re.size (xs++ys) (catRd xs.length rd rd2)) ho' hp0 (fun c hc _=>hext c hc) hb';refine⟨.slice (some ⟨w.heap.size,0,none⟩) (xs.length+ys.length) (cap'+1),w1.alloc (.cells (us1++us++(Builtin.zeroCells z.cells (cap'+1-(xs.length+ys.length))).toList).toArray e'),za π i (.slice (some ⟨w.heap.size,0,none⟩) (xs.length+ys.length) (cap'+1)),by simp [q7],
               z4y (w':=w1.alloc (.cells (us1++us++(Builtin.zeroCells z.cells (cap'+1-(xs.length+ys.length))).toList).toArray e')) m ho' hp0 rfl q4 q5 q6 (by rw [z1d,q3];simp) (fun c hc _=>hext c hc) hb' ?_,fun _=>.gs (z1g hp0)⟩
              exact zih (P:=P) hk2 q3 (hE1.append hE) (by simp) q1 q2 (by simp [z7w,hzl]) (zit hrd1 hrd2)
             cases hrel with
             | gnil=>
              by_cases h0:ys.length=0
              ·have hy:ys=[]:=List.eq_nil_of_length_eq_zero h0;subst hy;have hus:us=[]:=by cases hE;rfl
               subst hus;have:=z3r (P:=P) (w:=w) (w':=w) (ty:=ty) (rest:=rest) ht ht2 hi (A:=A) (n:=0) (c:=0) (m:=0) (us:=[]) hln (by omega) (by rw [hsz];exact hload w (Ext.refl w)) (by cases A<;>simp [storeCells]);refine⟨.slice A 0 0,w,za π i (.slice A 0 0),by simp [this],z4y m ho' hp0 rfl rfl rfl ⟨rfl,z17 (Nat.le_refl _)⟩ (Nat.le_refl _) (fun _ _ _=>rfl) (by intro b e;cases A<;>cases e) ?_,fun _=>.gs (z1g hp0)⟩;simpa using RelO.gnil
              ·exact fresh [] rfl .nil (fun w' _=>by cases A<;>simp [Builtin.firstCells,loadCells,loadCellsFrom]) (by simp) (by omega)
             | grow hb hz2 he hu hc2 hm2 ho2 hr2=>
              rename_i b o c us1 vs fz;have hl1:=he.length;by_cases hfit:xs.length+ys.length≤c+1
              ·have hmul:(xs.length+ys.length)*re.size≤(c+1)*re.size:=Nat.mul_le_mul_right _ hfit;rw [Nat.add_mul]at hmul;obtain⟨w',e1,e2,e3,e4,e5,e6,e7⟩:=z3q (P:=P) us w b (o+xs.length*re.size) 0 vs e' fz hb hz2 (by rw [hul];omega) hE.flat;simp only [Nat.add_zero]at e2;have:=z3r (P:=P) (w:=w) (w':=w') (ty:=ty) (rest:=rest) ht ht2 hi (A:=some ⟨b,o,none⟩) (n:=xs.length) (c:=c+1) (m:=ys.length) (us:=us) hln hfit (by rw [hsz];exact hload w (Ext.refl w)) (by simp only [z34,hsz];exact e1);have hb':∀q,blk (.slice (some ⟨b,o,none⟩) (xs.length+ys.length) (c+1))=some q→blk (.slice (some ⟨b,o,none⟩) xs.length (c+1))=some q∨w.heap.size≤q:=fun q e=>.inl e
               have hw:∀q,q<w.heap.size→blk (.slice (some ⟨b,o,none⟩) xs.length (c+1))≠some q→w'.heap[q]?=w.heap[q]?:=fun q _ hq=>e3 q (fun e=>hq (by rw [e];rfl))
               have hk2:=z65 (X:=X) (o':=.grow e' re.size (xs++ys) (catRd xs.length rd rd2)) ho' hp0 hw hb';refine⟨.slice (some ⟨b,o,none⟩) (xs.length+ys.length) (c+1),w',za π i (.slice (some ⟨b,o,none⟩) (xs.length+ys.length) (c+1)),by simp [this],
                z4y m ho' hp0 rfl e5 e6 e7 (by omega) hw hb' ?_,fun _=>.gs (z1g hp0)⟩
               have:=RelO.grow (π:=za π i (.slice (some ⟨b,o,none⟩) (xs.length+ys.length) (c+1))) (e:=e') (o:=o) (c:=c) (rd:=catRd xs.length rd rd2) e2 (by rw [z3f];exact hz2) ((he.append hE).mono hk2) (fun q hq=>?_) (by rw [List.length_append];exact hfit) hm2 (by rw [z3f];exact ho2) (zit hr2 hrd2)
               ·rwa [List.length_append]at this
               ·rw [List.length_append]at hq;rw [z7y _ _ _ (by rw [hul];omega)];by_cases hq1:q<us1.length
                ·rw [if_neg (by omega),List.getElem?_append_left hq1];exact hu q hq1
                ·rw [if_pos (by omega),List.getElem?_append_right (by omega)];congr 1;omega
              ·refine fresh us1 rfl he (fun w' hw=>?_) hr2 hfit;have:=z7k (P:=P) (w:=w') (b:=b) (o:=o) (us:=us1) (fun j hj=>by
                have h1:=(cell_of_heap (i:=o+j) hb).trans (hu j hj);rw [List.getElem?_eq_getElem hj]at h1 ⊢;exact hw.cell h1)
               rw [hl1]at this;simpa [Builtin.firstCells]using this
           ·trivial
          ·trivial
         ·trivial
        ·trivial
  ·trivial
end Ab
namespace Ab
open Go
variable [Draws]
section
variable {X:Nat→Prop}{π:List Value}{objs:List (Option AObj)}{w:World}
theorem z3b(m:Mem X π objs w){w':World}(hos:w'.os=w.os)(htape:w'.tape=w.tape)(hout:w'.output=w.output∧dr w≤dr w')(hsz:w.heap.size≤w'.heap.size)(hw:∀b,b<w.heap.size→w'.heap[b]?=w.heap[b]?):Tr X π objs w none π objs w':=by
 have hk:Keeps w (okOf X π objs) w' (okOf X π objs):=by
  intro b off u h1 h2;have hb:=z32 h2;refine⟨h1,?_⟩;unfold World.cell? at h2 ⊢;rw [hw b hb];exact h2
 have hp:∀j k,nth π j=some k→nth π j=some k:=fun _ _ h=>h
 refine⟨⟨m.len,?_,m.dist,m.ext,fun b hx=>Nat.lt_of_lt_of_le (m.inX b hx) hsz⟩,fun a v h1=>h1.mono hk hp,⟨hos,htape,hout,hsz,fun b hb _=>hw b hb,fun i o h b h1 h2 h3=>.inr ⟨i,o,h,h1,h2,h3⟩,fun _ _ h _=>h⟩⟩;intro i o ho;obtain⟨h,h2,h3⟩:=m.obj i o ho;exact⟨h,h2,h3.mono hk hp (fun b e=>hw b (h3.lt e))⟩
theorem zgm(m:Mem X π objs w):okOf X π objs w.heap.size:=
 ⟨fun hx=>Nat.lt_irrefl _ (m.inX _ hx),fun i o h ho hp e=>Nat.lt_irrefl _ (m.lt ho hp e)⟩
end
def litRd(xs:List D)(j:Nat):D:=match nth xs j with|some x=>x|none=>.v undef
theorem zdt(xs:List D):∀i,i<xs.length→xs[i]?=some (litRd xs i):=by
 intro i hi;unfold litRd;rw [z1k,List.getElem?_eq_getElem hi]
def z3d(s:Nat):Nat→List (Nat×AV)→Option (List D)
 | _,[]=>some []
 | k,(i,a)::r=>match Nat.beq i k with
  | false=>none
  | true=>match a with
   | .d x=>match lenIs x.cells s with
    | true=>match z3d s (k+1) r with
     | some l=>some (x::l)
     | none=>none
    | false=>none
   | _=>none
theorem zds{w:World}{ok:Nat→Prop}{π:List Value}{s:Nat}:∀{k:Nat} {ps:List (Nat×AV)} {xs:List D} {vs:List (Nat×Value)},z3d s k ps=some xs→RelPs w ok π ps vs→∀(done rest:List Value),done.length=k*s→rest.length=xs.length*s →
  ∃us,RelE w ok s xs us∧Instr.fill (fun i=>some (i*s,s)) (done++rest).toArray vs=some (done++us).toArray
 | k,[],xs,vs,h,hp,done,rest,hd,hr=>by
  simp only [z3d,Option.some.injEq]at h;subst h;cases hp;have:rest=[]:=List.eq_nil_of_length_eq_zero (by simpa using hr);subst this;exact⟨[],.nil,by simp [Instr.fill]⟩
 | k,(i,a)::r,xs,vs,h,hp,done,rest,hd,hr=>by
  simp only [z3d]at h;split at h
  ·cases h
  ·rename_i hik;have hik':i=k:=by simpa using hik
   subst hik';split at h
   ·rename_i x;split at h
    ·rename_i hlen;have hlen:=z5p hlen;split at h
     ·rename_i l hl;cases h;cases hp with
      | cons hv ht=>
       rename_i v vs';have hsol:solid (.d x)=true:=rfl;obtain⟨hc,hf⟩:=z8m hv hsol;have e:AV.cells (.d x)=x.cells.map .d:=by cases x<;>rfl
       rw [e]at hc;have hcl:=hc.length;rw [List.length_map,hlen]at hcl;have hcL:=hc.toL hf;rw [List.length_cons,Nat.add_mul,Nat.one_mul]at hr;obtain⟨us,h1,h2⟩:=zds hl ht (done++v.cells.toList) (rest.drop s) (by rw [List.length_append,hd,hcl,Nat.add_mul,Nat.one_mul]) (by rw [List.length_drop];omega);refine⟨v.cells.toList++us,.cons hcL hcl h1,?_⟩;have hvs:v.cells.size=s:=by simpa using hcl
       simp only [Instr.fill];rw [if_neg (by simp [hvs];omega)];rw [←List.append_assoc,←h2];congr 1;have:=za7 (i*s) v.cells.toList 0 (done++rest).toArray;rw [←Array.foldl_toList];simp only [Nat.add_zero]at this;have e2:(v.cells.zipIdx.toList)=v.cells.toList.zipIdx:=by simp
       rw [e2,this];congr 1;apply List.ext_getElem?;intro q;rw [z7y _ _ _ (by simp;omega)];simp only [Array.length_toList,hvs,List.append_assoc];by_cases h1:q<done.length
       ·rw [if_neg (by omega),List.getElem?_append_left h1,List.getElem?_append_left h1]
       ·rw [List.getElem?_append_right (by omega),List.getElem?_append_right (by omega)];by_cases h2:q<done.length+s
        ·rw [if_pos (by omega),List.getElem?_append_left (by omega)];congr 1;omega
        ·rw [if_neg (by omega),List.getElem?_append_right (by omega),List.getElem?_drop];congr 1;omega
     ·cases h
    ·cases h
   ·cases h
def eLit(T:Tab)(t:TypeId)(len:Nat)(ps:List (Nat×AV))(objs:List (Option AObj)):Option EOut:=
 match tlook T t with
 | none=>none
 | some r=>match r.kd with
  | .slice e=>match tlook T e with
   | none=>none
   | some re=>match ps with
    | []=>match len with
     | 0=>some ⟨none,false,.e0 re.size,none,objs⟩
     | _+1=>none
    | p::ps'=>match z3d re.size 0 (p::ps')with
     | none=>none
     | some xs=>match lenIs xs len with
      | false=>none
      | true=>match Nat.ble (len*re.size) 16777216 with
       | true=>match Nat.beq re.size 0 with
        | true=>none
        | false=>some ⟨none,false,.d (.sl re.size xs (litRd xs)),none,objs⟩
       | false=>none
  | _=>none
theorem zsf{P:Program}{T:Tab}(hT:TabOk P T){X:Nat→Prop}{π:List Value}{objs:List (Option AObj)}{w:World}(m:Mem X π objs w){t:TypeId}{len:Nat}{ps:List (Nat×AV)}{vs:List (Nat×Value)}
  (hp:RelPs w (okOf X π objs) π ps vs):ERok P X π objs w (eLit T t len ps objs) (do pure (.value (←Instr.buildSlice t len vs.toArray))):=by
 unfold eLit;split
 ·trivial
 ·rename_i r hr;split
  ·rename_i e hk;have ht:=z1c hT hr hk;split
   ·trivial
   ·rename_i re hre;obtain⟨z,hzr,hzc,hzf,_,_⟩:=(zn hT hre).zero;have hzl:z.cells.size=re.size:=by
     have:=(zn hT hre).zl;rw [←hzc]at this;simpa using this
    split
    ·split
     ·intro _;cases hp;have hsz:=(zn hT hre).sizeOf w;have hrun:(Instr.buildSlice t 0 #[]).run P w=.ok (.slice (some ⟨w.heap.size,0,none⟩) 0 0) (w.alloc (.cells #[] e)):=by
       simp [Instr.buildSlice,run_underlying ht,hsz,z1u,Instr.fill];have e0:Array.range 0 = #[]:=Array.ext' (by simp);rw [e0,Array.map_empty]
      refine⟨_,_,π,by simp only [Sem.run_bind,hrun,Result.andThen_ok,Sem.run_pure];rfl,z3b (w':=w.alloc (.cells #[] e)) m rfl rfl ⟨rfl,z17 (Nat.le_refl _)⟩ (by rw [z1d];simp) (fun b hb=>z1h _ hb),fun _=>.e0⟩
     ·trivial
    ·rename_i p ps';split
     ·trivial
     ·rename_i xs hxs;split
      ·trivial
      ·rename_i hlen;have hlen:=z5p hlen;split
       ·rename_i hble;have hble':len*re.size≤16777216:=by simpa using hble
        split
        ·trivial
        ·rename_i hz0;intro _;obtain⟨us,h1,h2⟩:=zds hxs hp [] ((List.range (len*re.size)).map fun i=>z.cells[i%z.cells.size]!) (by simp) (by simp [hlen]);have hul:=h1.length;simp only [List.nil_append]at h2;have hrun:(Instr.buildSlice t len vs.toArray).run P w=.ok (.slice (some ⟨w.heap.size,0,none⟩) len len) (w.alloc (.cells us.toArray e)):=by
          have hz0':re.size≠0:=by
           intro e;rw [e]at hz0;cases hz0
          have hsz:=(zn hT hre).sizeOf w;have h2':Instr.fill (fun i=>some (i*re.size,re.size)) (Array.map (fun i=>z.cells[i%z.cells.size]!) (Array.range (len*re.size))) vs=some us.toArray:=by
           rw [←h2];congr 1;apply Array.ext';simp
          by_cases hl0:len*re.size=0
          ·have hl00:len=0:=by
            rcases Nat.mul_eq_zero.1 hl0 with h|h
            ·exact h
            ·exact absurd h hz0'
           subst hl00;have hx0:xs=[]:=List.eq_nil_of_length_eq_zero hlen;subst hx0;exfalso;revert hxs;simp only [z3d];repeat' split
           all_goals simp
          ·simp [Instr.buildSlice,run_underlying ht,hsz,hl0,show ¬16777216<len*re.size by omega,hzr,h2',z1u]
         have hext:∀b,b<w.heap.size→(w.alloc (.cells us.toArray e)).heap[b]?=w.heap[b]?:=fun b hb=>z1h _ hb
         have htr:=z3b (w':=w.alloc (.cells us.toArray e)) m rfl rfl ⟨rfl,z17 (Nat.le_refl _)⟩ (by rw [z1d];simp) hext;refine⟨_,_,π,by simp only [Sem.run_bind,hrun,Result.andThen_ok,Sem.run_pure];rfl,htr,fun _=>?_⟩;have hk:Keeps w (okOf X π objs) (w.alloc (.cells us.toArray e)) (okOf X π objs):=fun b o u a1 a2=>⟨a1,zbh _ a2⟩
         subst hlen;refine .d (.sl (us:=us) (h1.mono hk) (fun i hi=>⟨zgm m,?_⟩) (Nat.le_refl _) ?_ (zdt xs))
         ·rw [Nat.zero_add];exact cell_of_heap (fz:=(0,0)) (z23 _)
         ·have hml:maxLen=9223372036854775807:=rfl;have:xs.length*1≤xs.length*re.size:=Nat.mul_le_mul_left _ (by
           have:re.size≠0:=by intro e;rw [e]at hz0;cases hz0
           omega)
          omega
       ·trivial
  ·trivial
end Ab
namespace Ab
open Go
variable [Draws]
def zeroD(r:TRow):D:=
 match r.isAgg with
 | true=>.ag (r.zero.map .v)
 | false=>match r.zero with
  | [v]=>.v v
  | _=>.v undef
theorem ze9{P:Program}{t:TypeId}{r:TRow}(h:RowOk P t r)(w:World)(ok:Nat→Prop):RelL w ok (zeroD r).cells r.zero:=by
 obtain⟨z,_,hz2,hz3,hz4,hz5⟩:=h.zero;have key:∀l:List Value,(∀v∈l,flat v=true)→RelL w ok (l.map .v) l:=by
  intro l;induction l with
  | nil=>intro _;exact .nil
  | cons a r ih=>intro h;exact .cons (.v (h a (by simp))) (h a (by simp)) (ih fun v hv=>h v (by simp [hv]))
 unfold zeroD;cases ha:r.isAgg
 ·have:=hz5 ha;rw [this]at hz3 ⊢;exact key [z] hz3
 ·exact key _ hz3
theorem zbr(l s:Nat)(f:Nat→Value):(List.range ((l+1)*s)).map f=(List.range s).map f++(List.range (l*s)).map (fun i=>f (s+i)):=by
 rw [Nat.add_mul,Nat.one_mul,Nat.add_comm,List.range_add,List.map_append,List.map_map];rfl
theorem ze8{w:World}{ok:Nat→Prop}{s:Nat}{zc:List Value}{zd:D}(hz:RelL w ok zd.cells zc)(hs:zc.length=s):∀(l:Nat),RelE w ok s (List.replicate l zd) ((List.range (l*s)).map fun i=>zc.toArray[i%zc.toArray.size]!)
 | 0=>by simpa using .nil
 | l+1=>by
  rw [List.replicate_succ,zbr];have e1:(List.range s).map (fun i=>zc.toArray[i%zc.toArray.size]!)=zc:=by
   apply List.ext_getElem?;intro i;by_cases hi:i<s
   ·rw [List.getElem?_map,List.getElem?_range hi];have hi':i<zc.length:=by omega
    simp [Nat.mod_eq_of_lt hi',hi']
   ·rw [List.getElem?_eq_none (by simp;omega),List.getElem?_eq_none (by omega)]
  have e2:(fun i=>zc.toArray[(s+i)%zc.toArray.size]!)=fun i=>zc.toArray[i%zc.toArray.size]!:=by
   funext i;have:(s+i)%zc.length=i%zc.length:=by rw [←hs,Nat.add_mod_left]
   simp only [List.size_toArray,this]
  rw [e1,e2];exact .cons hz hs (ze8 hz hs l)
def eMake(T:Tab)(t:TypeId)(objs:List (Option AObj))(len cap:AV):Option EOut:=
 match tlook T t with
 | none=>none
 | some r=>match r.kd with
  | .slice e=>match tlook T e with
   | none=>none
   | some re=>match Nat.beq re.bytes 0 with
    | true=>none
    | false=>match len with
     | .d (.v (.int _ l))=>match cap with
      | .d (.v (.int _ c))=>some ⟨some (0≤l∧l≤c∧c*re.bytes≤281474976710656),false,.gs objs.length,none,objs++[some (.grow e re.size (List.replicate l.toNat (zeroD re)) (fun _=>zeroD re))]⟩
      | _=>none
     | _=>none
  | _=>none
theorem zby{n:Int}(h0:0≤n)(h1:n≤281474976710656):IntKind.i64.wrap n=n:=by
 have:n%(2:Int)^64=n:=Int.emod_eq_of_lt h0 (by omega);simp only [IntKind.wrap,IntKind.bits,IntKind.signed,this];rw [if_neg];simp;omega
theorem zpg{P:Program}{T:Tab}(hT:TabOk P T){X:Nat→Prop}{π:List Value}{objs:List (Option AObj)}{w:World}(m:Mem X π objs w){t:TypeId}{len cap:AV}{vl vc:Value}
  (hl:RelV w (okOf X π objs) π len vl) (hc:RelV w (okOf X π objs) π cap vc):ERok P X π objs w (eMake T t objs len cap) (do pure (.value (←Instr.makeSlice t vl vc))):=by
 unfold eMake;split
 ·trivial
 ·rename_i r hr;split
  ·rename_i e hk;have ht:=z1c hT hr hk;split
   ·trivial
   ·rename_i re hre;obtain⟨inf,d0,hi,hd0,hsz,hby,hz0,_⟩:=(zn hT hre).ex;obtain⟨z,hzr,hzc,hzf,_,_⟩:=(zn hT hre).zero;have hzl:=(zn hT hre).zl;split
    ·trivial
    ·rename_i hb0;have hb0':0<re.bytes:=by
      rcases Nat.eq_zero_or_pos re.bytes with h|h
      ·rw [h]at hb0;cases hb0
      ·exact h
     split
     ·rename_i kl l;cases hl with|d hl=>cases hl with|v _=>
      split
      ·rename_i kc c;cases hc with|d hc=>cases hc with|v _=>
       intro hcond;obtain⟨h1,h2,h3⟩:0≤l∧l≤c∧c*re.bytes≤281474976710656:=hcond;obtain⟨l',rfl⟩:∃l':Nat,l=l':=⟨l.toNat,by omega⟩
       obtain⟨c',rfl⟩:∃c':Nat,c=c':=⟨c.toNat,by omega⟩
       have h3':c'*re.bytes≤281474976710656:=by
        have e:((c'*re.bytes:Nat):Int)=(c':Int)*(re.bytes:Int):=Int.natCast_mul _ _;omega
       have hc1:c'*1≤c'*re.bytes:=Nat.mul_le_mul_left _ hb0';have hlc:l'≤c':=by omega
       have w1:=zby (n:=(l':Int)) (by omega) (by omega);have w2:=zby (n:=(c':Int)) (by omega) (by omega);have hask:∀(b:Nat) (w':World),(askRoom b).run P w'=.ok () w':=by
        intro b w';unfold askRoom;split<;>rfl
       have hz':z.cells=re.zero.toArray:=by rw [←hzc]
       have hcells:(Array.map (fun i=>z.cells[i%z.cells.size]!) (Array.range (c'*re.size)))=((List.range (c'*re.size)).map fun i=>re.zero.toArray[i%re.zero.toArray.size]!).toArray:=by
        rw [hz'];apply Array.ext';rw [Array.toList_map,Array.toList_range]
       have f1:¬((c':Int)<0):=by omega
       have f2:¬((l':Int)<0):=by omega
       have f3:¬(c'<l'):=by omega
       have hrun:(Instr.makeSlice t (.int kl (l':Int)) (.int kc (c':Int))).run P w=.ok (.slice (some ⟨w.heap.size,0,none⟩) l' c') (w.alloc (.cells ((List.range (c'*re.size)).map fun i=>re.zero.toArray[i%re.zero.toArray.size]!).toArray e)):=by
        have hsz':=(zn hT hre).sizeOf w;have hnb:¬((281474976710656:Int)<(re.bytes:Int)*(c':Int)):=by
         rw [Int.mul_comm];omega
        by_cases hn0:c'*re.size=0
        ·have e0:((List.range (c'*re.size)).map fun i=>re.zero.toArray[i%re.zero.toArray.size]!)=[]:=by rw [hn0];rfl
         rw [e0];have e1:Array.range 0 = #[]:=Array.ext' (by rw [Array.toList_range];rfl);simp [Instr.makeSlice,run_underlying ht,asInt,asIntOf,run_typeInfo w hi,hby,w1,w2,hnb,f1,f2,f3,hask,hsz',hn0,z1u,e1]
        ·rw [←hcells];simp [Instr.makeSlice,run_underlying ht,asInt,asIntOf,run_typeInfo w hi,hby,w1,w2,hnb,f1,f2,f3,hask,hsz',hn0,z1u,hzr]
       have hh:∀b,blk (.slice (some ⟨w.heap.size,0,none⟩) l' c')=some b→w.heap.size≤b:=by
        intro b e;cases c' with
        | zero=>cases e
        | succ k=>cases e;exact Nat.le_refl _
       have hk2:=zaw (X:=X) (π:=π) (objs:=objs) (w:=w) (.cells ((List.range (c'*re.size)).map fun i=>re.zero.toArray[i%re.zero.toArray.size]!).toArray e) (.slice (some ⟨w.heap.size,0,none⟩) l' c') (.grow e re.size (List.replicate l' (zeroD re)) (fun _=>zeroD re)) m.len hh;refine⟨.slice (some ⟨w.heap.size,0,none⟩) l' c',_,π++[.slice (some ⟨w.heap.size,0,none⟩) l' c'],by simp only [Sem.run_bind,hrun,Result.andThen_ok,Sem.run_pure];rfl,
        z4r (w':=w.alloc (.cells ((List.range (c'*re.size)).map fun i=>re.zero.toArray[i%re.zero.toArray.size]!).toArray e)) m rfl rfl ⟨rfl,z17 (Nat.le_refl _)⟩ (by rw [z1d];simp) (fun b hb=>z1h _ hb) _ _ hh ?_,fun _=>.gs (z5n m.len _)⟩
       simp only [Int.toNat_natCast];cases c' with
       | zero=>
        obtain rfl:l'=0:=by omega
        exact .gnil
       | succ k=>
        have hE:=ze8 (ze9 (zn hT hre) w (okOf X π objs)) hzl l';have:=RelO.grow (π:=π++[.slice (some ⟨w.heap.size,0,none⟩) l' (k+1)]) (e:=e) (o:=0) (c:=k) (b:=w.heap.size) (rd:=fun _=>zeroD re) (fz:=(0,0)) (z23 _) (by simp) (hE.mono hk2) (fun i hi=>?_) (by simp;omega) (by have:maxLen=9223372036854775807:=rfl;omega) (by simp) (fun i hi=>?_)
        ·rwa [List.length_replicate]at this
        ·simp only [List.length_map,List.length_range]at hi;have hle:l'*re.size≤(k+1)*re.size:=Nat.mul_le_mul_right _ hlc;simp [List.getElem?_map,List.getElem?_range,hi,show i<(k+1)*re.size by omega]
        ·simp only [List.length_replicate]at hi;simp [hi]
      ·trivial
     ·trivial
  ·trivial
def zmx(T:Tab)(t:TypeId)(objs:List (Option AObj))(x:AV)(lo hi mx:Option AV):Option EOut:=
 match tlook T t with
 | none=>none
 | some r=>match r.kd with
  | .slice e=>match mx with
   | some _=>none
   | none=>match tlook T e with
    | none=>none
    | some re=>match x with
     | .gs i=>match objAt objs i with
      | some (.grow e' s xs rd)=>match Nat.beq re.size s with
       | false=>none
       | true=>match bndOf 0 lo with
        | none=>none
        | some l=>match bndOf (xs.length:Int) hi with
         | none=>none
         | some h=>some ⟨some (0≤l∧l≤h∧h≤xs.length),false,.gs i,some i,za (dropO i objs) i (some (.grow e' s ((xs.drop l.toNat).take (h-l).toNat) (fun j=>rd (l.toNat+j))))⟩
      | _=>none
     | _=>none
  | _=>none
theorem zmw{P:Program}{T:Tab}(hT:TabOk P T){X:Nat→Prop}{π:List Value}{objs:List (Option AObj)}{w:World}(m:Mem X π objs w){t:TypeId}{x:AV}{lo hi mx:Option AV}{v:Value}{vl vh vm:Option Value}
  (hx:RelV w (okOf X π objs) π x v) (hl:zbp w (okOf X π objs) π lo vl) (hh:zbp w (okOf X π objs) π hi vh) (hm:zbp w (okOf X π objs) π mx vm) :
  ERok P X π objs w (zmx T t objs x lo hi mx) (do pure (.value (←Instr.sliceAt t v vl vh vm))):=by
 obtain⟨hl1,hl2⟩:=zcc hl;obtain⟨hh1,hh2⟩:=zcc hh;obtain⟨_,hm2⟩:=zcc hm;unfold zmx;split
 ·trivial
 ·rename_i r hr;split
  ·rename_i e hk;have hu:=z1c hT hr hk;split
   ·trivial
   ·have hmn:=hm2 rfl;subst hmn;split
    ·trivial
    ·rename_i re hre;have hsz:=(zn hT hre).sizeOf;split
     ·rename_i i;split
      ·rename_i e' s xs rd ho;have ho':=z2v ho;split
       ·trivial
       ·rename_i hs;have hs':re.size=s:=by simpa using hs
        split
        ·trivial
        ·rename_i l el;split
         ·trivial
         ·rename_i h eh;intro hc
          replace hc:0≤l∧l≤h∧h≤xs.length:=hc
          obtain⟨h',rfl⟩:∃h':Nat,h=h':=⟨h.toNat,by omega⟩
          obtain⟨l',rfl⟩:∃l':Nat,l=l':=⟨l.toNat,by omega⟩
          have hd:((h':Int)-(l':Int)).toNat=h'-l':=by omega
          simp only [hd,Int.toNat_natCast];obtain⟨hv,hp,hrel⟩:=m.obj _ _ ho';cases hx with
          | gs hhh=>
           have hp0:=hp;rw [hhh]at hp;cases hp;have hle:l'≤h':=by omega
           have hle2:h'≤xs.length:=by omega
           cases hrel with
           | gnil=>
            rename_i A;simp only [List.length_nil]at hle2;obtain rfl:h'=0:=by omega
            obtain rfl:l'=0:=by omega
            have hb1:=z54 (P:=P) (b:=true) (len:=0) (cap:=0) hl1 hl2 hh1 hh2 el (by simpa using eh) hc.1 hc.2.1 (by simp) (Nat.zero_le _) w;simp only [Int.toNat_natCast]at hb1;have hrun:(Instr.sliceAt t (.slice A 0 0) vl vh none).run P w=.ok (.slice A 0 0) w:=by
             simp [Instr.sliceAt,run_underlying hu,Instr.slice,hb1,hsz]
            refine⟨_,w,za π i (.slice A 0 0),by simp only [Sem.run_bind,hrun,Result.andThen_ok,Sem.run_pure];rfl,z4y m ho' hp0 rfl rfl rfl ⟨rfl,z17 (Nat.le_refl _)⟩ (Nat.le_refl _) (fun _ _ _=>rfl) (fun b e=>.inl e) ?_,fun _=>.gs (z1g hp0)⟩;simpa using RelO.gnil
           | grow hb hz2 he hu2 hc2 hm3 ho2 hr2=>
            rename_i b o c us vs fz;have hlen:=he.length;have hb1:=z54 (P:=P) (b:=true) (cap:=c+1) hl1 hl2 hh1 hh2 el eh hc.1 hc.2.1 hc.2.2 hc2 w;simp only [Int.toNat_natCast]at hb1;have hrun:(Instr.sliceAt t (.slice (some ⟨b,o,none⟩) xs.length (c+1)) vl vh none).run P w=.ok (.slice (if c+1=l' then some ⟨b,o,none⟩else some ⟨b,o+l'*s,none⟩) (h'-l') (c+1-l')) w:=by
             simp [Instr.sliceAt,run_underlying hu,Instr.slice,hb1,hsz,hs',z34]
            have hlt:((xs.drop l').take (h'-l')).length=h'-l':=by
             rw [List.length_take,List.length_drop];omega
            have hbk:∀q,blk (.slice (if c+1=l' then some ⟨b,o,none⟩else some ⟨b,o+l'*s,none⟩) (h'-l') (c+1-l'))=some q→blk (.slice (some ⟨b,o,none⟩) xs.length (c+1))=some q∨w.heap.size≤q:=by
             intro q e
             left
             by_cases hcl:c+1=l'
             ·rw [if_pos hcl,show c+1-l'=0 by omega]at e;cases e
             ·rw [if_neg hcl,show c+1-l'=(c-l')+1 by omega]at e;exact e
            have hk2:=z65 (X:=X) (w':=w) (o':=.grow e' s ((xs.drop l').take (h'-l')) (fun j=>rd (l'+j))) ho' hp0 (fun _ _ _=>rfl) hbk;refine⟨_,w,za π i (.slice (if c+1=l' then some ⟨b,o,none⟩else some ⟨b,o+l'*s,none⟩) (h'-l') (c+1-l')),by simp only [Sem.run_bind,hrun,Result.andThen_ok,Sem.run_pure];rfl,
             z4y m ho' hp0 rfl rfl rfl ⟨rfl,z17 (Nat.le_refl _)⟩ (Nat.le_refl _) (fun _ _ _=>rfl) hbk ?_,fun _=>.gs (z1g hp0)⟩
            by_cases hcl:c+1=l'
            ·have e0:(xs.drop l').take (h'-l')=[]:=by
              apply List.eq_nil_of_length_eq_zero;rw [hlt];omega
             rw [e0,show h'-l'=0 by omega,show c+1-l'=0 by omega];exact .gnil
            ·rw [if_neg hcl,show c+1-l'=(c-l')+1 by omega];have hmul:o+l'*s+(c-l'+1)*s=o+(c+1)*s:=by
              rw [Nat.add_assoc,←Nat.add_mul];congr 2;omega
             have:=RelO.grow (π:=za π i (.slice (some ⟨b,o+l'*s,none⟩) (h'-l') (c-l'+1))) (e:=e') (o:=o+l'*s) (c:=c-l') (rd:=fun j=>rd (l'+j)) hb hz2 (((he.drop l').take (h'-l')).mono hk2) (fun q hq=>?_) (by rw [hlt];omega) (by omega) (by rw [hmul];exact ho2) (fun q hq=>?_)
             ·rw [hlt]at this;rw [if_neg hcl,show c+1-l'=(c-l')+1 by omega]at *;exact this
             ·rw [List.length_take,List.length_drop]at hq;have h1:=hu2 (l'*s+q) (by omega);rw [Nat.add_assoc,List.getElem?_take,if_pos (by omega),List.getElem?_drop];exact h1
             ·rw [hlt]at hq;rw [List.getElem?_take,if_pos hq,List.getElem?_drop];exact hr2 _ (by omega)
      ·trivial
     ·trivial
  ·trivial
end Ab
namespace Ab
open Go
variable [Draws]
def eCall(T:Tab)(env:Env)(objs:List (Option AObj))(c:Call):Option EOut:=
 match c.callee with
 | .builtin b=>match c.args with
  | ⟨args⟩=>match opnds env args with
   | none=>none
   | some az=>match b with
    | .append=>match az with
     | [s,x]=>match c.argTypes with
      | ⟨t::t2::_⟩=>zh5 T t t2 objs s x
      | _=>none
     | _=>none
    | _=>none
 | _=>none
def estep(T:Tab)(o:Oper)(env:Env)(objs:List (Option AObj)):Option EOut:=
 match o.op with
 | .alloc t=>zmz T t objs
 | .box t x=>match opnd env x with|some a=>eBox t a objs|none=>none
 | .store t a x=>match opnd env a with
  | none=>none
  | some av=>match opnd env x with|some xv=>zmv T t objs av xv|none=>none
 | .buildSlice t len ⟨ps⟩=>match parts env ps with|some az=>eLit T t len az objs|none=>none
 | .makeSlice t l c=>match opnd env l with
  | none=>none
  | some lv=>match opnd env c with|some cv=>eMake T t objs lv cv|none=>none
 | .slice t x lo hi mx=>match opnd env x with
  | none=>none
  | some a=>match opndO env lo with
   | none=>none
   | some l=>match opndO env hi with
    | none=>none
    | some h=>match opndO env mx with
     | none=>none
     | some m=>zmx T t objs a l h m
 | .call c=>eCall T env objs c
 | .makeMap _ none=>some ⟨none,false,.mp objs.length,none,objs++[some (.map [])]⟩
 | _=>none
theorem zh4{P:Program}{X:Nat→Prop}{π:List Value}{objs:List (Option AObj)}{w:World}(m:Mem X π objs w)(t:TypeId):
  ERok P X π objs w (some ⟨none,false,.mp objs.length,none,objs++[some (.map [])]⟩) (do pure (.value (←Instr.makeMap t none))):=by
 intro _;refine⟨.map (some w.heap.size),_,π++[.map (some w.heap.size)],rfl,zki m (.map #[] 0) _ (.map []) rfl ?_,fun _=>.mp (z5n m.len _)⟩;exact .map (ms:=[]) (z23 _) .nil
theorem z3v{P:Program}{T:Tab}(hT:TabOk P T){X:Nat→Prop}{π:List Value}{objs:List (Option AObj)}{w:World}(m:Mem X π objs w){env:Env}{tmps:Array Value}{ds:List Deferred}(he:z13 w (okOf X π objs) π env tmps)(o:Oper):
  ERok P X π objs w (estep T o env objs) (execOp (Act.eval ⟨tmps,ds⟩) o):=by
 unfold estep execOp;split<;>rename_i heq<;>simp only [heq]
 ·exact zmy hT m _
 ·split
  ·rename_i a ha;exact zsg m _ (zf he ha)
  ·trivial
 ·split
  ·trivial
  ·rename_i av hav;split
   ·rename_i xv hxv;exact zmu hT m (zf he hav) (zf he hxv)
   ·trivial
 ·rename_i t len ps;split
  ·rename_i az has;have:=zsf hT m (t:=t) (len:=len) (z6c (ds:=ds) he has);simpa using this
  ·trivial
 ·split
  ·trivial
  ·rename_i lv hlv;split
   ·rename_i cv hcv;exact zpg hT m (zf he hlv) (zf he hcv)
   ·trivial
 ·split
  ·trivial
  ·rename_i a ha;split
   ·trivial
   ·rename_i l hl;split
    ·trivial
    ·rename_i h hh;split
     ·trivial
     ·rename_i mm hm;exact zmw hT m (zf he ha) (z57 he hl) (z57 he hh) (z57 he hm)
 ·rename_i c;obtain⟨callee,⟨args⟩,argTypes⟩:=c;unfold eCall;split
  ·rename_i b hb;subst hb;split;rename_i args' hargs;have hargs':args=args':=by simpa using hargs
   subst hargs';split
   ·trivial
   ·rename_i az has;have hrel:=z3h (ds:=ds) he has;split
    ·split
     ·rename_i s x;split
      ·rename_i t t2 rest heq';have heq'':argTypes=⟨t::t2::rest⟩:=heq';subst heq''
       match args,hrel with
       | [x0,y0],.cons h (.cons h' .nil)=>
        have:=zjv hT m (t:=t) (t2:=t2) (ty:=o.type) (rest:=rest) h h';simpa [resolve,invoke,builtin]using this
      ·trivial
     ·trivial
    ·trivial
  ·trivial
 ·rename_i t;exact zh4 m t
 ·trivial
def z4v(i:Nat):Env→Env
 | []=>[]
 | (t,a)::r=>(t,a.drop i)::z4v i r
def z5v(q:Option Nat)(env:Env):Env:=match q with|none=>env|some i=>z4v i env
theorem z6f(i:Nat):∀(env:Env) (t:Nat),look (z4v i env) t=(look env t).map (AV.drop i)
 | [],t=>rfl
 | (k,a)::r,t=>by
  simp only [z4v,look];split
  ·rfl
  ·exact z6f i r t
theorem zdr(q:Option Nat)(env:Env)(t:Nat):look (z5v q env) t=(look env t).map (keepQ q):=by
 cases q with
 | none=>simp [z5v,keepQ];cases look env t<;>rfl
 | some i=>exact z6f i env t
def putE(n:Nat)(dst:Option Tmp)(a:AV)(env:Env):Option Env:=
 match dst with
 | none=>some env
 | some d=>match Nat.blt d n with
  | true=>some ((d,a)::env)
  | false=>none
inductive Res where
 |branch (nd:Prop) (t:Tmp) (b:Bool) (todo:List Item) (env:Env) (objs:List (Option AObj))
 |call (nd:Prop) (f:FuncId) (args:List AV) (dst:Option Tmp) (todo:List Item) (env:Env) (objs:List (Option AObj))
 |loop (nd:Prop) (todo:List Item) (env:Env) (objs:List (Option AObj))
 |ret (nd:Prop) (r:AV) (objs:List (Option AObj))
 |goto (nd:Prop) (todo:List Item) (env:Env) (objs:List (Option AObj))
 |draw (nd:Prop) (id:Nat) (ops:Array Oper) (todo:List Item) (env:Env) (objs:List (Option AObj))
 |stuck (o:Option Oper) (env:Env) (objs:List (Option AObj))
inductive Want where
 |yes|no|ask (t:Tmp) (b:Bool)|dunno
def wantE(ops:Array Oper)(env:Env)(o:Oper):Want:=
 match o.guard with
 | none=>.yes
 | some (j,g)=>match ops[j]? with
  | none=>.dunno
  | some oj=>match oj.dst with
   | none=>.dunno
   | some t=>match look env t with
    | some (.lit b)=>match b with
     | true=>match g with|true=>.yes|false=>.no
     | false=>match g with|true=>.no|false=>.yes
    | some .und=>.no
    | some (.d (.v (.bool b)))=>.ask t b
    | _=>.dunno
def resOf(T:Tab)(env:Env)(objs:List (Option AObj))(rs:List ResultVar):Option (List AV):=
 match rs with
 | []=>some []
 | .tmp t::r=>match opnd env (.tmp t)with
  | none=>none
  | some a=>match resOf T env objs r with
   | none=>none
   | some l=>some (a::l)
 | .cell t ty::r=>match opnd env (.tmp t)with
  | some (.ptr i off)=>match pLoad T ty objs (.ptr i off)with
   | .ok v=>match resOf T env objs r with
    | none=>none
    | some l=>some (v::l)
   | _=>none
  | _=>none
def tupOf(l:List AV):AV:=match l with | [a]=>a|l=>.tp l
def z4p(env:Env)(o:Oper):Option (FuncId×List AV):=
 match o.op with
 | .call c=>match c.callee with
  | .value (.func f)=>match c.args with
   | ⟨args⟩=>match opnds env args with
    | some az=>some (f,az)
    | none=>none
  | .value (.tmp t)=>match opnd env (.tmp t)with
   | some (.fn (.func f) cs)=>match c.args with
    | ⟨args⟩=>match opnds env args with
     | some az=>some (f,az++cs)
     | none=>none
   | some (.d (.v (.func (.func f) ⟨[]⟩ ⟨[]⟩)))=>match c.args with
    | ⟨args⟩=>match opnds env args with
     | some az=>some (f,az)
     | none=>none
   | _=>none
  | _=>none
 | _=>none
def andP(nd:Prop)(c:Option Prop):Prop:=match c with|none=>nd|some p=>p∧nd
def evalC(env:Env)(c:Operand):Want:=
 match c with
 | .tmp t=>match look env t with
  | some (.lit b)=>match b with|true=>.yes|false=>.no
  | some (.d (.v (.bool b)))=>.ask t b
  | _=>.dunno
 | .const (.bool true)=>.yes
 | .const (.bool false)=>.no
 | _=>.dunno
def skA(sk:Bool)(a:AV):AV:=match sk with|true=>.und|false=>a
def srun(T:Tab)(n:Nat)(rs:List ResultVar):Nat→Prop→List Item→Env→List (Option AObj)→Res
 | 0,nd,todo,env,objs=>.goto nd todo env objs
 | fuel+1,nd,todo,env,objs=>
  match todo with
  | []=>match resOf T env objs rs with|some l=>.ret nd (tupOf l) objs|none=>.stuck none env objs
  | .code c::k=>match c with
   | .skip=>srun T n rs fuel nd k env objs
   | .label _=>srun T n rs fuel nd k env objs
   | .ret=>match resOf T env objs rs with|some l=>.ret nd (tupOf l) objs|none=>.stuck none env objs
   | .seq a b=>srun T n rs fuel nd (.code a::.code b::k) env objs
   | .block id b=>srun T n rs fuel nd (.code b::.inBlock id::k) env objs
   | .scope b=>srun T n rs fuel nd (.code b::.inScope b::k) env objs
   | .loop b=>.loop nd (.code (.loop b)::k) env objs
   | .exit id=>match exitTo id k with|some k'=>srun T n rs fuel nd k' env objs|none=>.stuck none env objs
   | .goto l=>match gotoIn l k with|some k'=>srun T n rs fuel nd k' env objs|none=>.stuck none env objs
   | .cond c x y=>match evalC env c with
    | .yes=>srun T n rs fuel nd (.code x::k) env objs
    | .no=>srun T n rs fuel nd (.code y::k) env objs
    | .ask t b=>.branch nd t b (.code (.cond c x y)::k) env objs
    | .dunno=>.stuck none env objs
   | .region id ops d=>match d with
    | false=>srun T n rs fuel nd (.inRegion ops (List.range ops.size)::k) env objs
    | true=>.draw nd id ops k env objs
   | _=>.stuck none env objs
  | .inBlock _::k=>srun T n rs fuel nd k env objs
  | .inScope _::k=>srun T n rs fuel nd k env objs
  | .inLoop b::k=>.loop nd (.inLoop b::k) env objs
  | .inRegion ops idx::k=>match idx with
   | []=>srun T n rs fuel nd k env objs
   | i::r=>match ops[i]? with
    | none=>.stuck none env objs
    | some o=>match wantE ops env o with
     | .yes=>match pstep T o env objs with
      | .ok a=>match putE n o.dst a env with
       | some e=>srun T n rs fuel nd (.inRegion ops r::k) e objs
       | none=>.stuck (some o) env objs
      | .iff c a=>match putE n o.dst a env with
       | some e=>srun T n rs fuel (c∧nd) (.inRegion ops r::k) e objs
       | none=>.stuck (some o) env objs
      | .no=>match estep T o env objs with
       | some ⟨c,sk,a,q,objs'⟩=>match putE n o.dst (skA sk a) (z5v q env)with
        | some e=>srun T n rs fuel (andP nd c) (.inRegion ops r::k) e objs'
        | none=>.stuck (some o) env objs
       | none=>match z4p env o with
        | some (f,az)=>match putE n o.dst .dead env with
         | some _=>.call nd f az o.dst (.inRegion ops r::k) env objs
         | none=>.stuck (some o) env objs
        | none=>.goto nd (.inRegion ops (i::r)::k) env objs
     | .no=>match putE n o.dst .und env with
      | some e=>srun T n rs fuel nd (.inRegion ops r::k) e objs
      | none=>.stuck (some o) env objs
     | .ask t b=>.branch nd t b (.inRegion ops (i::r)::k) env objs
     | .dunno=>.stuck (some o) env objs
  | _=>.stuck none env objs
end Ab
namespace Ab
open Go
variable [Draws]
class Globals(P:Program) where
 gl:Nat→Prop
 tb:World→Prop
 lt:∀w b,tb w→gl b→b<w.heap.size
 keep:∀w w':World,tb w→(∀b,gl b→w'.heap[b]?=w.heap[b]?)→tb w'
structure GOk(P:Program)[Globals P](π:List Value)(objs:List (Option AObj))(w:World):Prop where
 tb:Globals.tb P w
 fr:∀i o h b,nth objs i=some (some o)→nth π i=some h→blk h=some b→¬Globals.gl P b
theorem GOk.hist{P:Program}[Globals P]{π π':List Value}{objs objs':List (Option AObj)}{w w':World}(g:GOk P π objs w)(h:Hist π objs w π' objs' w'):GOk P π' objs' w':=
 ⟨Globals.keep w w' g.tb fun b hb=>h.heap b (Globals.lt w b g.tb hb) fun i o k h1 h2 h3=>g.fr i o k b h1 h2 h3 hb,fun i o k b h1 h2 h3 hb=>by
  rcases h.own i o k b h1 h2 h3 with h4|⟨j,o',h',q1,q2,q3⟩
  ·exact Nat.lt_irrefl _ (Nat.lt_of_lt_of_le (Globals.lt w b g.tb hb) h4)
  ·exact g.fr j o' h' b q1 q2 q3 hb⟩
theorem GOk.nil{P:Program}[Globals P]{π:List Value}{objs:List (Option AObj)}{w:World}(g:GOk P π objs w):GOk P [] [] w:=⟨g.tb,fun i o h b h1=>by simp [nth]at h1⟩
theorem GOk.sub{P:Program}[Globals P]{π π':List Value}{objs objs':List (Option AObj)}{w:World}(g:GOk P π objs w)(h:∀i o k b,nth objs' i=some (some o)→nth π' i=some k→blk k=some b→∃j o',nth objs j=some (some o')∧nth π j=some k):GOk P π' objs' w:=
 ⟨g.tb,fun i o k b h1 h2 h3=>by
  obtain⟨j,o',q1,q2⟩:=h i o k b h1 h2 h3;exact g.fr j o' k b q1 q2 h3⟩
structure Cx where
 X:Nat→Prop
 π:List Value
 objs:List (Option AObj)
 w:World
 /-- Calls that are put off till the function leaves. -/
 ds:List Deferred
 /-- With what it may panic. -/
 pn:D→Prop
def RPost(C:Cx)(R:AV→List (Option AObj)→Prop)(e:Ending)(w':World):Prop:=
 ∃v r objs' π',e=.returned v∧R r objs'∧Mem C.X π' objs' w'∧RelV w' (okOf C.X π' objs') π' r v∧Hist C.π C.objs C.w π' objs' w'
def PPost(C:Cx)(e:Ending)(w':World):Prop:=
 ∃v x objs' π',e=.panicked [{ v,recovered:=false }]∧C.pn x∧Mem C.X π' objs' w'∧RelV w' (okOf C.X π' objs') π' (.d x) v∧Hist C.π C.objs C.w π' objs' w'
def APost(C:Cx)(R:AV→List (Option AObj)→Prop)(e:Ending)(w':World):Prop:=RPost C R e w'∨PPost C e w'
def ASat(P:Program)(f:FuncId)(n:Nat)(C:Cx)(todo:List Item)(env:Env)(objs:List (Option AObj))(R:AV→List (Option AObj)→Prop):Prop:=
 ∀π w tmps,tmps.size=n→Mem C.X π objs w→Hist C.π C.objs C.w π objs w→z13 w (okOf C.X π objs) π env tmps→Sat P f C.ds todo tmps w (APost C R)
def Invokes(P:Program)(f:FuncId)(args:Array Value)(w:World)(R:Ending→World→Prop):Prop:=
 ((callFunc f args).run P w=.ok (.enter f args) w∧Calls P f args w R)∨∃v w',(callFunc f args).run P w=.ok (.value v) w'∧R (.returned v) w'
theorem Invokes.mono{P:Program}{f:FuncId}{args:Array Value}{w:World}{R R':Ending→World→Prop}(h:Invokes P f args w R)(hr:∀e w',R e w'→R' e w'):Invokes P f args w R':=
 h.imp (fun⟨a,b⟩=>⟨a,b.mono hr⟩) (fun⟨v,w',a,b⟩=>⟨v,w',a,hr _ _ b⟩)
def ACall(P:Program)[Globals P](f:FuncId)(az:List AV)(objs:List (Option AObj))(R:AV→List (Option AObj)→Prop):Prop:=
 ∀X π w vs,GOk P π objs w→Mem X π objs w→RelVs w (okOf X π objs) π az vs→Invokes P f vs.toArray w (RPost ⟨X,π,objs,w,[],fun _=>False⟩ R)
theorem zb{P:Program}{g:FuncId}{fn:Func}{c:Code}(h1:P.funcs[g]?=some fn)(h2:fn.body=some c) (h3:(fn.name == "runtime.NumGoroutine")=false) (args:Array Value) (w:World):(callFunc g args).run P w=.ok (.enter g args) w:=by
 simp only [beq_eq_false_iff_ne]at h3;simp [callFunc,program,Sem.run,h1,h2,h3]
theorem ACall.mono{P:Program}[Globals P]{f:FuncId}{az:List AV}{objs:List (Option AObj)}{R R':AV→List (Option AObj)→Prop}(h:ACall P f az objs R)(hr:∀r o,R r o→R' r o):ACall P f az objs R':=
 fun X π w vs g m hv=>(h X π w vs g m hv).mono fun e w' ⟨v,r,o,π',h1,h2,h3⟩=>⟨v,r,o,π',h1,hr _ _ h2,h3⟩
def envOf:Nat→List AV→Env
 | _,[]=>[]
 | k,a::r=>(k,a)::envOf (k+1) r
theorem zfo{w:World}{ok:Nat→Prop}{π:List Value}:∀{az:List AV} {vs:List Value} (_:RelVs w ok π az vs) (k:Nat) (t:Nat) (a:AV),look (envOf k az) t=some a→k≤t∧∃v,vs[t-k]?=some v∧RelV w ok π a v
 | _,_,.nil,k,t,a,h=>by simp [envOf,look]at h
 | _,_,.cons hx ht,k,t,a,h=>by
  simp only [envOf,look]at h;split at h
  ·rename_i e;have e':k=t:=by simpa using e
   cases h;subst e';exact⟨Nat.le_refl _,_,by simp,hx⟩
  ·obtain⟨h1,v,h2,h3⟩:=zfo ht (k+1) t a h;exact⟨by omega,v,by rw [show t-k=(t-(k+1))+1 by omega];simpa using h2,h3⟩
theorem zhb{P:Program}[Globals P]{f:FuncId}{fn:Func}{c:Code}{az:List AV}{objs:List (Option AObj)}{R:AV→List (Option AObj)→Prop}(hf:P.funcs[f]?=some fn)(hb:fn.body=some c) (hnm:(fn.name == "runtime.NumGoroutine")=false) (hn:az.length≤fn.ntmps)
  (h:∀C:Cx,C.objs=objs→C.π.length=C.objs.length→C.ds=[]→GOk P C.π C.objs C.w→ASat P f fn.ntmps C [.code c] (envOf 0 az) objs R):ACall P f az objs R:=by
 intro X π w vs g m hv;have hl:=hv.length;refine .inl ⟨zb hf hb hnm _ _,(zfw hf hb (h ⟨X,π,objs,w,[],fun _=>False⟩ rfl m.len rfl g π w _ ?_ m (Hist.refl _ _ _) ?_)).mono fun e w' hp=>hp.elim id fun⟨_,_,_,_,_,hf,_⟩=>hf.elim⟩
 ·simp [hl];omega
 ·intro t a ht;obtain⟨_,v,h1,h2⟩:=zfo hv 0 t a ht;have hlt:=(List.getElem?_eq_some_iff.1 h1).1;have:(vs.toArray++Array.replicate (fn.ntmps-vs.toArray.size) undef).getD t undef=v:=by
   simp only [Nat.sub_zero]at h1;simp only [Array.getD_eq_getD_getElem?];rw [Array.getElem?_append_left (by simpa using hlt)];simp [h1]
  rw [this];exact h2
section
variable {P:Program}{T:Tab}{f:FuncId}{n:Nat}{C:Cx}{R:AV→List (Option AObj)→Prop}
theorem z5m{w:World}{ok:Nat→Prop}{π:List Value}{env e:Env}{tmps:Array Value}{dst:Option Tmp}{a:AV}{v:Value}(he:z13 w ok π env tmps)(hn:tmps.size=n)(hp:putE n dst a env=some e)(hv:RelV w ok π a v):
  z13 w ok π e (putT dst v tmps)∧(putT dst v tmps).size=n:=by
 cases dst with
 | none=>simp only [putE,Option.some.injEq]at hp;subst hp;exact⟨he,hn⟩
 | some d=>
  simp only [putE]at hp;cases hb:Nat.blt d n with
  | false=>rw [hb]at hp;cases hp
  | true=>
   have hd':d<n:=by simpa [Nat.blt_eq]using hb
   rw [hb]at hp;cases hp;refine⟨fun t b ht=>?_,by simp [putT,hn]⟩;simp only [putT];simp only [look]at ht;split at ht
   ·rename_i e;have e':d=t:=by simpa using e
    cases ht;subst e';simp only [Array.getD_eq_getD_getElem?,Array.getElem?_setIfInBounds];simp [hn,hd',hv]
   ·rename_i e;have e':d≠t:=by intro e';subst e';simp at e
    have:=he t b ht;simp only [Array.getD_eq_getD_getElem?,Array.getElem?_setIfInBounds]at this ⊢;rwa [if_neg e']
theorem ziy{ops:Array Oper}{tmps:Array Value}{j:Nat}{oj:Oper}{t:Tmp}(hj:ops[j]?=some oj)(hd:oj.dst=some t):yielded ops tmps j=match tmps.getD t undef with | .bool b=>some b|_=>none:=by
 simp only [yielded,hj,Option.bind_some,hd,Array.getD_eq_getD_getElem?];cases tmps[t]? with
 | none=>rfl
 | some v=>cases v<;>rfl
theorem zm{w:World}{ok:Nat→Prop}{π:List Value}{env:Env}{tmps:Array Value}{ops:Array Oper}{o:Oper}(he:z13 w ok π env tmps):
  (wantE ops env o=.yes→Region.wanted o (yielded ops tmps)=true)∧(wantE ops env o=.no→Region.wanted o (yielded ops tmps)=false):=by
 unfold wantE Region.wanted;cases hg:o.guard with
 | none=>simp
 | some jg=>
  obtain⟨j,g⟩:=jg;simp only;cases hj:ops[j]? with
  | none=>simp
  | some oj=>
   simp only;cases hd:oj.dst with
   | none=>simp
   | some t=>
    simp only;cases ht:look env t with
    | none=>simp
    | some a=>
     have hr:=he t a ht;rw [ziy hj hd];revert hr;generalize tmps.getD t undef=v;intro hr;split
     ·rename_i b heq;cases heq;cases hr;cases b<;>cases g<;>simp
     ·rename_i heq;cases heq;cases hr;simp [undef]
     ·simp
     ·simp
end
end Ab
namespace Ab
open Go
variable [Draws]
section
variable {P:Program}{T:Tab}{f:FuncId}{n:Nat}{C:Cx}{R:AV→List (Option AObj)→Prop}
structure Later(w w':World):Prop where
 os:w'.os=w.os
 tape:w'.tape=w.tape
 output:(w'.output=w.output∧dr w≤dr w')
 size:w.heap.size≤w'.heap.size
 ext:Ext w w'
theorem Later.refl(w:World):Later w w:=⟨rfl,rfl,⟨rfl,z17 (Nat.le_refl _)⟩,Nat.le_refl _,Ext.refl w⟩
theorem Later.tr{X:Nat→Prop}{π:List Value}{objs:List (Option AObj)}{w w':World}(m:Mem X π objs w)(l:Later w w'):Tr X π objs w none π objs w':=z3b m l.os l.tape l.output l.size l.ext
def Cont(P:Program)(f:FuncId)(n:Nat)(C:Cx)(R:AV→List (Option AObj)→Prop):Res→Prop
 | .branch nd t b todo env objs=>nd∧(b=true→ASat P f n C todo ((t,.lit true)::env) objs R)∧(b=false→ASat P f n C todo ((t,.lit false)::env) objs R)
 | .call nd g az dst todo env objs=>nd∧(∃e,putE n dst .dead env=some e)∧∀π w tmps,tmps.size=n→Mem C.X π objs w→Hist C.π C.objs C.w π objs w→z13 w (okOf C.X π objs) π env tmps →
   ∀vs,RelVs w (okOf C.X π objs) π az vs→Invokes P g vs.toArray w fun e w2=>(∃v,e=.returned v∧Sat P f C.ds todo (putT dst v tmps) w2 (APost C R))∨∃chain,e=.panicked chain∧∀fn,P.funcs[f]?=some fn→Leaves P fn tmps (APost C R) C.ds (.panicking chain) w2
 | .loop nd todo env objs=>nd∧ASat P f n C todo env objs R
 | .goto nd todo env objs=>nd∧ASat P f n C todo env objs R
 | .draw nd id ops k env objs=>nd∧ASat P f n C (.code (.region id ops true)::k) env objs R
 | .ret nd r objs=>nd∧∀(fn:Func) (π:List Value) (w:World) (tmps:Array Value),P.funcs[f]?=some fn→Mem C.X π objs w→Hist C.π C.objs C.w π objs w→(∀w',Later w w'→∃v,(results fn tmps).run P w'=.ok v w'∧RelV w' (okOf C.X π objs) π r v)→Leaves P fn tmps (APost C R) C.ds .returning w
 | .stuck _ _ _=>False
theorem z22{π π':List Value}{objs objs':List (Option AObj)}{w w':World}{q:Option Nat}(h:Hist C.π C.objs C.w π objs w)(t:Tr C.X π objs w q π' objs' w'):Hist C.π C.objs C.w π' objs' w':=h.trans t.hist
theorem z5c{X:Nat→Prop}{π π':List Value}{objs objs':List (Option AObj)}{w w':World}{q:Option Nat}{env:Env}{tmps:Array Value}(he:z13 w (okOf X π objs) π env tmps)(t:Tr X π objs w q π' objs' w'):z13 w' (okOf X π' objs') π' (z5v q env) tmps:=by
 intro k a hk;rw [zdr]at hk;cases h:look env k with
 | none=>rw [h]at hk;cases hk
 | some b=>
  rw [h]at hk;cases hk;exact t.keep _ _ (he k b h)
def zf3(tmps:Array Value):ResultVar→Sem Value
 | .tmp t=>pure (tmps.getD t undef)
 | .cell a t=>do loadVar t (←asAddr (tmps.getD a undef))
theorem z7j{X:Nat→Prop}{w:World}{π:List Value}{env:Env}{tmps:Array Value}{objs:List (Option AObj)}(hT:TabOk P T)(m:Mem X π objs w)(he:z13 w (okOf X π objs) π env tmps):∀{rs:List ResultVar} {l:List AV},resOf T env objs rs=some l →
  ∃vs,(rs.mapM (zf3 tmps)).run P w=.ok vs w∧RelVs w (okOf X π objs) π l vs
 | [],l,h=>by simp only [resOf,Option.some.injEq]at h;subst h;exact⟨[],by simp,.nil⟩
 | .cell t ty::r,l,h=>by
  simp only [resOf]at h;split at h
  ·rename_i i off ha;split at h
   ·rename_i v hv;split at h
    ·cases h
    ·rename_i l' hl;cases h;obtain⟨vs,h1,h2⟩:=z7j hT m he hl;have hrel:=zf (ds:=[]) he ha;have hld:=zi1 hT m (t:=ty) hrel;rw [hv]at hld;obtain⟨u,hu1,hu2⟩:=hld;refine⟨u::vs,?_,.cons hu1 h2⟩;have hs:(zf3 tmps (.cell t ty)).run P w=.ok u w:=by
      have h3:=hu2 w (.refl w);have h4:Act.eval ⟨tmps,[]⟩ (.tmp t)=tmps.getD t undef:=rfl;rw [h4]at hrel h3;show(do loadVar ty (←asAddr (tmps.getD t undef)):Sem Value).run P w=_;revert hrel h3;generalize tmps.getD t undef=x;intro hrel h3;cases hrel;simpa [Instr.loadAt,Instr.sureAddr,asAddr]using h3
     simp only [List.mapM_cons,Sem.run_bind,hs,Result.andThen_ok,h1,Sem.run_pure]
   ·cases h
  ·cases h
 | .tmp t::r,l,h=>by
  simp only [resOf]at h;split at h
  ·cases h
  ·rename_i a ha;split at h
   ·cases h
   ·rename_i l' hl;cases h;obtain⟨vs,h1,h2⟩:=z7j hT m he hl;have:=zf (ds:=[]) he ha;refine⟨tmps.getD t undef::vs,?_,.cons this h2⟩;simp only [List.mapM_cons,Sem.run_bind,zf3,Sem.run_pure,Result.andThen_ok,h1]
theorem zai{fn:Func}{X:Nat→Prop}{w:World}{π:List Value}{env:Env}{tmps:Array Value}{objs:List (Option AObj)}{l:List AV}(hT:TabOk P T)(m:Mem X π objs w)(he:z13 w (okOf X π objs) π env tmps)(h:resOf T env objs fn.results.toList=some l):
  ∃v,(results fn tmps).run P w=.ok v w∧RelV w (okOf X π objs) π (tupOf l) v:=by
 obtain⟨vs,h1,h2⟩:=z7j (P:=P) hT m he h;have hl:=h2.length;have hrun:(results fn tmps).run P w=.ok (if h:vs.toArray.size=1 then vs.toArray[0]else .tuple vs.toArray) w:=by
  have e:results fn tmps=(do let vs ←fn.results.mapM (zf3 tmps);pure (if h:vs.size=1 then vs[0]else .tuple vs)):=rfl;rw [e];simp only [Sem.run_bind,Array.mapM_eq_mapM_toList];have e2:(List.toArray <$> fn.results.toList.mapM (zf3 tmps)).run P w=.ok vs.toArray w:=by
   simp [h1]
  rw [e2];rfl
 refine⟨_,hrun,?_⟩
 match l,vs,h2 with
 | [],_,.nil=>exact .tp .nil
 | [a],_,.cons hv .nil=>exact hv
 | a::b::r,_,.cons hv (.cons hv' ht)=>exact .tp (.cons hv (.cons hv' ht))
end
end Ab
namespace Ab
open Go
variable [Draws]
section
variable {P:Program}{T:Tab}{f:FuncId}{n:Nat}{C:Cx}{R:AV→List (Option AObj)→Prop}
theorem z2t{w:World}{ok:Nat→Prop}{π:List Value}{env:Env}{tmps:Array Value}{o:Oper}{g:FuncId}{az:List AV}(he:z13 w ok π env tmps)(h:z4p env o=some (g,az)):
  ∃vs,RelVs w ok π az vs∧execOp (Act.eval ⟨tmps,[]⟩) o=callFunc g vs.toArray:=by
 unfold z4p at h;split at h
 ·rename_i c hop;obtain⟨callee,⟨args⟩,at_⟩:=c;split at h
  ·rename_i f' hc;have hc':callee=.value (.func f'):=hc;subst hc';split at h;rename_i args' ha;have ha':args=args':=by simpa using ha
   subst ha';split at h
   ·rename_i az' has;cases h;refine⟨_,z3h (ds:=[]) he has,?_⟩;unfold execOp;simp only [hop];simp [resolve,Deferred.ofValue,invoke,Act.eval]
   ·cases h
  ·rename_i t hc;have hc':callee=.value (.tmp t):=hc;subst hc';split at h
   ·rename_i f' cs ht;split at h;rename_i args' ha;have ha':args=args':=by simpa using ha
    subst ha';split at h
    ·rename_i az' has;cases h;have hv:=zf (ds:=[]) he ht;have hcs:∃us,Act.eval ⟨tmps,[]⟩ (.tmp t)=.func (.func g) #[] us.toArray∧RelVs w ok π cs us:=by
      revert hv;generalize Act.eval ⟨tmps,[]⟩ (.tmp t)=v;intro hv;cases hv with
      | fn h=>exact⟨_,rfl,h⟩
     obtain⟨us,e1,e2⟩:=hcs;refine⟨_,(z3h (ds:=[]) he has).append e2,?_⟩;unfold execOp;simp only [hop];simp [resolve,Deferred.ofValue,invoke,e1]
    ·cases h
   ·rename_i f' ht;split at h;rename_i args' ha;have ha':args=args':=by simpa using ha
    subst ha';split at h
    ·rename_i az' has;cases h;have hv:=zf (ds:=[]) he ht;have e1:Act.eval ⟨tmps,[]⟩ (.tmp t)=.func (.func g) #[] #[]:=by
      revert hv;generalize Act.eval ⟨tmps,[]⟩ (.tmp t)=v;intro hv;cases hv with
      | d h=>cases h;rfl
     refine⟨_,z3h (ds:=[]) he has,?_⟩;unfold execOp;simp only [hop];simp [resolve,Deferred.ofValue,invoke,e1]
    ·cases h
   ·cases h
  ·cases h
 ·cases h
theorem zct{todo:List Item}{env:Env}{objs:List (Option AObj)}{t:Tmp}{b:Bool}(hl:look env t=some (.d (.v (.bool b))))(h1:b=true→ASat P f n C todo ((t,.lit true)::env) objs R)(h2:b=false→ASat P f n C todo ((t,.lit false)::env) objs R):
  ASat P f n C todo env objs R:=by
 intro π w tmps hn hm hh he;have hv:=he t _ hl;have key:∀c:Bool,b=c→z13 w (okOf C.X π objs) π ((t,.lit c)::env) tmps:=by
  rintro c rfl k a hk;simp only [look]at hk;split at hk
  ·rename_i e;have e':t=k:=by simpa using e
   cases hk;subst e';revert hv;generalize tmps.getD t undef=v;intro hv;cases hv with
   | d h=>cases h;exact .lit
  ·exact he k a hk
 cases b with
 | true=>exact h1 rfl π w tmps hn hm hh (key true rfl)
 | false=>exact h2 rfl π w tmps hn hm hh (key false rfl)
theorem zjs{env:Env}{c:Operand}{t:Tmp}{b:Bool}(h:evalC env c=.ask t b):look env t=some (.d (.v (.bool b))):=by
 unfold evalC at h;split at h
 ·split at h
  ·split at h<;>cases h
  ·cases h;assumption
  ·cases h
 ·cases h
 ·cases h
 ·cases h
theorem zbz{ops:Array Oper}{env:Env}{o:Oper}{t:Tmp}{b:Bool}(h:wantE ops env o=.ask t b):look env t=some (.d (.v (.bool b))):=by
 unfold wantE at h;repeat' split at h
 all_goals first
  |(cases h;done)
  |(cases h;assumption)
theorem zfn{w:World}{ok:Nat→Prop}{π:List Value}{env:Env}{tmps:Array Value}(he:z13 w ok π env tmps){c:Operand}:(evalC env c=.yes→Act.eval ⟨tmps,[]⟩ c=.bool true)∧(evalC env c=.no→Act.eval ⟨tmps,[]⟩ c=.bool false):=by
 unfold evalC;split
 ·rename_i t;split
  ·rename_i b hb;have hv:=he t _ hb;revert hv;simp only [Act.eval];generalize tmps.getD t undef=v;intro hv;cases hv;split<;>simp
  ·simp
  ·simp
 ·simp [Act.eval]
 ·simp [Act.eval]
 ·simp
theorem z1j(hT:TabOk P T){fn:Func}(hf:P.funcs[f]?=some fn):∀(fuel:Nat) (nd:Prop) (todo:List Item) (env:Env) (objs:List (Option AObj)),
  Cont P f n C R (srun T n fn.results.toList fuel nd todo env objs)→nd∧ASat P f n C todo env objs R:=by
 intro fuel;induction fuel with
 | zero=>intro nd todo env objs h;exact h
 | succ fuel ih=>
  intro nd todo env objs h;unfold srun at h;cases todo with
  | nil=>
   simp only at h;split at h
   ·rename_i l hl;refine⟨h.1,fun π w tmps hn hm hh he=>?_⟩;exact .endD hf (h.2 _ π w tmps hf hm hh fun w' hl'=>zai (P:=P) hT (hl'.tr hm).mem (z5c he (hl'.tr hm)) hl)
   ·exact h.elim
  | cons it k=>
   cases it with
   | code c=>
    cases c with
    | skip=>obtain⟨h1,h2⟩:=ih _ _ _ _ h;exact⟨h1,fun π w tmps hn hm hh he=>.skip (h2 π w tmps hn hm hh he)⟩
    | label l=>obtain⟨h1,h2⟩:=ih _ _ _ _ h;exact⟨h1,fun π w tmps hn hm hh he=>.label (h2 π w tmps hn hm hh he)⟩
    | seq a b=>obtain⟨h1,h2⟩:=ih _ _ _ _ h;exact⟨h1,fun π w tmps hn hm hh he=>.seq (h2 π w tmps hn hm hh he)⟩
    | block id b=>obtain⟨h1,h2⟩:=ih _ _ _ _ h;exact⟨h1,fun π w tmps hn hm hh he=>.block (h2 π w tmps hn hm hh he)⟩
    | scope b=>obtain⟨h1,h2⟩:=ih _ _ _ _ h;exact⟨h1,fun π w tmps hn hm hh he=>.scope (h2 π w tmps hn hm hh he)⟩
    | loop b=>exact h
    | ret=>
     simp only at h;split at h
     ·rename_i l hl;refine⟨h.1,fun π w tmps hn hm hh he=>?_⟩;exact .retD hf (h.2 _ π w tmps hf hm hh fun w' hl'=>zai (P:=P) hT (hl'.tr hm).mem (z5c he (hl'.tr hm)) hl)
     ·exact h.elim
    | exit id=>
     simp only at h;split at h
     ·rename_i k' hk;obtain⟨h1,h2⟩:=ih _ _ _ _ h;exact⟨h1,fun π w tmps hn hm hh he=>.exit hk (h2 π w tmps hn hm hh he)⟩
     ·exact h.elim
    | goto l=>
     simp only at h;split at h
     ·rename_i k' hk;obtain⟨h1,h2⟩:=ih _ _ _ _ h;exact⟨h1,fun π w tmps hn hm hh he=>.goto hk (h2 π w tmps hn hm hh he)⟩
     ·exact h.elim
    | cond c x y=>
     simp only at h;split at h
     ·rename_i hc;obtain⟨h1,h2⟩:=ih _ _ _ _ h;exact⟨h1,fun π w tmps hn hm hh he=>.cond ((zfn he).1 hc) (h2 π w tmps hn hm hh he)⟩
     ·rename_i hc;obtain⟨h1,h2⟩:=ih _ _ _ _ h;exact⟨h1,fun π w tmps hn hm hh he=>.cond ((zfn he).2 hc) (h2 π w tmps hn hm hh he)⟩
     ·rename_i t b hc;exact⟨h.1,zct (zjs hc) h.2.1 h.2.2⟩
     ·exact h.elim
    | region id ops d=>
     cases d with
     | false=>obtain⟨h1,h2⟩:=ih _ _ _ _ h;exact⟨h1,fun π w tmps hn hm hh he=>.region (h2 π w tmps hn hm hh he)⟩
     | true=>exact h
    | rangeFunc _ _ _ _=>exact h.elim
    | refuse _=>exact h.elim
   | inBlock id=>obtain⟨h1,h2⟩:=ih _ _ _ _ h;exact⟨h1,fun π w tmps hn hm hh he=>.inBlock (h2 π w tmps hn hm hh he)⟩
   | inScope c=>obtain⟨h1,h2⟩:=ih _ _ _ _ h;exact⟨h1,fun π w tmps hn hm hh he=>.inScope (h2 π w tmps hn hm hh he)⟩
   | inLoop b=>exact h
   | inRegion ops idx=>
    cases idx with
    | nil=>obtain⟨h1,h2⟩:=ih _ _ _ _ h;exact⟨h1,fun π w tmps hn hm hh he=>.regionEnd (h2 π w tmps hn hm hh he)⟩
    | cons i r=>
     simp only at h;cases ho:ops[i]? with
     | none=>rw [ho]at h;exact h.elim
     | some o=>
      rw [ho]at h;simp only at h;cases hw:wantE ops env o with
      | yes=>
       rw [hw]at h;simp only at h;cases hp:pstep T o env objs with
       | ok a=>
        rw [hp]at h;simp only at h;cases hput:putE n o.dst a env with
        | none=>rw [hput]at h;exact h.elim
        | some e=>
         rw [hput]at h;obtain⟨h1,h2⟩:=ih _ _ _ _ h;refine⟨h1,fun π w tmps hn hm hh he=>?_⟩;have hdo:=z3c (ds:=[]) hT hm he o;rw [hp]at hdo;obtain⟨v,d1,d2⟩:=hdo;obtain⟨p1,p2⟩:=z5m he hn hput d1;exact .opVal ho ((zm he).1 hw) (d2 w (Ext.refl w)) (h2 π w _ p2 hm hh p1)
       | iff c a=>
        rw [hp]at h;simp only at h;cases hput:putE n o.dst a env with
        | none=>rw [hput]at h;exact h.elim
        | some e=>
         rw [hput]at h;obtain⟨h1,h2⟩:=ih _ _ _ _ h;refine⟨h1.2,fun π w tmps hn hm hh he=>?_⟩;have hdo:=z3c (ds:=[]) hT hm he o;rw [hp]at hdo;obtain⟨v,d1,d2⟩:=hdo h1.1;obtain⟨p1,p2⟩:=z5m he hn hput d1;exact .opVal ho ((zm he).1 hw) (d2 w (Ext.refl w)) (h2 π w _ p2 hm hh p1)
       | no=>
        rw [hp]at h;simp only at h;cases hes:estep T o env objs with
        | some r'=>
         obtain⟨c,sk,a,q,objs'⟩:=r';rw [hes]at h;simp only at h;cases hput:putE n o.dst (skA sk a) (z5v q env)with
         | none=>rw [hput]at h;exact h.elim
         | some e=>
          rw [hput]at h;obtain⟨h1,h2⟩:=ih _ _ _ _ h;have hc:cond c∧nd:=by
           cases c with
           | none=>exact⟨trivial,h1⟩
           | some p=>exact h1
          refine⟨hc.2,fun π w tmps hn hm hh he=>?_⟩;have hdo:=z3v (ds:=[]) hT hm he o;rw [hes]at hdo;obtain⟨v,w',π',d1,d2,d3⟩:=hdo hc.1;have he':=z5c he d2;cases sk with
          | true=>
           obtain⟨p1,p2⟩:=z5m he' hn hput (.und);exact .opUnit ho ((zm he).1 hw) (by simpa using d1) (h2 π' w' _ p2 d2.mem (z22 hh d2) p1)
          | false=>
           obtain⟨p1,p2⟩:=z5m he' hn hput (d3 rfl);exact .opVal ho ((zm he).1 hw) (by simpa using d1) (h2 π' w' _ p2 d2.mem (z22 hh d2) p1)
        | none=>
         rw [hes]at h;simp only at h;cases hco:z4p env o with
         | none=>rw [hco]at h;exact h
         | some ga=>
          obtain⟨g,az⟩:=ga;rw [hco]at h;simp only at h;cases hput:putE n o.dst .dead env with
          | none=>rw [hput]at h;exact h.elim
          | some e=>
           rw [hput]at h;obtain⟨h1,_,h2⟩:=h;refine⟨h1,fun π w tmps hn hm hh he=>?_⟩;obtain⟨vs,c1,c2⟩:=z2t he hco;rcases h2 π w tmps hn hm hh he vs c1 with⟨i1,i2⟩|⟨v,w',i1,i2⟩
           ·exact .opCallP hf ho ((zm he).1 hw) (by rw [c2];exact i1) (i2.mono fun e w2 hq=>hq.imp_right fun⟨ch,q1,q2⟩=>⟨ch,q1,q2 _ hf⟩)
           ·rcases i2 with⟨v',i3,i4⟩|⟨ch,i3,_⟩
            ·cases i3;exact .opVal ho ((zm he).1 hw) (by rw [c2];exact i1) i4
            ·cases i3
      | no=>
       rw [hw]at h;simp only at h;cases hput:putE n o.dst .und env with
       | none=>rw [hput]at h;exact h.elim
       | some e=>
        rw [hput]at h;obtain⟨h1,h2⟩:=ih _ _ _ _ h;refine⟨h1,fun π w tmps hn hm hh he=>?_⟩;obtain⟨p1,p2⟩:=z5m he hn hput .und;exact .opSkip ho ((zm he).2 hw) (h2 π w _ p2 hm hh p1)
      | ask t b=>
       rw [hw]at h;exact⟨h.1,zct (zbz hw) h.2.1 h.2.2⟩
      | dunno=>rw [hw]at h;exact h.elim
   | inRangeFunc _=>exact h.elim
   | endRangeFunc _=>exact h.elim
   | beginRound=>exact h.elim
   | call _ _ _ _=>exact h.elim
   | extern _ _=>exact h.elim
end
end Ab
namespace Ab
open Go
variable [Draws]
section
variable {P:Program}{T:Tab}{f:FuncId}{fn:Func}{n:Nat}{C:Cx}{R:AV→List (Option AObj)→Prop}{todo todo':List Item}{env env':Env}{objs objs':List (Option AObj)}{nd:Prop}
theorem z8r{t:Tmp}{b:Bool}(hT:TabOk P T)(hf:P.funcs[f]?=some fn)(h:srun T n fn.results.toList 2000 True todo env objs=.branch nd t b todo' env' objs')(hn:nd)
  (k1:b=true→ASat P f n C todo' ((t,.lit true)::env') objs' R) (k2:b=false→ASat P f n C todo' ((t,.lit false)::env') objs' R):ASat P f n C todo env objs R:=
 (z1j hT hf 2000 True todo env objs (by rw [h];exact⟨hn,k1,k2⟩)).2
theorem zog(hT:TabOk P T)(hf:P.funcs[f]?=some fn)(h:srun T n fn.results.toList 2000 True todo env objs=.loop nd todo' env' objs')(hn:nd)(k:ASat P f n C todo' env' objs' R):ASat P f n C todo env objs R:=
 (z1j hT hf 2000 True todo env objs (by rw [h];exact⟨hn,k⟩)).2
theorem z9q(hT:TabOk P T)(hf:P.funcs[f]?=some fn)(h:srun T n fn.results.toList 2000 True todo env objs=.goto nd todo' env' objs')(hn:nd)(k:ASat P f n C todo' env' objs' R):ASat P f n C todo env objs R:=
 (z1j hT hf 2000 True todo env objs (by rw [h];exact⟨hn,k⟩)).2
theorem zkq{r:AV}(hT:TabOk P T)(hf:P.funcs[f]?=some fn)(h:srun T n fn.results.toList 2000 True todo env objs=.ret nd r objs')(hn:nd)(hR:R r objs')(hds:C.ds=[]:=by with_reducible assumption):ASat P f n C todo env objs R:=
 (z1j hT hf 2000 True todo env objs (by rw [h];exact⟨hn,fun fn π w tmps _ hm hh hres=>by
  rw [hds];obtain⟨v,h1,h2⟩:=hres w (.refl w);exact⟨v,h1,.inl ⟨v,r,objs',π,rfl,hR,hm,h2,hh⟩⟩⟩)).2
mutual
def refsB(m:Nat):AV→Bool
 | .d _=>true
 | .ro _=>true
 | .dead=>true
 | .lit _=>true
 | .und=>true
 | .orc _=>true
 | .e0 _=>true
 | .ptr i _=>Nat.blt i m
 | .gs i=>Nat.blt i m
 | .ge i _ _ _=>Nat.blt i m
 | .mp i=>Nat.blt i m
 | .ag cs=>refsBs m cs
 | .tp cs=>refsBs m cs
 | .fn _ cs=>refsBs m cs
 | .ifc _ x=>refsB m x
def refsBs(m:Nat):List AV→Bool
 | []=>true
 | x::r=>match refsB m x with|true=>refsBs m r|false=>false
end
def refsE(m:Nat):Env→Bool
 | []=>true
 | (_,x)::r=>match refsB m x with|true=>refsE m r|false=>false
def refsM(m:Nat):List (Value×AV)→Bool
 | []=>true
 | (_,x)::r=>match refsB m x with|true=>refsM m r|false=>false
def z6a(m:Nat):AObj→Bool
 | .cells _ cs=>refsBs m cs
 | .grow _ _ _ _=>true
 | .siter _ _=>true
 | .hold a _=>refsB m a
 | .map es=>refsM m es
def refsO(m:Nat):List (Option AObj)→Bool
 | []=>true
 | none::r=>refsO m r
 | some o::r=>match z6a m o with|true=>refsO m r|false=>false
mutual
theorem RelV.cut{w w':World}{ok ok':Nat→Prop}{π π':List Value}{m:Nat}(hk:Keeps w ok w' ok')(hp:∀j h,j<m→nth π j=some h→nth π' j=some h){a:AV}{v:Value}(hr:refsB m a=true):RelV w ok π a v→RelV w' ok' π' a v
 | .d h=>.d (h.mono hk)
 | .ro h hm=>.ro (h.mono hk) (z2w hk hm)
 | .ptr h=>.ptr (hp _ _ (by simpa [refsB,Nat.blt_eq]using hr) h)
 | .gs h=>.gs (hp _ _ (by simpa [refsB,Nat.blt_eq]using hr) h)
 | .ge h=>.ge (hp _ _ (by simpa [refsB,Nat.blt_eq]using hr) h)
 | .mp h=>.mp (hp _ _ (by simpa [refsB,Nat.blt_eq]using hr) h)
 | .e0=>.e0
 | .lit=>.lit
 | .und=>.und
 | .orc=>.orc
 | .ag h hf=>.ag (h.cut hk hp (by simpa [refsB]using hr)) hf
 | .tp h=>.tp (h.cut hk hp (by simpa [refsB]using hr))
 | .fn h=>.fn (h.cut hk hp (by simpa [refsB]using hr))
 | .ifc h=>.ifc (h.cut hk hp (by simpa [refsB]using hr))
 | .dead=>.dead
theorem RelVs.cut{w w':World}{ok ok':Nat→Prop}{π π':List Value}{m:Nat}(hk:Keeps w ok w' ok')(hp:∀j h,j<m→nth π j=some h→nth π' j=some h){a:List AV}{v:List Value}(hr:refsBs m a=true):RelVs w ok π a v→RelVs w' ok' π' a v
 | .nil=>.nil
 | .cons (x:=x) h t=>by
  simp only [refsBs]at hr;split at hr
  ·rename_i hx;exact .cons (h.cut hk hp hx) (t.cut hk hp hr)
  ·cases hr
end
theorem RelEs.cut{w w':World}{ok ok':Nat→Prop}{π π':List Value}{m:Nat}(hk:Keeps w ok w' ok')(hp:∀j h,j<m→nth π j=some h→nth π' j=some h):∀{a:List (Value×AV)} {v:List MapEntry},refsM m a=true→RelEs w ok π a v→RelEs w' ok' π' a v
 | _,_,_,.nil=>.nil
 | _,_,hr,.cons h t=>by
  simp only [refsM]at hr;split at hr
  ·rename_i hx;exact .cons (h.cut hk hp hx) (t.cut hk hp hr)
  ·cases hr
theorem RelO.cut{w w':World}{ok ok':Nat→Prop}{π π':List Value}{m:Nat}(hk:Keeps w ok w' ok')(hp:∀j h,j<m→nth π j=some h→nth π' j=some h){o:AObj}{h:Value}(hr:z6a m o=true)(hh:∀b,blk h=some b→w'.heap[b]?=w.heap[b]?):RelO w ok π o h→RelO w' ok' π' o h
 | .cells hb h hf=>.cells ((hh _ rfl).trans hb) (h.cut hk hp hr) hf
 | .gnil=>.gnil
 | .grow hb hz h hu hc hm ho hr=>.grow ((hh _ rfl).trans hb) hz (h.mono hk) hu hc hm ho hr
 | .map hb h=>.map ((hh _ rfl).trans hb) (h.cut hk hp hr)
 | .hold h=>.hold (h.cut hk hp hr)
 | .siter hb=>.siter ((hh _ rfl).trans hb)
theorem zc9{m:Nat}:∀{env:Env} {t:Nat} {a:AV},refsE m env=true→look env t=some a→refsB m a=true
 | [],_,_,_,h=>by simp [look]at h
 | (k,x)::r,t,a,hr,h=>by
  simp only [refsE]at hr;split at hr
  ·rename_i hx;simp only [look]at h;split at h
   ·cases h;exact hx
   ·exact zc9 hr h
  ·cases hr
theorem z67{m:Nat}:∀{objs:List (Option AObj)} {i:Nat} {o:AObj},refsO m objs=true→nth objs i=some (some o)→z6a m o=true
 | [],_,_,_,h=>by simp [nth]at h
 | none::r,0,o,_,h=>by simp [nth]at h
 | none::r,i+1,o,hr,h=>z67 (objs:=r) hr h
 | some x::r,0,o,hr,h=>by
  simp only [nth,Option.some.injEq]at h;subst h;simp only [refsO]at hr;split at hr
  ·assumption
  ·cases hr
 | some x::r,i+1,o,hr,h=>by
  simp only [refsO]at hr;split at hr
  ·exact z67 (objs:=r) hr h
  ·cases hr
def VLe(a b:AV):Prop:=∀w ok π v,RelV w ok π a v→RelV w ok π b v
theorem VLe.refl(a:AV):VLe a a:=fun _ _ _ _ h=>h
theorem VLe.of{a b:AV}(h:a=b):VLe a b:=h▸VLe.refl a
theorem VLe.trans{a b c:AV}(h:VLe a b)(k:VLe b c):VLe a c:=fun w ok π v x=>k w ok π v (h w ok π v x)
def OLe(a b:AObj):Prop:=∀w ok π h,RelO w ok π a h→RelO w ok π b h
theorem OLe.refl(a:AObj):OLe a a:=fun _ _ _ _ h=>h
theorem OLe.of{a b:AObj}(h:a=b):OLe a b:=h▸OLe.refl a
theorem OLe.grow{e:TypeId}{s:Nat}{xs ys:List D}{rd rd':Nat→D}(h:xs=ys)(hr:∀i,i<ys.length→ys[i]?=some (rd' i)):OLe (.grow e s xs rd) (.grow e s ys rd'):=by
 subst h;intro w ok π h hh;cases hh with
 | gnil=>exact .gnil
 | grow a b c d e f g h=>exact .grow a b c d e f g hr
theorem OLe.cells{e:TypeId}{cs ds:List AV}(h:cs=ds):OLe (.cells e cs) (.cells e ds):=h▸OLe.refl _
theorem VLe.sl{s:Nat}{xs ys:List D}{rd rd':Nat→D}(h:xs=ys)(hr:∀i,i<ys.length→ys[i]?=some (rd' i)):VLe (.d (.sl s xs rd)) (.d (.sl s ys rd')):=by
 subst h;intro w ok π v hv;cases hv with
 | d hv=>cases hv with
  | nil hb=>exact .d (.nil hb)
  | sl a b c d e=>exact .d (.sl a b c d hr)
theorem VLe.nil{s:Nat}{rd:Nat→D}:VLe (.d (.v (.slice none 0 0))) (.d (.sl s [] rd)):=by
 intro w ok π v hv;cases hv with
 | d hv=>cases hv;exact .d (.nil (Nat.zero_le _))
theorem VLe.e0{s s':Nat}{rd:Nat→D}:VLe (.e0 s') (.d (.sl s [] rd)):=by
 intro w ok π v hv;cases hv;exact .d (.nil (Nat.zero_le _))
theorem VLe.lit{b:Bool}:VLe (.lit b) (.d (.v (.bool b))):=by
 intro w ok π v hv;cases hv;exact .d (.v rfl)
def subE:Env→Env→Prop
 | [],_=>True
 | (t,a)::r,env=>(∃b,look env t=some b∧VLe b a)∧subE r env
def subO:List (Option AObj)→List (Option AObj)→Prop
 | [],_=>True
 | none::r,_::s=>subO r s
 | some o::r,some o'::s=>OLe o' o∧subO r s
 | _,_=>False
theorem zek{env:Env}:∀{env':Env} {t:Nat} {a:AV},subE env' env→look env' t=some a→∃b,look env t=some b∧VLe b a
 | [],_,_,_,h=>by simp [look]at h
 | (k,x)::r,t,a,hs,h=>by
  simp only [look]at h;split at h
  ·rename_i e;have e':k=t:=by simpa using e
   cases h;subst e';exact hs.1
  ·exact zek hs.2 h
theorem z6r:∀{objs' objs:List (Option AObj)} {i:Nat} {o:AObj},subO objs' objs→nth objs' i=some (some o)→∃o',nth objs i=some (some o')∧OLe o' o
 | [],_,_,_,_,h=>by simp [nth]at h
 | none::r,x::s,0,o,_,h=>by simp [nth]at h
 | none::r,x::s,i+1,o,hs,h=>z6r (objs':=r) (objs:=s) hs h
 | some x::r,some y::s,0,o,hs,h=>by
  simp only [nth,Option.some.injEq]at h;subst h;exact⟨y,rfl,hs.1⟩
 | some x::r,some y::s,i+1,o,hs,h=>z6r (objs':=r) (objs:=s) hs.2 h
 | none::r,[],_,_,hs,_=>hs.elim
 | some x::r,[],_,_,hs,_=>hs.elim
 | some x::r,none::s,_,_,hs,_=>hs.elim
theorem z9o:∀{objs' objs:List (Option AObj)},subO objs' objs→objs'.length≤objs.length
 | [],_,_=>Nat.zero_le _
 | none::r,x::s,h=>Nat.succ_le_succ (z9o (objs':=r) (objs:=s) h)
 | some x::r,some y::s,h=>Nat.succ_le_succ (z9o (objs':=r) (objs:=s) h.2)
 | none::r,[],h=>h.elim
 | some x::r,[],h=>h.elim
 | some x::r,none::s,h=>h.elim
theorem z9s{α:Type}{l:List α}{m j:Nat}{x:α}(hj:j<m)(h:nth l j=some x):nth (l.take m) j=some x:=by
 rw [z1k]at h ⊢;rw [List.getElem?_take,if_pos hj];exact h
theorem zav{α:Type}{l:List α}{m j:Nat}{x:α}(h:nth (l.take m) j=some x):j<m∧nth l j=some x:=by
 rw [z1k]at h;rw [List.getElem?_take]at h;split at h
 ·rename_i hj;exact⟨hj,by rw [z1k];exact h⟩
 ·cases h
theorem zsr(hE:subE env' env)(hO:subO objs' objs)(hr:refsE objs'.length env'=true)(hro:refsO objs'.length objs'=true)(hC:C.objs.length≤objs'.length)(hCl:C.π.length=C.objs.length)
  (k:ASat P f n C todo env' objs' R):ASat P f n C todo env objs R:=by
 intro π w tmps hn hm hh he;have hlen:=z9o hO;have hml:=hm.len;have hold:∀{i:Nat} {o:AObj} {h:Value},nth objs' i=some (some o)→nth (π.take objs'.length) i=some h→∃o',nth objs i=some (some o')∧OLe o' o∧nth π i=some h:=by
  intro i o h h1 h2;obtain⟨o',h3,h4⟩:=z6r hO h1;exact⟨o',h3,h4,(zav h2).2⟩
 have hk:Keeps w (okOf C.X π objs) w (okOf C.X (π.take objs'.length) objs'):=by
  intro b o u h1 h2;refine⟨⟨h1.1,fun i ob h h3 h4=>?_⟩,h2⟩;obtain⟨o',h5,_,h6⟩:=hold h3 h4;exact h1.2 i o' h h5 h6
 have hp:∀j h,j<objs'.length→nth π j=some h→nth (π.take objs'.length) j=some h:=fun j h hj h1=>z9s hj h1
 refine k (π.take objs'.length) w tmps hn ⟨by rw [List.length_take];omega,?_,?_,?_,hm.inX⟩ ⟨hh.os,hh.tape,hh.output,hh.size,hh.heap,?_,?_⟩ ?_
 ·intro i o ho;obtain⟨o',h3,h4⟩:=z6r hO ho;obtain⟨h,h5,h6⟩:=hm.obj i o' h3;exact⟨h,hp i h (z1r ho) h5,(h4 _ _ _ _ h6).cut hk hp (z67 hro ho) (fun _ _=>rfl)⟩
 ·intro i j o o' h h' b hne h1 h2 h3 h4;obtain⟨o1,a1,_,a2⟩:=hold h1 h3;obtain⟨o2,b1,_,b2⟩:=hold h2 h4;exact hm.dist i j o1 o2 h h' b hne a1 b1 a2 b2
 ·intro i o h b h1 h2;obtain⟨o1,a1,_,a2⟩:=hold h1 h2;exact hm.ext i o1 h b a1 a2
 ·intro i o h b h1 h2;obtain⟨o1,a1,_,a2⟩:=hold h1 h2;exact hh.own i o1 h b a1 a2
 ·intro i h h1 h2;have:=z1r h1;exact z9s (by omega) (hh.hand i h h1 h2)
 ·intro t a ht;obtain⟨b,h1,h2⟩:=zek hE ht;exact(h2 _ _ _ _ (he t b h1)).cut hk hp (zc9 hr ht)
theorem zt{o0:List (Option AObj)}(k:ASat P f n C todo env' objs' R)(hC:C.objs=o0)(hCl:C.π.length=C.objs.length)(hE:subE env' env)(hO:subO objs' objs)(hr:refsE objs'.length env'=true)(hro:refsO objs'.length objs'=true)(hl:o0.length≤objs'.length):
  ASat P f n C todo env objs R:=zsr hE hO hr hro (by rw [hC];exact hl) hCl k
theorem z7h{t s:Nat}{xs:List D}{rd:Nat→D}(hl:look env t=some (.d (.sl s xs rd)))(k:xs.length≤9223372036854775807→ASat P f n C todo env objs R):ASat P f n C todo env objs R:=by
 intro π w tmps hn hm hh he;have hv:=he t _ hl;have:xs.length≤9223372036854775807:=by
  have hml:maxLen=9223372036854775807:=rfl;revert hv;generalize tmps.getD t undef=v;intro hv;cases hv with
  | d h=>cases h with
   | nil _=>simp
   | sl a b c d e=>omega
 exact k this π w tmps hn hm hh he
theorem z7{n:Int}(h0:-9223372036854775808≤n)(h1:n≤9223372036854775807):IntKind.i64.wrap n=n:=by
 simp only [IntKind.wrap,IntKind.bits,IntKind.signed,show(2:Int)^64=18446744073709551616 from rfl,show(2:Int)^(64-1)=9223372036854775808 from rfl,Bool.true_and,decide_eq_true_eq];split<;>omega
theorem z8{α:Type}{b:Code}{k:List Item}(I:α→Env)(O:α→List (Option AObj))(Inv:α→Prop)(μ:α→Nat)(a0:α)(h0:Inv a0)(hle:ASat P f n C (.code (.loop b)::k) (I a0) (O a0) R→ASat P f n C (.code (.loop b)::k) env objs R)
  (body:∀a,Inv a→(∀a',Inv a'→μ a'<μ a→ASat P f n C (.inLoop b::k) (I a') (O a') R)→ASat P f n C (.code b::.inLoop b::k) (I a) (O a) R):ASat P f n C (.code (.loop b)::k) env objs R:=by
 have key:∀m a,μ a<m→Inv a→ASat P f n C (.code b::.inLoop b::k) (I a) (O a) R:=by
  intro m;induction m with
  | zero=>intro a h;omega
  | succ m ih=>
   intro a h hi;refine body a hi fun a' hi' ha'=>?_;have:=ih a' (by omega) hi';exact fun π w tmps hn hm hh he=>.inLoop (this π w tmps hn hm hh he)
 exact hle (fun π w tmps hn hm hh he=>.loop (key (μ a0+1) a0 (by omega) h0 π w tmps hn hm hh he))
end
end Ab
