/- A part of the proof. -/
import Derived.Test.YtbodbhpdelgpnaaGreatDoorP4
import Derived.MapKept
set_option linter.unusedVariables false
set_option linter.unusedSimpArgs false
set_option linter.unusedSectionVars false
set_option maxRecDepth 100000
set_option maxHeartbeats 8000000
namespace Ab
open Go Go.MapKept
variable [Draws]
section
variable {P:Program}[Globals P]{T:Tab}{f:FuncId}{fn:Func}{n:Nat}{C:Cx}{R R1:AV→List (Option AObj)→Prop}{todo todo':List Item}{env env':Env}{objs objs':List (Option AObj)}{nd:Prop}
theorem za9{ops:Array Oper}{i:Nat}{r:List Nat}{k:List Item}{o:Oper}{e:Env}(out:EOut)(ho:ops[i]?=some o)(hw:wantE ops env o=.yes)
  (hdo:∀X π w tmps,Mem X π objs w→z13 w (okOf X π objs) π env tmps→ERok P X π objs w (some out) (execOp (Act.eval ⟨tmps,[]⟩) o)) (hc:cond out.c) (hput:putE n o.dst (skA out.skip out.a) (z5v out.q env)=some e)
  (h:ASat P f n C (.inRegion ops r::k) e out.objs R):ASat P f n C (.inRegion ops (i::r)::k) env objs R:=by
 intro π w tmps hn hm hh he;obtain⟨v,w',π',d1,d2,d3⟩:=hdo _ _ _ _ hm he hc;have he':=z5c he d2;obtain⟨c,sk,a,q,objs'⟩:=out;cases sk with
 | true=>
  obtain⟨p1,p2⟩:=z5m he' hn hput (.und);exact .opUnit ho ((zm he).1 hw) (by simpa using d1) (h π' w' _ p2 d2.mem (z22 hh d2) p1)
 | false=>
  obtain⟨p1,p2⟩:=z5m he' hn hput (d3 rfl);exact .opVal ho ((zm he).1 hw) (by simpa using d1) (h π' w' _ p2 d2.mem (z22 hh d2) p1)
end
inductive MFind(k:Value):List (Value×AV)→Option AV→Prop
 |nil:MFind k [] none
 |hit {x:AV} {r:List (Value×AV)}:MFind k ((k,x)::r) (some x)
 |miss {k':Value} {y:AV} {r:List (Value×AV)} {a:Option AV} (h:k'≠k) (t:MFind k r a):MFind k ((k',y)::r) a
inductive MPut(k:Value)(x:AV):List (Value×AV)→List (Value×AV)→Prop
 |nil:MPut k x [] [(k,x)]
 |hit {y:AV} {r:List (Value×AV)}:MPut k x ((k,y)::r) ((k,x)::r)
 |miss {k':Value} {y:AV} {r r':List (Value×AV)} (h:k'≠k) (t:MPut k x r r'):MPut k x ((k',y)::r) ((k',y)::r')
def keyB:TK→Value→Bool
 | .int k,.int k' _=>k==k'
 | .str,.string _=>true
 | .bool,.bool _=>true
 | _,_=>false
def keysB(t:TK):List (Value×AV)→Bool
 | []=>true
 | (k,_)::r=>match keyB t k with|true=>keysB t r|false=>false
theorem zdw{P:Program}{t:TK}{d:TypeDesc}{k:Value}(hd:kdOk P t d=true)(h:keyB t k=true):IsKey d k:=by
 cases t<;>cases k<;>cases d<;>simp_all [keyB,kdOk,IsKey]
theorem zfb{w:World}{ok:Nat→Prop}{π:List Value}{d:TypeDesc}{k:Value}(hk:IsKey d k):∀{es:List (Value×AV)} {ms:List MapEntry} {a:Option AV} (i:Nat),RelEs w ok π es ms→(∀e∈es,IsKey d e.1)→MFind k es a →
  match a with
  | none=>Instr.findNow d k ms i=some none
  | some x=>∃j v,Instr.findNow d k ms i=some (some (j,v))∧RelV w ok π x v
 | _,_,_,i,.nil,_,hf=>by cases hf;rfl
 | _,_,a,i,.cons (k:=k1) (v:=v) (n:=n) h t,hks,hf=>by
  obtain⟨r,hr,hiff⟩:=sameNow_of_keys hk (hks _ List.mem_cons_self);cases hf with
  | hit=>
   have:r=true:=hiff.2 rfl;subst this;exact⟨i,v,by simp [Instr.findNow,hr],h⟩
  | miss hne ht=>
   have:r=false:=by
    cases r with
    | false=>rfl
    | true=>exact absurd (hiff.1 rfl).symm hne
   subst this;have ih:=zfb hk (i+1) t (fun e he=>hks e (List.mem_cons_of_mem _ he)) ht;cases a with
   | none=>simpa [Instr.findNow,hr]using ih
   | some x=>
    obtain⟨j,u,h1,h2⟩:=ih;exact⟨j,u,by simpa [Instr.findNow,hr]using h1,h2⟩
theorem zi6{w:World}{ok:Nat→Prop}{π:List Value}{d:TypeDesc}{k:Value}(hk:IsKey d k){x:AV}{v:Value}(hv:RelV w ok π x v)(n0:Nat):∀{es es':List (Value×AV)} {ms:List MapEntry} (i:Nat),RelEs w ok π es ms→(∀e∈es,IsKey d e.1)→MPut k x es es' →
  (Instr.findNow d k ms i=some none∧RelEs w ok π es' (ms++[⟨k,v,n0⟩])) ∨
  (∃j u e,Instr.findNow d k ms i=some (some (i+j,u))∧ms[j]?=some e∧e.key=k∧RelEs w ok π es' (ms.set j { e with key:=k,val:=v }))
 | _,_,_,i,.nil,_,hf=>by cases hf;exact .inl ⟨rfl,.cons hv .nil⟩
 | _,_,_,i,.cons (k:=k1) (v:=u) (n:=n) h t,hks,hf=>by
  obtain⟨r,hr,hiff⟩:=sameNow_of_keys hk (hks _ List.mem_cons_self);cases hf with
  | hit=>
   have:r=true:=hiff.2 rfl;subst this;exact .inr ⟨0,u,⟨k,u,n⟩,by simp [Instr.findNow,hr],rfl,rfl,.cons hv t⟩
  | miss hne ht=>
   have:r=false:=by
    cases r with
    | false=>rfl
    | true=>exact absurd (hiff.1 rfl).symm hne
   subst this;rcases zi6 hk hv n0 (i+1) t (fun e he=>hks e (List.mem_cons_of_mem _ he)) ht with⟨h1,h2⟩|⟨j,u',e,h1,h2,h3,h4⟩
   ·exact .inl ⟨by simpa [Instr.findNow,hr]using h1,.cons h h2⟩
   ·refine .inr ⟨j+1,u',e,?_,by simpa using h2,h3,.cons h h4⟩;simp only [Instr.findNow,hr];rw [h1];congr 3;omega
theorem zb2{P:Program}{t:TK}{d:TypeDesc}(hd:kdOk P t d=true):∀{es:List (Value×AV)},keysB t es=true→∀e∈es,IsKey d e.1
 | [],_,e,h=>by simp at h
 | (k,x)::r,hs,e,h=>by
  simp only [keysB]at hs;split at hs
  ·rename_i hk;rcases List.mem_cons.1 h with rfl|h
   ·exact zdw hd hk
   ·exact zb2 hd hs e h
  ·cases hs
theorem RowOk.map{P:Program}{t k e:TypeId}{r:TRow}(h:RowOk P t r)(hk:r.kd=.map k e):P.underlying t=some (.map k e):=by
 obtain⟨⟨i,d,hi,hd,_,_,_,hkd⟩,_⟩:=h;rw [hk]at hkd;cases d<;>simp_all [kdOk]
theorem RowOk.kd{P:Program}{t:TypeId}{r:TRow}(h:RowOk P t r):∃d,P.underlying t=some d∧kdOk P r.kd d=true:=by
 obtain⟨⟨i,d,hi,hd,_,_,_,hkd⟩,_⟩:=h;exact⟨d,hd,hkd⟩
def lookA(zero:D)(ok:Bool):Option AV→AV
 | some x=>if ok then .tp [x,vB true]else x
 | none=>if ok then .tp [.d zero,vB false]else .d zero
theorem zk8{P:Program}{t:TypeId}{r:TRow}(h:RowOk P t r)(w:World)(ok:Nat→Prop):∃z,(∀w',(zeroValue t).run P w'=.ok z w')∧RelD w ok (zeroD r) z:=by
 obtain⟨z,h1,h2,h3,h4,h5⟩:=h.zero;refine⟨z,h1,?_⟩;have hrel:=ze9 h w ok;unfold zeroD at hrel ⊢;cases ha:r.isAgg with
 | true=>
  rw [ha]at hrel;rw [h4 ha];exact .ag hrel
 | false=>
  have e:=h5 ha;rw [ha,e]at hrel;rw [e];simp only at hrel ⊢;cases hrel with
  | cons h _ _=>exact h
theorem zfc{P:Program}{T:Tab}(hT:TabOk P T){X:Nat→Prop}{π:List Value}{objs:List (Option AObj)}{w:World}(m:Mem X π objs w){t kt et:TypeId}{r rk re:TRow}(h1:tlook T t=some r)(h2:r.kd=.map kt et)(h3:tlook T kt=some rk)(h4:tlook T et=some re)
  {i:Nat} {es:List (Value×AV)} (ho:nth objs i=some (some (.map es))) {key:Value} (hk:keyB rk.kd key=true) (hks:keysB rk.kd es=true) {a:Option AV} (hf:MFind key es a) {vm:Value} (hm:RelV w (okOf X π objs) π (.mp i) vm) (ok:Bool) :
  ∃v,(Instr.lookup t vm key ok).run P w=.ok v w∧RelV w (okOf X π objs) π (lookA (zeroD re) ok a) v:=by
 have ht:=(zn hT h1).map h2;obtain⟨d,hd,hkd⟩:=(zn hT h3).kd;have hkey:=zdw hkd hk;have hkeys:=zb2 hkd hks;obtain⟨h,hp,hrel⟩:=m.obj i _ ho;cases hm with
 | mp hp'=>
  rw [hp]at hp';cases hp';cases hrel with
  | map hb hes=>
   rename_i rr clock ms;have hfind:=zfb hkey 0 hes hkeys hf;obtain⟨z,hz1,hz2⟩:=zk8 (zn hT h4) w (okOf X π objs);have hck:∀e,(Instr.checkKey e 10000 kt key).run P w=.ok () w:=fun e=>run_checkKey hd hkey e 9999
   cases a with
   | none=>
    have hff:=run_findKey (P:=P) (w:=w) hd hfind;cases ok with
    | true=>exact⟨.tuple #[z,.bool false],by simp [Instr.lookup,run_underlying ht,run_getObj_map hb,hck,hff,hz1,Result.andThen],.tp (.cons (.d hz2) (.cons (.d (.v rfl)) .nil))⟩
    | false=>exact⟨z,by simp [Instr.lookup,run_underlying ht,run_getObj_map hb,hck,hff,hz1,Result.andThen],.d hz2⟩
   | some x=>
    obtain⟨j,v,e1,e2⟩:=hfind;have hff:=run_findKey (P:=P) (w:=w) hd e1;cases ok with
    | true=>exact⟨.tuple #[v,.bool true],by simp [Instr.lookup,run_underlying ht,run_getObj_map hb,hck,hff,Result.andThen],.tp (.cons e2 (.cons (.d (.v rfl)) .nil))⟩
    | false=>exact⟨v,by simp [Instr.lookup,run_underlying ht,run_getObj_map hb,hck,hff,Result.andThen],e2⟩
theorem zed{P:Program}{T:Tab}(hT:TabOk P T){X:Nat→Prop}{π:List Value}{objs:List (Option AObj)}{w:World}(m:Mem X π objs w){t kt et:TypeId}{r rk:TRow}(h1:tlook T t=some r)(h2:r.kd=.map kt et)(h3:tlook T kt=some rk)
  {i:Nat} {es es':List (Value×AV)} (ho:nth objs i=some (some (.map es))) {key:Value} (hk:keyB rk.kd key=true) (hks:keysB rk.kd es=true) {x:AV} (hf:MPut key x es es') {vm vx:Value} (hm:RelV w (okOf X π objs) π (.mp i) vm) (hx:RelV w (okOf X π objs) π x vx) :
  ∃w',(Instr.mapUpdate t vm key vx).run P w=.ok () w'∧Tr X π objs w none π (za objs i (some (.map es'))) w':=by
 have ht:=(zn hT h1).map h2;obtain⟨d,hd,hkd⟩:=(zn hT h3).kd;have hkey:=zdw hkd hk;have hkeys:=zb2 hkd hks;obtain⟨h,hp,hrel⟩:=m.obj i _ ho;cases hm with
 | mp hp'=>
  rw [hp]at hp';cases hp';cases hrel with
  | map hb hes=>
   rename_i rr clock ms;have hck:∀e,(Instr.checkKey e 10000 kt key).run P w=.ok () w:=fun e=>run_checkKey hd hkey e 9999
   have htr:∀{ms':List MapEntry} {clock':Nat},RelEs w (okOf X π objs) π es' ms'→Tr X π objs w none π (za objs i (some (.map es'))) { w with heap:=w.heap.setIfInBounds rr (.map ms'.toArray clock') }:=by
    intro ms' clock' hr;have hs:=heap_set (o':=.map ms'.toArray clock') hb;refine zeh (b:=rr) m ho hp rfl rfl rfl ⟨rfl,z17 (Nat.le_refl _)⟩ (by simp) hs.2 ?_;exact .map hs.1 (hr.mono (z7z (w':={ w with heap:=w.heap.setIfInBounds rr (.map ms'.toArray clock') }) ho hp rfl hs.2) (fun _ _ h=>h))
   rcases zi6 hkey hx clock 0 hes hkeys hf with⟨f1,f2⟩|⟨j,u,e,f1,f2,f3,f4⟩
   ·have hff:=run_findKey (P:=P) (w:=w) hd f1;refine⟨_,?_,htr (clock':=clock+1) f2⟩;simp [Instr.mapUpdate,run_underlying ht,run_getObj_map hb,hck,hff,run_setObj_map _ hb,Result.andThen]
   ·have hff:=run_findKey (P:=P) (w:=w) hd f1;refine⟨_,?_,htr (clock':=clock) f4⟩;rw [Nat.zero_add]at hff;have hlt:j<ms.length:=(List.getElem?_eq_some_iff.1 f2).1;have hget:ms[j]=e:=(List.getElem?_eq_some_iff.1 f2).2;have hst:=run_keyThatStays (P:=P) (w:=w) hkey;simp [Instr.mapUpdate,run_underlying ht,run_getObj_map hb,hck,hff,f2,f3,hst,run_setObj_map _ hb,Result.andThen];congr 3;apply List.ext_getElem?;intro q;rw [List.getElem?_modify,List.getElem?_set];by_cases e:j=q
    ·subst e;simp [hlt,hget]
    ·simp [e]
end Ab
namespace Ab
open Go
variable [Draws]
section
variable {P:Program}[Globals P]{T:Tab}{f:FuncId}{fn:Func}{n:Nat}{C:Cx}{R R1:AV→List (Option AObj)→Prop}{todo todo':List Item}{env env':Env}{objs objs':List (Option AObj)}{nd:Prop}
theorem zkp(m:Nat)(hT:TabOk P T)(hf:P.funcs[f]?=some fn)(h:srun T n fn.results.toList m True todo env objs=.goto nd todo' env' objs')(hn:nd)(k:ASat P f n C todo' env' objs' R):ASat P f n C todo env objs R:=
 (z1j hT hf m True todo env objs (by rw [h];exact⟨hn,k⟩)).2
theorem z49{P:Program}{w:World}{X:Nat→Prop}{π:List Value}{env:Env}{tmps:Array Value}{x:Operand}{v:Value}(he:z13 w (okOf X π objs) π env tmps)(h:opnd env x=some (.d (.v v))):Act.eval ⟨tmps,[]⟩ x=v:=by
 have:=zf (ds:=[]) he h;revert this;generalize Act.eval ⟨tmps,[]⟩ x=u;intro hu;cases hu with|d hu=>cases hu;rfl
theorem z26{ops:Array Oper}{i:Nat}{r:List Nat}{k:List Item}{o:Oper}{e:Env}{t kt et:TypeId}{mo ko:Operand}{ok:Bool}{rm rk re:TRow}{j:Nat}{es:List (Value×AV)}{key:Value}{a:Option AV}(hT:TabOk P T)
  (ho:ops[i]?=some o) (hw:wantE ops env o=.yes) (hop:o.op=.lookup t mo ko ok) (hm:opnd env mo=some (.mp j)) (hk:opnd env ko=some (.d (.v key))) (h1:tlook T t=some rm) (h2:rm.kd=.map kt et) (h3:tlook T kt=some rk) (h4:tlook T et=some re)
  (hobj:nth objs j=some (some (.map es))) (hkey:keyB rk.kd key=true) (hks:keysB rk.kd es=true) (hf:MFind key es a) (hput:putE n o.dst (lookA (zeroD re) ok a) env=some e)
  (h:ASat P f n C (.inRegion ops r::k) e objs R):ASat P f n C (.inRegion ops (i::r)::k) env objs R:=by
 refine za9 ⟨none,false,lookA (zeroD re) ok a,none,objs⟩ ho hw (fun X π w tmps m he _=>?_) trivial hput h;obtain⟨v,e1,e2⟩:=zfc hT m h1 h2 h3 h4 hobj hkey hks hf (zf (ds:=[]) he hm) ok;refine⟨v,w,π,?_,z3b m rfl rfl ⟨rfl,z17 (Nat.le_refl _)⟩ (Nat.le_refl _) (fun _ _=>rfl),fun _=>e2⟩;unfold execOp;simp only [hop];rw [z49 (P:=P) he hk];simp only [Sem.run_bind,e1,Result.andThen_ok,Sem.run_pure];rfl
theorem zc2{ops:Array Oper}{i:Nat}{r:List Nat}{k:List Item}{o:Oper}{t kt et:TypeId}{mo ko xo:Operand}{rm rk:TRow}{j:Nat}{es es':List (Value×AV)}{key:Value}{x:AV}(hT:TabOk P T)
  (ho:ops[i]?=some o) (hw:wantE ops env o=.yes) (hop:o.op=.mapUpdate t mo ko xo) (hd:o.dst=none) (hm:opnd env mo=some (.mp j)) (hk:opnd env ko=some (.d (.v key))) (hx:opnd env xo=some x) (h1:tlook T t=some rm) (h2:rm.kd=.map kt et) (h3:tlook T kt=some rk)
  (hobj:nth objs j=some (some (.map es))) (hkey:keyB rk.kd key=true) (hks:keysB rk.kd es=true) (hf:MPut key x es es')
  (h:ASat P f n C (.inRegion ops r::k) env (za objs j (some (.map es'))) R):ASat P f n C (.inRegion ops (i::r)::k) env objs R:=by
 refine za9 ⟨none,true,.und,none,za objs j (some (.map es'))⟩ ho hw (fun X π w tmps m he _=>?_) trivial (by rw [hd];rfl) h;obtain⟨w',e1,e2⟩:=zed hT m h1 h2 h3 hobj hkey hks hf (zf (ds:=[]) he hm) (zf (ds:=[]) he hx);refine⟨undef,w',π,?_,e2,fun h=>by cases h⟩;unfold execOp;simp only [hop];rw [z49 (P:=P) he hk];simp only [Sem.run_bind,e1,Result.andThen_ok,Sem.run_pure];rfl
end
end Ab
namespace Ab
open Go
variable [Draws]
section
variable {P:Program}[Globals P]{f:FuncId}{n:Nat}{C:Cx}{R:AV→List (Option AObj)→Prop}{todo:List Item}{env:Env}
end
end Ab
namespace Ab
open Go
variable [Draws]
section
variable {P:Program}[Globals P]{T:Tab}{f:FuncId}{fn:Func}{n:Nat}{C:Cx}{R R1:AV→List (Option AObj)→Prop}{todo todo':List Item}{env env':Env}{objs objs':List (Option AObj)}{nd:Prop}
end
end Ab
