/- A part of the proof. -/
import Derived.Test.YtbodbhpdelgpnaaGreatDoorP6
import Derived.OpenShut
set_option linter.unusedVariables false
set_option linter.unusedSimpArgs false
set_option linter.unusedSectionVars false
set_option maxRecDepth 100000
set_option maxHeartbeats 8000000
namespace Ab
open Go
variable [Draws]
structure ReadsF(P:Program)(fs:List Field)(o tot:Nat){α:Type}(enc:α→List D)(Q:α→Prop):Prop where
 len:∀a,(enc a).length=tot
 rd:∀{H:Type} (eH:TypeId×Value→H) (w:World) (fuel:Nat) (cs:List Value) (ok:Nat→Prop),(∀b,ok b)→(∀f∈fs,∃x,DataW.trod eH P w 0 (fun _=>true) true fuel f.type ((cs.drop f.offset).take (P.cellsOf f.type))=some x)→∃a,Q a∧RelL w ok (enc a) ((cs.drop o).take tot)
theorem zja{P:Program}{o:Nat}:ReadsF P [] o 0 (fun _:Unit=>[]) (fun _=>True) where
 len _:=rfl
 rd eH w fuel cs ok hok h:=⟨(),trivial,by simpa using .nil⟩
theorem z47{P:Program}{f:Field}{fs:List Field}{o tot s:Nat}{α β:Type}{eA:α→D}{QA:α→Prop}{eB:β→List D}{QB:β→Prop}(ho:f.offset=o)(hs:P.cellsOf f.type=s)(hA:Reads P f.type eA QA)(hB:ReadsF P fs (o+s) tot eB QB):
  ReadsF P (f::fs) o (s+tot) (fun p:α×β=>(eA p.1).cells++eB p.2) (fun p=>QA p.1∧QB p.2) where
 len p:=by rw [List.length_append,hA.len,hB.len,hs]
 rd eH w fuel cs ok hok h:=by
  obtain⟨x,hx⟩:=h f List.mem_cons_self;obtain⟨a,qa,ra⟩:=hA.rd eH w fuel _ x ok hok hx;obtain⟨b,qb,rb⟩:=hB.rd eH w fuel cs ok hok fun g hg=>h g (List.mem_cons_of_mem _ hg)
  refine⟨(a,b),⟨qa,qb⟩,?_⟩;subst ho hs;have e:(cs.drop f.offset).take (P.cellsOf f.type+tot)=(cs.drop f.offset).take (P.cellsOf f.type)++(cs.drop (f.offset+P.cellsOf f.type)).take tot:=by
   rw [List.take_add,List.drop_drop]
  rw [e];exact ra.append rb
theorem zf5{P:Program}{t:TypeId}{fs:Array Field}{tot:Nat}{α:Type}{enc:α→List D}{Q:α→Prop}(ht:P.underlying t=some (.struct fs))(hs:P.cellsOf t=tot)(h:ReadsF P fs.toList 0 tot enc Q):Reads P t (fun a=>.ag (enc a)) Q where
 len a:=by rw [hs];exact h.len a
 rd eH w fuel cs x ok hok hx:=by
  obtain⟨xs,n,rfl,rfl,hl,hlen,hf⟩:=DataW.trod_struct ht hx;obtain⟨a,qa,ra⟩:=h.rd eH w n cs ok hok (fun f hf'=>by
   obtain⟨i,hi,rfl⟩:=List.mem_iff_getElem.1 hf';have hi':i<fs.size:=by simpa using hi
   obtain⟨x,hx⟩:=zqo (fun i f hif=>hf i f hif) hlen i hi';exact⟨x,by simpa using hx⟩)
  refine⟨a,qa,?_⟩;rw [List.drop_zero,List.take_of_length_le (by omega)]at ra;exact ra
theorem Reads.argS{P:Program}{t:TypeId}{α:Type}{enc:α→D}{Q:α→Prop}(R:Reads P t enc Q){H:Type}{eH:TypeId×Value→H}{W:World}{cs:Array Value}{d:DataW H}{p:List MemPlace}(h:DataW.Trod eH P W 0 (fun _=>true) true t (.agg cs) d p)(ok:Nat→Prop)(hok:∀b,ok b):
  ∃a,Q a∧RelL W ok (enc a).cells cs.toList:=by
 obtain⟨fuel,hf⟩:=h;exact R.rd eH W fuel cs.toList _ ok hok hf
theorem relV_ofS{w:World}{ok:Nat→Prop}{π:List Value}{ds:List D}{cs:Array Value}(h:RelL w ok ds cs.toList):RelV w ok π (.d (.ag ds)) (.agg cs):=by
 have:=RelV.d (π:=π) (RelD.ag h);simpa using this
theorem letK{p q:Prop}(h:p→q)(k:p):q:=h k
end Ab
namespace Ab
open Go
variable [Draws]
inductive QRes where
 |done (nd:Prop) (env:Env)
 |ask (nd:Prop) (t:Tmp) (b:Bool) (l:List Oper) (env:Env)
 |call (nd:Prop) (g:FuncId) (az:List AV) (dst:Option Tmp) (l:List Oper) (env:Env)
 |stuck
section
variable {P:Program}[Globals P]{T:Tab}{f:FuncId}{fn:Func}{n:Nat}{C:Cx}{R R1:AV→List (Option AObj)→Prop}{todo todo':List Item}{env env':Env}{objs objs':List (Option AObj)}{nd:Prop}{ops:Array Oper}{l:List Oper}{K:Env→Prop}
theorem zgs{w w1 w2:World}(a:Later w w1)(b:Later w1 w2):Later w w2:=
 ⟨b.os.trans a.os,b.tape.trans a.tape,⟨b.output.1.trans a.output.1,Nat.le_trans a.output.2 b.output.2⟩,Nat.le_trans a.size b.size,fun c hc=>(b.ext c (Nat.lt_of_lt_of_le hc a.size)).trans (a.ext c hc)⟩
end
end Ab
namespace Ab
open Go
variable [Draws]
def CLe(x y:D):Prop:=∀w ok us,RelL w ok x.cells us→RelL w ok y.cells us
theorem CLe.refl(x:D):CLe x x:=fun _ _ _ h=>h
def CLes:List D→List D→Prop
 | [],[]=>True
 | x::r,y::s=>CLe x y∧CLes r s
 | _,_=>False
theorem CLes.len:∀{xs ys:List D},CLes xs ys→xs.length=ys.length
 | [],[],_=>rfl
 | _::_,_::_,h=>by simp [CLes.len h.2]
 | [],_::_,h=>h.elim
 | _::_,[],h=>h.elim
theorem CLes.rel{w:World}{ok:Nat→Prop}{s:Nat}:∀{xs ys:List D} {us:List Value},CLes xs ys→RelE w ok s xs us→RelE w ok s ys us
 | [],[],_,_,h=>h
 | x::r,y::t,us,hc,h=>by
  cases h with
  | cons h hl ht=>exact .cons (hc.1 _ _ _ h) hl (CLes.rel hc.2 ht)
 | [],_::_,_,h,_=>h.elim
 | _::_,[],_,h,_=>h.elim
theorem CLes.map{α:Type}(e e':α→D):∀(l:List α),(∀a∈l,CLe (e a) (e' a))→CLes (l.map e) (l.map e')
 | [],_=>trivial
 | a::r,h=>⟨h a List.mem_cons_self,CLes.map e e' r fun b hb=>h b (List.mem_cons_of_mem _ hb)⟩
theorem CLe.sl{s:Nat}{xs ys:List D}{rd rd':Nat→D}(h:CLes xs ys)(hr:∀i,i<ys.length→ys[i]?=some (rd' i)):CLe (.sl s xs rd) (.sl s ys rd'):=by
 intro w ok us hu;cases hu with
 | cons hd hf ht=>
  cases ht;refine .cons ?_ hf .nil;cases hd with
  | nil hb=>
   cases ys with
   | nil=>exact .nil hb
   | cons _ _=>exact h.elim
  | sl a b c d e=>
   have hl:=h.len;rw [hl]at c ⊢;exact .sl (h.rel a) b c d hr
theorem zl5{w:World}{ok:Nat→Prop}{π:List Value}:∀{ds:List D} {vs:List Value},RelVs w ok π (ds.map .d) vs→(∀v∈vs,flat v=true)→RelL w ok ds vs
 | [],vs,h,_=>by simp only [List.map_nil]at h;cases h;exact .nil
 | d::r,vs,h,hf=>by
  simp only [List.map_cons]at h;cases h with
  | cons h t=>cases h with|d h=>exact .cons h (hf _ List.mem_cons_self) (zl5 t fun v hv=>hf v (List.mem_cons_of_mem _ hv))
theorem VLe.agL{cs:List AV}{ds:List D}(h:VLs cs (ds.map .d)):VLe (.ag cs) (.d (.ag ds)):=by
 intro w ok π v hv;cases hv with
 | ag hc hf=>exact .d (.ag (zl5 (h.rel hc) hf))
def DLe(x y:D):Prop:=∀w ok v,RelD w ok x v→RelD w ok y v
theorem DLe.refl(x:D):DLe x x:=fun _ _ _ h=>h
def DLes:List D→List D→Prop
 | [],[]=>True
 | x::r,y::s=>DLe x y∧DLes r s
 | _,_=>False
theorem DLes.rel{w:World}{ok:Nat→Prop}:∀{xs ys:List D} {us:List Value},DLes xs ys→RelL w ok xs us→RelL w ok ys us
 | [],[],_,_,h=>h
 | x::r,y::t,us,hc,h=>by
  cases h with
  | cons h hf ht=>exact .cons (hc.1 _ _ _ h) hf (DLes.rel hc.2 ht)
 | [],_::_,_,h,_=>h.elim
 | _::_,[],_,h,_=>h.elim
theorem VLe.dag{cs ds:List D}(h:DLes cs ds):VLe (.d (.ag cs)) (.d (.ag ds)):=by
 intro w ok π v hv;cases hv with|d hd=>cases hd with|ag hl=>exact .d (.ag (h.rel hl))
theorem DLe.slR{s:Nat}{xs ys:List D}{rd rd':Nat→D}(h:xs=ys)(hr:∀i,i<ys.length→ys[i]?=some (rd' i)):DLe (.sl s xs rd) (.sl s ys rd'):=by
 subst h;intro w ok v hv;cases hv with
 | nil hb=>exact .nil hb
 | sl a b c d e=>exact .sl a b c d hr
theorem DLe.eL{α:Type}{s:Nat}{e:α→D}{d:α}{l:List α}{xs:List D}{rd:Nat→D}(h:xs=l.map e):DLe (.sl s xs rd) (Ab.eL s e d l):=.slR h (z4m e d l)
end Ab
namespace Ab
open Go
variable [Draws]
section
variable {P:Program}[Globals P]{T:Tab}{f:FuncId}{fn:Func}{n:Nat}{C:Cx}{R:AV→List (Option AObj)→Prop}{todo todo':List Item}{env env' env2:Env}{objs objs' objs2:List (Option AObj)}{nd:Prop}
theorem zb8(i:Nat){e:TypeId}{s:Nat}{xs:List D}{rd:Nat→D}(ho:nth objs i=some (some (.grow e s xs rd))){π:List Value}{w:World}{tmps:Array Value}(hm:Mem C.X π objs w)(hh:Hist C.π C.objs C.w π objs w)(he:z13 w (okOf C.X π objs) π env tmps){az:List AV}{vs:List Value}(hvs:RelVs w (okOf C.X π objs) π az vs):
  Mem C.X π (frzO i (.sl s xs rd) 0 objs) w∧Hist C.π C.objs C.w π (frzO i (.sl s xs rd) 0 objs) w∧z13 w (okOf C.X π (frzO i (.sl s xs rd) 0 objs)) π (frzE i (.sl s xs rd) env) tmps∧RelVs w (okOf C.X π (frzO i (.sl s xs rd) 0 objs)) π (AV.frzs i (.sl s xs rd) az) vs:=by
 have hold:∀{j:Nat} {o1:AObj},nth (frzO i (.sl s xs rd) 0 objs) j=some (some o1)→j≠i∧∃o2,nth objs j=some (some o2)∧o1=o2.frz i (.sl s xs rd):=by
  intro j o1 hj;obtain⟨h1,h2⟩:=ze1 hj;exact⟨by omega,h2⟩
 have hk:Keeps w (okOf C.X π objs) w (okOf C.X π (frzO i (.sl s xs rd) 0 objs)):=by
  refine fun b o u h1 h2=>⟨⟨h1.1,fun j o1 h hj hp=>?_⟩,h2⟩
  obtain⟨_,o2,h3,_⟩:=hold hj;exact h1.2 j o2 h h3 hp
 have hx:∀h,nth π i=some h→isSl h=true→RelD w (okOf C.X π (frzO i (.sl s xs rd) 0 objs)) (.sl s xs rd) h:=by
  intro h hp hsl;obtain⟨h',hp',hrel⟩:=hm.obj i _ ho;rw [hp]at hp';cases hp';cases hrel with
  | gnil=>exact .nil (Nat.zero_le _)
  | grow hb hz he hu hc hmx ho2 hr2=>
   refine .sl (he.mono hk) (fun q hq=>⟨⟨hm.ext i _ _ _ ho hp rfl,fun j o1 h hj hpj=>?_⟩,?_⟩) hc hmx hr2
   ·obtain⟨hne,o2,h3,_⟩:=hold hj;intro e;exact hm.dist j i o2 _ h _ _ hne h3 ho hpj hp e rfl
   ·rw [cell_of_heap hb];exact hu q hq
 refine⟨⟨by rw [ze2];exact hm.len,?_,?_,?_,hm.inX⟩,⟨hh.os,hh.tape,hh.output,hh.size,hh.heap,?_,hh.hand⟩,?_,hvs.frz hk hx⟩
 ·intro j o1 hj;obtain⟨_,o2,h3,rfl⟩:=hold hj;obtain⟨h,h5,h6⟩:=hm.obj j o2 h3;exact⟨h,h5,h6.frz hk hx (fun _ _=>rfl)⟩
 ·intro j j' o1 o2 h1 h2 b hne a1 a2;obtain⟨_,p1,b1,_⟩:=hold a1;obtain⟨_,p2,b2,_⟩:=hold a2;exact hm.dist j j' p1 p2 h1 h2 b hne b1 b2
 ·intro j o1 h b a1;obtain⟨_,p1,b1,_⟩:=hold a1;exact hm.ext j p1 h b b1
 ·intro j o1 h b a1;obtain⟨_,p1,b1,_⟩:=hold a1;exact hh.own j p1 h b b1
 ·intro t a ht;rw [zaz]at ht;cases hl:look env t with
  | none=>rw [hl]at ht;cases ht
  | some b=>
   rw [hl]at ht;simp only [Option.map_some,Option.some.injEq]at ht;subst ht;exact(he t b hl).frz hk hx
def frzI:List Nat→Env→List (Option AObj)→List AV→Option (Env×List (Option AObj)×List AV)
 | [],env,objs,az=>some (env,objs,az)
 | i::r,env,objs,az=>match nth objs i with
  | some (some (.grow _ s xs rd))=>frzI r (frzE i (.sl s xs rd) env) (frzO i (.sl s xs rd) 0 objs) (AV.frzs i (.sl s xs rd) az)
  | _=>none
theorem z8y{π:List Value}{w:World}{tmps:Array Value}{vs:List Value}:∀(ι:List Nat) {env:Env} {objs:List (Option AObj)} {az:List AV} {env2:Env} {objs2:List (Option AObj)} {as2:List AV},frzI ι env objs az=some (env2,objs2,as2) →
  Mem C.X π objs w→Hist C.π C.objs C.w π objs w→z13 w (okOf C.X π objs) π env tmps→RelVs w (okOf C.X π objs) π az vs →
  Mem C.X π objs2 w∧Hist C.π C.objs C.w π objs2 w∧z13 w (okOf C.X π objs2) π env2 tmps∧RelVs w (okOf C.X π objs2) π as2 vs
 | [],_,_,_,_,_,_,h,hm,hh,he,hv=>by
  simp only [frzI,Option.some.injEq,Prod.mk.injEq]at h;obtain⟨rfl,rfl,rfl⟩:=h;exact⟨hm,hh,he,hv⟩
 | i::r,_,_,_,_,_,_,h,hm,hh,he,hv=>by
  simp only [frzI]at h;split at h
  ·rename_i ho;obtain⟨a,b,c,d⟩:=zb8 i ho hm hh he hv;exact z8y r h a b c d
  ·cases h
end
theorem CLes.refl:∀l:List D,CLes l l
 | []=>trivial
 | x::r=>⟨.refl x,CLes.refl r⟩
theorem CLes.append:∀{a a' b b':List D},CLes a a'→CLes b b'→CLes (a++b) (a'++b')
 | [],[],_,_,_,h=>h
 | x::r,y::s,_,_,h,k=>⟨h.1,CLes.append h.2 k⟩
 | [],_::_,_,_,h,_=>h.elim
 | _::_,[],_,_,h,_=>h.elim
theorem OLe.growC{e:TypeId}{s:Nat}{xs ys:List D}{rd rd':Nat→D}(h:CLes xs ys)(hr:∀i,i<ys.length→ys[i]?=some (rd' i)):OLe (.grow e s xs rd) (.grow e s ys rd'):=by
 intro w ok π v hh;have hl:=h.len;cases hh with
 | gnil=>
  cases ys with
  | nil=>exact .gnil
  | cons _ _=>exact h.elim
 | grow a b c d e f g h2=>
  rw [hl]at e ⊢;exact .grow a b (h.rel c) d e f g hr
theorem OLe.gL_c{α:Type}{t:TypeId}{s:Nat}{e:α→D}{d:α}{l:List α}{xs:List D}{rd:Nat→D}(h:CLes xs (l.map e)):OLe (.grow t s xs rd) (Ab.gL t s e d l):=.growC h (z4m e d l)
theorem CLe.lit{α:Type}{s:Nat}(e:α→D)(d:α)(l:List α){xs:List D}(h:xs=l.map e):CLe (.sl s xs (litRd xs)) (eL s e d l):=by
 subst h;exact CLe.sl (CLes.refl _) (z4m e d l)
end Ab
