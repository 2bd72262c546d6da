/- A part of the proof. -/
import Derived.Test.YtbodbhpdelgpnaaGreatDoorP12
import Derived.Recover
set_option linter.unusedVariables false
set_option linter.unusedSimpArgs false
set_option linter.unusedSectionVars false
set_option maxRecDepth 100000
set_option maxHeartbeats 8000000
namespace Ab
open Go
variable [Draws]
def OffTo(g:FuncId)(q:Nat)(d:Deferred):Prop:=∃caps:Array Value,caps.size=q∧d.target=.fn (.func g) caps∧d.args = #[]
section
variable {P:Program}[Globals P]{T:Tab}{f:FuncId}{fn:Func}{n:Nat}{C:Cx}{R:AV→List (Option AObj)→Prop}{todo k:List Item}{env:Env}{objs objs':List (Option AObj)}{nd:Prop}
theorem zky{g:FuncId}{cs:List AV}{ops:Array Oper}{i:Nat}{rest:List Nat}{o:Oper}{t:Tmp}{at_:Array TypeId}(ho:ops[i]?=some o)(hop:o.op=.defer { callee:=.value (.tmp t),args:=#[],argTypes:=at_ })(hg:o.guard=none)(hd:o.dst=none)(hl:look env t=some (.fn (.func g) cs))
  (h:∀d,OffTo g cs.length d→ASat P f n { C with ds:=d::C.ds } (.inRegion ops rest::k) env objs R):ASat P f n C (.inRegion ops (i::rest)::k) env objs R:=by
 intro π w tmps hn hm hh he;have hv:=he t _ hl;obtain⟨us,hus,hlen⟩:∃us:List Value,tmps.getD t undef=.func (.func g) #[] us.toArray∧us.length=cs.length:=by
  revert hv;generalize tmps.getD t undef=v;intro hv;cases hv with|fn h=>exact⟨_,rfl,h.length⟩
 have hr:(execOp (Act.eval ⟨tmps,[]⟩) o).run P w=.ok (.defer { target:=.fn (.func g) us.toArray,args:=#[] }) w:=by
  unfold execOp;simp [hop,resolve,Deferred.ofValue,Act.eval,hus]
 refine .opDefer ho (by simp [Region.wanted,hg]) hr ?_;have:=h { target:=.fn (.func g) us.toArray,args:=#[] } ⟨us.toArray,by simpa using hlen,rfl,rfl⟩ π w tmps hn hm hh he;rw [hd];exact this
theorem zoi{g:FuncId}{q:Nat}{d:Deferred}{r:AV}(hds:C.ds=[d])(hoff:OffTo g q d)(hen:∀args w,(callFunc g args).run P w=.ok (.enter g args) w)
  (hcall:∀(caps:Array Value) (w:World),caps.size=q→CallsD P g caps .returning w fun e u' w'=>(∃v,e=.returned v)∧u'=.returning∧Later w w')
  (hT:TabOk P T) (hf:P.funcs[f]?=some fn) (h:srun T n fn.results.toList 2000 True todo env objs=.ret nd r objs') (hn:nd) (hR:R r objs'):ASat P f n C todo env objs R:=
 (z1j hT hf 2000 True todo env objs (by
  rw [h];refine⟨hn,fun fn π w tmps _ hm hh hres=>?_⟩;obtain⟨caps,hq,h1,h2⟩:=hoff;rw [hds];refine⟨by simp,.func g,caps,g,caps,h1,?_,?_⟩
  ·rw [h1,h2];simp [invoke,hen]
  ·intro c cs hc;obtain⟨e,u',w',fr,⟨⟨v0,rfl⟩,rfl,hl⟩,hrest⟩:=hcall caps w hq c cs hc;refine⟨_,_,w',fr,?_,hrest⟩;obtain⟨v,h3,h4⟩:=hres w' hl;have htr:=hl.tr hm;exact⟨v,h3,.inl ⟨v,r,objs',π,rfl,hR,htr.mem,h4,z22 hh htr⟩⟩)).2
end
end Ab
namespace Ab
open Go
variable [Draws]
section
variable {P:Program}[Globals P]{T:Tab}{f:FuncId}{fn:Func}{n:Nat}{C:Cx}{objs:List (Option AObj)}{R:AV→List (Option AObj)→Prop}{ops:Array Oper}{m:Nat}{envF:Env}{X:Nat→Prop}
theorem zmg{O:List Nat→List (Option AObj)}{j:Nat}{o:Oper}{E:Env}{a:AV}{c:Option Prop}{d:Nat}(hT:TabOk P T)(hw:wantE ops (restr E (o.looksAt ops)) o=.yes)(hE:∀t∈o.looksAt ops,∀b,look E t=some b→look envF t=some b)
  (hs:∀L,j∉L→estep T o (restr E (o.looksAt ops)) (O L)=some ⟨c,false,a,none,O (j::L)⟩) (hc:cond c) (hdst:o.dst=some d) (hdn:Nat.blt d n=true) (hlook:look envF d=some a):HeadH P n C O m ops envF j o:=by
 intro L _ hjL _ _ π w tmps hsz hm hgk hlk;have he:z13 w (okOf C.X π (O L)) π (restr E (o.looksAt ops)) tmps:=fun t b ht=>by
  obtain⟨h1,h2⟩:=z12 ht;exact hlk t h1 b (hE t h1 b h2)
 have hst:=z3v (ds:=[]) hT hm he o;rw [hs L hjL]at hst;obtain⟨v,w',π',h1,h2,h3⟩:=hst hc;refine .inr ⟨(zm he).1 hw,.inl ⟨v,w',π',h1,⟨h2.mem,fun hh=>hh.trans h2.hist,h2.keep⟩,fun d' hd=>?_⟩⟩;rw [hdst]at hd;cases hd;refine⟨by simpa [Nat.blt_eq]using hdn,a,hlook,h3 rfl⟩
end
end Ab
namespace Go.Proofs.YtbodbhpdelgpnaaGreatDoor
open Go Ab
structure TyOk(l:List Nd):Prop where
 ln:∀i,i<l.length→LineOk l i (nd l i)
 nx:∀i,i<l.length→(nd l i).op=ze→hadP l l.length kNext ((i:Int)+1)
def wN(l:List Nd)(x:Nd):Int:=if isVal x.op=true then wdN l x else 0
def wL(l:List Nd)(i:Nat):List Int:=(List.range i).map fun j=>wN l (nd l j)
theorem z95(l:List Nd)(i:Nat):(wL l i).length=i:=by simp [wL]
theorem zg1(l:List Nd)(i:Nat):wL l (i+1)=wL l i++[wN l (nd l i)]:=by simp [wL,List.range_succ]
theorem zcx(l:List Nd)(hm:MdB l)(hl:l.length<2000000000000)(hn:∀j,j<l.length→NodeOk (nd l j) ((j:Int)+1)):
  ACall Tryz.prog 56 [.d (eBt l)] [] (fun r o=>∃(x:D) (q e:Int),r=tupOf [.d x,vI .i64 q,vI .i64 e]∧(e=0→TyOk l∧x=eIs (wL l l.length))∧(TyOk l→e=0)):=by
 refine yN Tryz.func56 fun C hC hCl hDs hGk=>?_;have hl2:l.length<maxLen:=Nat.lt_trans hl (by decide);have hm2:l.length≤maxLen:=Nat.le_of_lt hl2;refine yS Tryz.func56 rfl trivial ?_;refine z45 (s:=1) (e:=3) (t:=5) (.inl rfl) (fun i=>eI (([]:List Int).getD i 0)) ?_;refine z8 (α:=Nat) (fun j=>[(1,.ptr 0 0),(5,.gs 1),(6,vI .i64 (j:Int))]) (fun j=>[some (bBt l),some (gIs (wL l j))]) (fun j=>j≤l.length∧∀q,q<j→LineOk l q (nd l q)) (fun j=>l.length-j) 0 ⟨Nat.zero_le _,fun q hq=>by omega⟩ ?_ ?_
 ·exact fun h=>yE h (eAl rfl) (oAl rfl)
 rintro j ⟨hj,hall⟩ ih;refine yB Tryz.func56 rfl trivial (fun hb=>?_) (fun hb=>?_)<;>simp only [List.length_map,decide_eq_true_eq,decide_eq_false_iff_not]at hb
 ·have hlt:j<l.length:=by omega
  have ej:IntKind.i64.wrap ((j:Int)+1)=((j+1:Nat):Int):=by rw [z7 (by omega) (by omega)];omega
  refine yC Tryz.func56 rfl trivial (zgq l hm hl2 j hlt (fun q hq=>hn q (by omega)) hall) ⟨.refl _,.of (by show vI .i64 (IntKind.i64.wrap ((j:Int)+1))=_;rw [ej]),trivial⟩ ?_ (hr:=by rintro r o ⟨b,rfl,-⟩;rfl);rintro r o ⟨e,rfl,he,he2⟩;refine yB Tryz.func56 rfl trivial (fun g=>?_) (fun g=>?_)
  ·have g:(!(e==0))=true:=g;refine yR Tryz.func56 rfl trivial ⟨_,_,e,rfl,(fun h=>by rw [h]at g;cases g),fun ha=>he2 (ha.ln j hlt)⟩
  have g:(!(e==0))=false:=g;have e0:e=0:=by simpa using g
  have hlk:=he e0;have hall2:∀q,q<j+1→LineOk l q (nd l q):=fun q hq=>by
   rcases Nat.lt_or_ge q j with h|h
   ·exact hall q h
   ·obtain rfl:q=j:=by omega
    exact hlk
  refine yV Tryz.func56 rfl (by simp [andP]<;>omega) (z9j (nd l j)) (.refl _) ?_;refine yB Tryz.func56 rfl trivial (fun v=>?_) (fun v=>?_)
  ·have hS:=zcy (hn j hlt) hlk v;obtain⟨wd,hwd⟩:∃wd,wdN l (nd l j)=wd:=⟨_,rfl⟩
   refine z50 9 0 [(8,some (41,.d (.sl 1 [eI wd] (litRd [eI wd]))))] (fun L=>[some (bBt l),some (gIs (wL l j))]) _ (objsF:=[some (bBt l),some (gIs (wL l j))])
    tabOk Tryz.func56 rfl rfl trivial (by kernel_rfl) (by kernel_rfl) rfl (fun L _=>rfl) (fun j L _=>rfl) rfl (fun L=>z5t tabOk rfl (by simp [andP]<;>omega) (z8p l (nd l j) hS.lo hS.hi hS.n hm2) (zb Tryz.func68 rfl rfl) (by rintro r o rfl;rw [hwd]) (.refl _) rfl rfl ⟨_,rfl⟩ (yq rfl trivial rfl)) ?_ ?_
   ·refine List.forall_mem_cons.2 ⟨⟨_,rfl,rfl,?_⟩,fun x h=>by cases h⟩;exact zmg tabOk rfl (fun _ _ _ h=>h) (fun L _=>rfl) trivial rfl rfl rfl
   refine yS Tryz.func56 rfl ?_ ?_
   ·show((List.map eI (wL l j)).length+1)*8≤140737488355328∧True;rw [List.length_map,z95];exact⟨by omega,trivial⟩
   refine yE (ih (j+1) ⟨by omega,hall2⟩ (by omega)) ⟨erl rfl,erl rfl,erw rfl,trivial⟩ ⟨.refl _,.gL ?_,trivial⟩;rw [zg1,List.map_append,wN,if_pos v,hwd];rfl
  ·refine yS Tryz.func56 rfl ?_ ?_
   ·show((List.map eI (wL l j)).length+1)*8≤140737488355328∧True;rw [List.length_map,z95];exact⟨by omega,trivial⟩
   refine yE (ih (j+1) ⟨by omega,hall2⟩ (by omega)) ⟨erl rfl,erl rfl,erw rfl,trivial⟩ ⟨.refl _,.gL ?_,trivial⟩;rw [zg1,List.map_append,wN,if_neg (by rw [v];decide)];rfl
 obtain rfl:j=l.length:=by omega
 refine yS Tryz.func56 rfl trivial ?_;refine z8 (α:=Nat) (fun j=>[(1,.ptr 0 0),(5,.gs 1),(9,vI .i64 (j:Int))]) (fun j=>[some (bBt l),some (gIs (wL l l.length))]) (fun j=>j≤l.length∧∀q,q<j→(nd l q).op=ze→hadP l l.length kNext ((q:Int)+1)) (fun j=>l.length-j) 0 ⟨Nat.zero_le _,fun q hq=>by omega⟩ ?_ ?_
 ·exact fun h=>yE h (eAl rfl) (oAl rfl)
 rintro j ⟨hj,hnx⟩ ih;refine yB Tryz.func56 rfl trivial (fun hb=>?_) (fun hb=>?_)<;>simp only [List.length_map,decide_eq_true_eq,decide_eq_false_iff_not]at hb
 ·have hlt:j<l.length:=by omega
  have ej:IntKind.i64.wrap ((j:Int)+1)=((j+1:Nat):Int):=by rw [z7 (by omega) (by omega)];omega
  have ell:IntKind.i64.wrap (((l.map eNd).length:Int)+1)=((l.length+1:Nat):Int):=by rw [List.length_map,z7 (by omega) (by omega)];omega
  refine yB Tryz.func56 rfl (by simp [andP]<;>omega) (fun h1=>?_) (fun h1=>?_)
  ·have h1:((⟨(nd l j).op.toArray⟩:ByteArray).toList==(⟨ze.toArray⟩:ByteArray).toList)=true:=h1;rw [strB,decide_eq_true_eq]at h1;refine yC Tryz.func56 rfl trivial (zdz l l.length (Nat.le_refl _) kNext ((j+1:Nat):Int) (fun q hq hq2=>by rw [(hn q hq).al,hq2];decide) hl2) ⟨.refl _,.of (by show vI .i64 _=_;rw [ell]),.refl _,.of (by show vI .i64 _=_;rw [ej]),trivial⟩ ?_ (hr:=by rintro r o ⟨b,rfl,-⟩;rfl);rintro r o ⟨b,rfl,hb1,hb2⟩;refine yB Tryz.func56 rfl trivial (fun g=>?_) (fun g=>?_)
   ·exact yR Tryz.func56 rfl trivial ⟨_,_,4,rfl,(fun h=>absurd h (by decide)),fun ha=>absurd (ha.nx j hlt h1) (hb1 (by have g:(!b)=true:=g;simpa using g))⟩
   have g:(!b)=false:=g;have hb3:=hb2 (by simpa using g);refine yS Tryz.func56 rfl trivial ?_;refine yE (ih (j+1) ⟨by omega,fun q hq h3=>?_⟩ (by omega)) ⟨erl rfl,erl rfl,erw rfl,trivial⟩ (oAl rfl);rcases Nat.lt_or_ge q j with h|h
   ·exact hnx q h h3
   ·obtain rfl:q=j:=by omega
    exact hb3
  ·have h1:((⟨(nd l j).op.toArray⟩:ByteArray).toList==(⟨ze.toArray⟩:ByteArray).toList)=false:=h1;rw [strB,decide_eq_false_iff_not]at h1;refine yF Tryz.func56 rfl trivial ?_;refine yS Tryz.func56 rfl trivial ?_;refine yE (ih (j+1) ⟨by omega,fun q hq h3=>?_⟩ (by omega)) ⟨erl rfl,erl rfl,erw rfl,trivial⟩ (oAl rfl);rcases Nat.lt_or_ge q j with h|h
   ·exact hnx q h h3
   ·obtain rfl:q=j:=by omega
    exact absurd h3 h1
 ·obtain rfl:j=l.length:=by omega
  refine zj 1 rfl ?_;refine yR Tryz.func56 rfl trivial ⟨_,0,0,rfl,(fun _=>⟨⟨hall,hnx⟩,rfl⟩),fun _=>rfl⟩
structure Ty(l:List Nd):Prop where
 small:l.length<1000000
 node:∀j,j<l.length→NodeOk (nd l j) ((j:Int)+1)
 ty:TyOk l
theorem Ty.lt{l:List Nd}(h:Ty l):l.length<maxLen:=Nat.lt_trans h.small (by decide)
theorem zf1(l:List Nd)(hm:MdB l)(hl:l.length<2000000000000):ACall Tryz.prog 24 [.d (eBt l)] [] (fun r o=>∃b,r=vB b∧(b=true→(∀j,j<l.length→NodeOk (nd l j) ((j:Int)+1))∧TyOk l)):=by
 refine yN Tryz.func24 fun C hC hCl hDs hGk=>?_;refine yC Tryz.func24 rfl trivial (zf2 l hm) (.refl _) ?_ (hr:=by rintro r o ⟨b,rfl,-⟩;rfl);rintro r o ⟨b,rfl,hb⟩;refine yB Tryz.func24 rfl trivial (fun h=>?_) (fun h=>?_)
 ·exact yR Tryz.func24 rfl trivial ⟨false,rfl,by simp⟩
 have h:(!b)=false:=h;have hn:=hb (by simpa using h);refine yC Tryz.func24 rfl trivial (zcx l hm hl hn) (.refl _) ?_ (hr:=by rintro r o ⟨x,q,e,rfl,-⟩;rfl);rintro r o ⟨x,q,e,rfl,he,-⟩;refine yR Tryz.func24 rfl trivial ⟨e==0,rfl,fun h=>?_⟩;exact⟨hn,(he (by simpa using h)).1⟩
theorem zee(l:List Nd)(hm:MdB l)(most:Int)(hmo:most≤999999)(hl:l.length<2000000000000):ACall Tryz.prog 9 [.d (eBt l),vI .i64 most] [] (fun r o=>∃b,r=vB b∧(b=true→(l.length:Int)≤most∧Ty l)):=by
 refine yN Tryz.func9 fun C hC hCl hDs hGk=>?_;refine yC Tryz.func9 rfl trivial (zem l hm most) (.refl _) ?_ (hr:=by rintro r o ⟨b,rfl,-⟩;rfl);rintro r o ⟨b,rfl,hb⟩;refine yC Tryz.func9 rfl trivial (zf1 l hm hl) (.refl _) ?_ (hr:=by rintro r o ⟨b,rfl,-⟩;rfl);rintro r o ⟨b2,rfl,hb2⟩;refine yB Tryz.func9 rfl trivial (fun h=>?_) (fun h=>?_)
 ·exact yR Tryz.func9 rfl trivial ⟨b2,rfl,fun h2=>⟨hb h,by have:=hb h;omega,(hb2 h2).1,(hb2 h2).2⟩⟩
 ·exact yR Tryz.func9 rfl trivial ⟨false,rfl,by simp⟩
def allL(l:List Nd)(op:List UInt8)(n:Nat):List Int:=((List.range n).filter fun j:Nat=>decide ((nd l j).op=op)).map fun j:Nat=>(j:Int)+1
theorem z4d(l:List Nd)(op:List UInt8)(n:Nat):allL l op (n+1)=allL l op n++(if(nd l n).op=op then [(n:Int)+1]else []):=by
 unfold allL;rw [List.range_succ,List.filter_append,List.map_append];congr 1;by_cases h:(nd l n).op=op
 ·rw [if_pos h,List.filter_cons_of_pos (p:=fun j:Nat=>decide ((nd l j).op=op)) (a:=n) (l:=[]) (decide_eq_true h)];rfl
 ·rw [if_neg h,List.filter_cons_of_neg (p:=fun j:Nat=>decide ((nd l j).op=op)) (a:=n) (l:=[]) (by show ¬decide ((nd l n).op=op)=true;rw [decide_eq_false h];exact Bool.false_ne_true)];rfl
theorem z1s(l:List Nd)(op:List UInt8)(n:Nat):(allL l op n).length≤n:=by
 unfold allL;rw [List.length_map];exact Nat.le_trans (List.length_filter_le _ _) (by simp)
theorem z88{l:List Nd}{op:List UInt8}{n:Nat}{a:Int}(h:a∈allL l op n):1≤a∧a≤n∧(ln l a).op=op:=by
 unfold allL at h;simp only [List.mem_map,List.mem_filter,List.mem_range,decide_eq_true_eq]at h;obtain⟨j,⟨h1,h2⟩,rfl⟩:=h;refine⟨by omega,by omega,?_⟩;rw [ln,show((j:Int)+1-1).toNat=j by omega];exact h2
theorem z92(l:List Nd)(op:List UInt8)(hl:l.length<1000000):ACall Tryz.prog 22 [.d (eBt l),vSL op] [] (fun r o=>r=.d (eIs (allL l op l.length))):=by
 refine yN Tryz.func22 fun C hC hCl hDs hGk=>?_;refine yS Tryz.func22 rfl trivial ?_;refine z45 (s:=1) (e:=3) (t:=5) (.inl rfl) (fun i=>eI (([]:List Int).getD i 0)) ?_;refine z8 (α:=Nat) (fun j=>[(1,vSL op),(2,.ptr 0 0),(5,.gs 1),(6,vI .i64 (j:Int))]) (fun j=>[some (bBt l),some (gIs (allL l op j))]) (fun j=>j≤l.length) (fun j=>l.length-j) 0 (Nat.zero_le _) ?_ ?_
 ·exact fun h=>yE h (eAl rfl) (oAl rfl)
 rintro j hj ih;have hal:=z1s l op j;refine yB Tryz.func22 rfl trivial (fun hb=>?_) (fun hb=>?_)<;>simp only [List.length_map,decide_eq_true_eq,decide_eq_false_iff_not]at hb
 ·have hlt:j<l.length:=by omega
  have ej:IntKind.i64.wrap ((j:Int)+1)=(j:Int)+1:=by rw [z7 (by omega) (by omega)]
  refine yB Tryz.func22 rfl (by simp [andP]<;>omega) (fun h1=>?_) (fun h1=>?_)
  ·have h1:((⟨(nd l j).op.toArray⟩:ByteArray).toList==(⟨op.toArray⟩:ByteArray).toList)=true:=h1;rw [strB,decide_eq_true_eq]at h1;refine yS Tryz.func22 rfl ?_ ?_
   ·show((List.map eI (allL l op j)).length+1)*8≤140737488355328∧True;rw [List.length_map];exact⟨by omega,trivial⟩
   refine yE (ih (j+1) (by omega) (by omega)) ⟨erl rfl,erl rfl,erl rfl,erw rfl,trivial⟩ ⟨.refl _,.gL ?_,trivial⟩;rw [z4d,if_pos h1,List.map_append];show _++[eI (IntKind.i64.wrap ((j:Int)+1))]=_;rw [ej];rfl
  ·have h1:((⟨(nd l j).op.toArray⟩:ByteArray).toList==(⟨op.toArray⟩:ByteArray).toList)=false:=h1;rw [strB,decide_eq_false_iff_not]at h1;refine yS Tryz.func22 rfl trivial ?_;refine yE (ih (j+1) (by omega) (by omega)) ⟨erl rfl,erl rfl,erl rfl,erw rfl,trivial⟩ ⟨.refl _,.gL ?_,trivial⟩;rw [z4d,if_neg h1,List.append_nil]
 ·obtain rfl:j=l.length:=by omega
  refine zj 1 rfl ?_;exact yR Tryz.func22 rfl trivial rfl
def ofJ(l:List Nd)(op:List UInt8)(st:Int):Option Nat:=(List.range l.length).find? fun j=>decide ((nd l j).op=op∧(nd l j).a.getD 0 0=st)
theorem zi3{l:List Nd}{op:List UInt8}{st:Int}{j:Nat}(h:j<l.length)(h1:(nd l j).op=op)(h2:(nd l j).a.getD 0 0=st)(h3:∀q,q<j→¬((nd l q).op=op∧(nd l q).a.getD 0 0=st)):ofJ l op st=some j:=by
 unfold ofJ;rw [List.find?_range_eq_some];refine⟨decide_eq_true ⟨h1,h2⟩,by simpa using h,fun q hq=>by rw [decide_eq_false (h3 q hq)];rfl⟩
theorem zi4{l:List Nd}{op:List UInt8}{st:Int}(h3:∀q,q<l.length→¬((nd l q).op=op∧(nd l q).a.getD 0 0=st)):ofJ l op st=none:=by
 unfold ofJ;rw [List.find?_eq_none];intro q hq;rw [decide_eq_false (h3 q (List.mem_range.1 hq))];exact Bool.false_ne_true
def ofV(l:List Nd)(op:List UInt8)(st:Int):Int:=match ofJ l op st with|some j=>(nd l j).a.getD 1 0|none=>0
theorem zls(l:List Nd)(op:List UInt8)(st:Int)(hl:l.length<1000000)(ha:∀j,j<l.length→(nd l j).op=op→(nd l j).a.length=2):
  ACall Tryz.prog 69 [.d (eBt l),vSL op,vI .i64 st] [] (fun r o=>r=tupOf [vI .i64 (ofV l op st),vB (ofJ l op st).isSome]):=by
 refine yN Tryz.func69 fun C hC hCl hDs hGk=>?_;refine yS Tryz.func69 rfl trivial ?_;refine z8 (α:=Nat) (fun j=>[(1,vSL op),(2,vI .i64 st),(3,.ptr 0 0),(8,vI .i64 (j:Int))]) (fun j=>[some (bBt l)]) (fun j=>j≤l.length∧∀q,q<j→¬((nd l q).op=op∧(nd l q).a.getD 0 0=st)) (fun j=>l.length-j) 0 ⟨Nat.zero_le _,fun q hq=>by omega⟩ ?_ ?_
 ·exact fun h=>yE h (eAl rfl) (oAl rfl)
 rintro j ⟨hj,hall⟩ ih;refine yB Tryz.func69 rfl trivial (fun hb=>?_) (fun hb=>?_)<;>simp only [List.length_map,decide_eq_true_eq,decide_eq_false_iff_not]at hb
 ·have hlt:j<l.length:=by omega
  have next:¬((nd l j).op=op∧(nd l j).a.getD 0 0=st)→∀q,q<j+1→¬((nd l q).op=op∧(nd l q).a.getD 0 0=st):=fun h q hq=>by
   rcases Nat.lt_or_ge q j with h2|h2
   ·exact hall q h2
   ·obtain rfl:q=j:=by omega
    exact h
  refine yB Tryz.func69 rfl (by simp [andP]<;>omega) (fun h1=>?_) (fun h1=>?_)
  ·have h1:((⟨(nd l j).op.toArray⟩:ByteArray).toList==(⟨op.toArray⟩:ByteArray).toList)=true:=h1;rw [strB,decide_eq_true_eq]at h1;have hal:=ha j hlt h1;refine yB Tryz.func69 rfl ⟨⟨Int.le_refl _,by rw [List.length_map];show(0:Int)<(((nd l j).a.length:Nat):Int);omega⟩,⟨by omega,by rw [List.length_map];omega⟩,trivial⟩ (fun h2=>?_) (fun h2=>?_)
   ·have h2:((nd l j).a.getD 0 0==st)=true:=h2;refine yR Tryz.func69 rfl ⟨⟨by decide,by rw [List.length_map];show(1:Int)<(((nd l j).a.length:Nat):Int);omega⟩,⟨by omega,by rw [List.length_map];omega⟩,trivial⟩ ?_;rw [ofV,zi3 hlt h1 (eq_of_beq h2) hall];rfl
   ·have h2:((nd l j).a.getD 0 0==st)=false:=h2;refine yS Tryz.func69 rfl trivial ?_;exact yE (ih (j+1) ⟨by omega,next fun hh=>by rw [hh.2]at h2;simp at h2⟩ (by omega)) ⟨erl rfl,erl rfl,erl rfl,erw rfl,trivial⟩ (oAl rfl)
  ·have h1:((⟨(nd l j).op.toArray⟩:ByteArray).toList==(⟨op.toArray⟩:ByteArray).toList)=false:=h1;rw [strB,decide_eq_false_iff_not]at h1;refine yF Tryz.func69 rfl trivial ?_;refine yS Tryz.func69 rfl trivial ?_;exact yE (ih (j+1) ⟨by omega,next fun hh=>h1 hh.1⟩ (by omega)) ⟨erl rfl,erl rfl,erl rfl,erw rfl,trivial⟩ (oAl rfl)
 ·obtain rfl:j=l.length:=by omega
  refine yR Tryz.func69 rfl trivial ?_;rw [ofV,zi4 hall];rfl
theorem zjd(w:Nat)(hw:w≤1000000):ACall Tryz.prog 97 [vI .i64 w] [] (fun r o=>r=.d (vN w 0)):=by
 have:=(z2b w hw).frz [1] (r3:=.d (vN w 0)) rfl (.agL (by rw [z4g];exact .refl _));exact this
theorem zrn{n:Nat}(hn:0<n):(List.replicate n 0).set 0 1=lmb n 1:=by
 have:=z4k (n:=n) (X:=0) (j:=0) (by omega);rw [←z4g]at this;rw [show lmb n 1=lmb n (0 ||| 2^0)by rfl,←this,setB];congr 1;cases n with|zero=>omega|succ n=>simp
theorem zln(w:Nat)(hw:0<w)(hwb:w≤1000000):ACall Tryz.prog 216 [vI .i64 w] [] (fun r o=>r=.ag [vI .i64 w,.gs 2]∧o=[none,none,some (gUs (lmb (z6 w) 1))]):=by
 refine yN Tryz.func216 fun C hC hCl hDs hGk=>?_;have hn:0<z6 w:=by unfold z6;omega
 refine yW [] Tryz.func216 rfl trivial (z2b w hwb) trivial (.refl _) ?_;refine yL Tryz.func216 rfl ?_ (.refl _) ⟨.gL ?_,trivial⟩ ⟨rfl,rfl⟩ (o2:=[none,none,some (gUs (lmb (z6 w) 1))])
 ·simp only [andP,List.length_map,List.length_replicate];exact⟨by simpa using hn,by simpa using hn⟩
 ·rw [←zrn hn,List.map_set];rfl
theorem zi2(w:Nat)(hw:0<w)(hwb:w≤1000000):ACall Tryz.prog 216 [vI .i64 w] [] (fun r o=>r=.d (vN w 1)):=(zln w hw hwb).frz [2] rfl (.agL (.refl _))
theorem zpa(w x:Nat)(hw:0<w)(hwb:w≤1000000):ACall Tryz.prog 218 [.d (vN w x),.ptr 0 0] [some (cF 216)] (fun r o=>r=.d (vN w ((x+1)%2^w))∧o=[some (cF 216)]):=by
 refine yN Tryz.func218 fun C hC hCl hDs hGk=>?_;refine yO 5 Tryz.func218 rfl trivial ?_;refine yQ Tryz.func216 rfl trivial (zi2 w hw hwb) (.refl _) ?_;refine yq rfl trivial ?_;refine yV Tryz.func218 rfl trivial (z3e w x 1 0 hw hwb (by decide)) (.refl _) ?_;exact yL Tryz.func218 rfl trivial (.refl _) (oAl rfl) ⟨rfl,rfl⟩ (o2:=[some (cF 216)])
theorem zpu(w x:Nat)(hw:0<w)(hwb:w≤1000000):ACall Tryz.prog 220 [.d (vN w x),.ptr 0 0] [some (cF 216)] (fun r o=>r=.d (vN w ((x+(2^w-(1+1))+1)%2^w))∧o=[some (cF 216)]):=by
 refine yN Tryz.func220 fun C hC hCl hDs hGk=>?_;refine yO 6 Tryz.func220 rfl trivial ?_;refine yQ Tryz.func216 rfl trivial (zi2 w hw hwb) (.refl _) ?_;refine yQ Tryz.func217 rfl trivial (z2s w 1 (Nat.one_lt_two_pow (by omega)) hw hwb) (.refl _) ?_;refine yq rfl trivial ?_;refine yV Tryz.func220 rfl trivial (z3e w x (2^w-(1+1)) 1 hw hwb (by decide)) (.refl _) ?_;exact yL Tryz.func220 rfl trivial (.refl _) (oAl rfl) ⟨rfl,rfl⟩ (o2:=[some (cF 216)])
theorem zoy(w x:Nat)(hx:x<2^w)(hw:0<w)(hwb:w≤1000000):ACall Tryz.prog 221 [.d (vN w x)] [] (fun r o=>r=.d (vN w ((0+(2^w-(x+1))+1)%2^w))):=by
 refine yN Tryz.func221 fun C hC hCl hDs hGk=>?_;refine yO 4 Tryz.func221 rfl trivial ?_;refine yQ Tryz.func97 rfl trivial (zjd w hwb) (.refl _) ?_;refine yq rfl trivial ?_;refine yV Tryz.func221 rfl trivial (z2s w x hx hw hwb) (.refl _) ?_;refine yV Tryz.func221 rfl trivial (z3e w 0 (2^w-(x+1)) 1 hw hwb (by decide)) (.refl _) ?_;exact yR Tryz.func221 rfl trivial rfl
theorem zq4(w x y:Nat)(hw:0<w)(hwb:w≤1000000):ACall Tryz.prog 246 [.d (vN w x),.d (vN w y)] [] (fun r o=>r=.d (vN w ((x+y)%2^w))):=by
 refine yN Tryz.func246 fun C hC hCl hDs hGk=>?_;refine yV Tryz.func246 rfl trivial (z3e w x y 0 hw hwb (by decide)) (.refl _) ?_;exact yR Tryz.func246 rfl trivial rfl
theorem zoa(w x y:Nat)(hy:y<2^w)(hw:0<w)(hwb:w≤1000000):ACall Tryz.prog 247 [.d (vN w x),.d (vN w y)] [] (fun r o=>r=.d (vN w ((x+(2^w-(y+1))+1)%2^w))):=by
 refine yN Tryz.func247 fun C hC hCl hDs hGk=>?_;refine yO 3 Tryz.func247 rfl trivial ?_;refine yQ Tryz.func217 rfl trivial (z2s w y hy hw hwb) (.refl _) ?_;refine yq rfl trivial ?_;refine yV Tryz.func247 rfl trivial (z3e w x (2^w-(y+1)) 1 hw hwb (by decide)) (.refl _) ?_;exact yR Tryz.func247 rfl trivial rfl
theorem zoe(w x y:Nat)(hy:y<2^w)(hw:0<w)(hwb:w≤128):ACall Tryz.prog 252 [.d (vN w x),.d (vN w y)] [] (fun r o=>r=.d (vN w (x*2^(min y w)%2^w))):=by
 refine yN Tryz.func252 fun C hC hCl hDs hGk=>?_;refine yO 3 Tryz.func252 rfl trivial ?_;refine yQ Tryz.func253 rfl trivial (z6b w y hw hwb hy) (.refl _) ?_;refine yq rfl trivial ?_;refine yV Tryz.func252 rfl trivial (zhj w (min y w) x (by omega) (Nat.min_le_right _ _)) (.refl _) ?_;exact yR Tryz.func252 rfl trivial rfl
theorem zob(w x y:Nat)(hy:y<2^w)(hw:0<w)(hwb:w≤128):ACall Tryz.prog 254 [.d (vN w x),.d (vN w y)] [] (fun r o=>r=.d (vN w (dnN w x (min y w) false w))):=by
 refine yN Tryz.func254 fun C hC hCl hDs hGk=>?_;refine yO 3 Tryz.func254 rfl trivial ?_;refine yQ Tryz.func253 rfl trivial (z6b w y hw hwb hy) (.refl _) ?_;refine yq rfl trivial ?_;refine yV Tryz.func254 rfl trivial (zcq w x (min y w) false hw (by omega) (by omega)) (.refl _) ?_;exact yR Tryz.func254 rfl trivial rfl
theorem zoc(w x y:Nat)(hy:y<2^w)(hw:0<w)(hwb:w≤128):ACall Tryz.prog 256 [.d (vN w x),.d (vN w y)] [] (fun r o=>r=.d (vN w (dnN w x (min y w) (x.testBit (w-1)) w))):=by
 refine yN Tryz.func256 fun C hC hCl hDs hGk=>?_;have e1:IntKind.i64.wrap ((w:Int)-1)=((w-1:Nat):Int):=by rw [z7 (by omega) (by omega)];omega
 refine yO 8 Tryz.func256 rfl trivial ?_;refine yQ Tryz.func253 rfl trivial (z6b w y hw hwb hy) (.refl _) ?_;refine z5t tabOk rfl trivial (z4f w x ((w-1:Nat):Int) (by omega)) (zb Tryz.func101 rfl rfl) (by rintro r o rfl;rw [bitI'_nat (by omega)]) ⟨.refl _,.of (by show vI .i64 (IntKind.i64.wrap ((w:Int)-1))=_;rw [e1]),trivial⟩ rfl rfl ⟨_,rfl⟩ ?_;refine yq rfl trivial ?_;refine yV Tryz.func256 rfl trivial (zcq w x (min y w) (x.testBit (w-1)) hw (by omega) (by omega)) (.refl _) ?_;exact yR Tryz.func256 rfl trivial rfl
theorem zk4(w x v y:Nat)(hx:x<2^w)(hy:y<2^v):ACall Tryz.prog 258 [.d (vN w x),.d (vN v y)] [] (fun r o=>r=vB (decide (w=v)&&decide (x=y))):=by
 have:=zns w v (lmb (z6 w) x) (lmb (z6 v) y);have e:sameV w (lmb (z6 w) x) v (lmb (z6 v) y)=(decide (w=v)&&decide (x=y)):=by
  unfold sameV;by_cases h:w=v
  ·subst h;by_cases h2:x=y
   ·subst h2;simp
   ·have:lmb (z6 w) x≠lmb (z6 w) y:=fun h3=>h2 (zm2 (z6w hx) (z6w hy) h3)
    simp [this,h2]
  ·have:(w:Int)≠v:=by omega
   simp [h,this]
 rwa [e]at this
theorem zsd(w x y:Nat)(hx:x<2^w)(hy:y<2^w):ACall Tryz.prog 257 [.d (vN w x),.d (vN w y)] [] (fun r o=>r=.d (vN 1 (if x=y then 1 else 0))):=by
 refine yN Tryz.func257 fun C hC hCl hDs hGk=>?_;refine yV Tryz.func257 rfl trivial (zk4 w x w y hx hy) (.refl _) ?_;refine yV Tryz.func257 rfl trivial (z40 (decide (w=w)&&decide (x=y))) (.refl _) ?_;refine yR Tryz.func257 rfl trivial ?_;by_cases h:x=y
 ·subst h;simp;rfl
 ·simp [h];rfl
def txt(w x:Nat):List UInt8:=(List.range w).map fun i=>digU (x.testBit (w-1-i))
theorem z2o(w x:Nat):(txt w x).length=w:=by simp [txt]
theorem z42(w x:Nat)(h0:0<w)(hb:w≤100000):ACall Tryz.prog 204 [.d (vN w x)] [] (fun r o=>r=vSL (txt w x)):=by
 have:=znr w (lmb (z6 w) x) (z14 _ _) (by rw [zr];exact Nat.le_refl _) h0 hb;rwa [show textU w (lmb (z6 w) x)=txt w x from List.map_congr_left fun i hi=>by
  have:=List.mem_range.1 hi;rw [z4q (z1o (by omega))]]at this
def isT(l:List UInt8)(f:Nat→Bool):Prop:=∀i,i<l.length→l.getD (l.length-1-i) 0=digU (f i)
theorem zp9(b:Bool):is01 (digU b)=true:=by cases b<;>decide
theorem mkR_T{l:List UInt8}{f:Nat→Bool}(h1:1≤l.length)(h2:l.length≤128)(h:isT l f):mkR l=tupOf [.d (vN l.length (ofB f l.length)),vI .i64 0]:=by
 have hok:mkok l=true:=by
  simp only [mkok,Bool.and_eq_true,decide_eq_true_eq,List.all_eq_true];refine⟨⟨h1,h2⟩,fun c hc=>?_⟩;obtain⟨i,hi,rfl⟩:=List.mem_iff_getElem.1 hc;have:=h (l.length-1-i) (by omega);rw [show l.length-1-(l.length-1-i)=i by omega]at this;have e:l.getD i 0=l[i]:=by simp [hi]
  rw [←e,this];exact zp9 _
 have hn:mkN l=ofB f l.length:=zlr (z6d _ _) fun i hi=>by
  rw [h i hi,zas];cases f i<;>simp [hi,digU]
 rw [mkR,if_pos hok,hn]
theorem zdv(w x:Nat):isT (txt w x) fun i=>x.testBit i:=by
 intro i hi;rw [z2o]at hi ⊢;simp [txt,show w-1-i<w by omega,show w-1-(w-1-i)=i by omega]
theorem zm9{a b:List UInt8}{f g:Nat→Bool}(ha:isT a f)(hb:isT b g):isT (a++b) fun i=>if i<b.length then g i else f (i-b.length):=by
 intro i hi;show(a++b).getD _ 0=digU (if i<b.length then g i else f (i-b.length));rw [List.length_append]at hi ⊢;by_cases h:i<b.length
 ·have:=hb i h;rw [if_pos h,←this,List.getD_eq_getElem?_getD,List.getD_eq_getElem?_getD,List.getElem?_append_right (by omega)];congr 2;omega
 ·have:=ha (i-b.length) (by omega);rw [if_neg h,←this,List.getD_eq_getElem?_getD,List.getD_eq_getElem?_getD,List.getElem?_append_left (by omega)];congr 2;omega
theorem z9y(a b:List UInt8):(⟨a.toArray⟩:ByteArray)++⟨b.toArray⟩=⟨(a++b).toArray⟩:=by
 apply ByteArray.ext;rw [ByteArray.data_append];simp
def jnN(w x v y:Nat):Nat:=ofB (fun i=>if i<v then y.testBit i else x.testBit (i-v)) (w+v)
theorem zgt(w x v y:Nat)(hw:0<w)(hv:0<v)(hwb:w≤128)(hvb:v≤128):ACall Tryz.prog 235 [.d (vN w x),.d (vN v y)] [] (fun r o=>r=if w+v≤128 then tupOf [.d (vN (w+v) (jnN w x v y)),vI .i64 0]else tupOf [.d z24,vI .i64 5]):=by
 refine yN Tryz.func235 fun C hC hCl hDs hGk=>?_;have e1:IntKind.i64.wrap ((w:Int)+v)=((w+v:Nat):Int):=by rw [z7 (by omega) (by omega)];omega
 refine yB Tryz.func235 rfl trivial (fun h=>?_) (fun h=>?_)
 ·have h:decide (IntKind.i64.wrap ((w:Int)+v)>128)=true:=h;rw [e1,decide_eq_true_eq]at h;refine yR Tryz.func235 rfl trivial ?_;rw [if_neg (by omega)];rfl
 ·have h:decide (IntKind.i64.wrap ((w:Int)+v)>128)=false:=h;rw [e1,decide_eq_false_iff_not]at h;have hlen:(txt w x++txt v y).length=w+v:=by rw [List.length_append,z2o,z2o]
  have hT:=mkR_T (l:=txt w x++txt v y) (by omega) (by omega) (zm9 (zdv w x) (zdv v y));rw [hlen,z2o]at hT;refine yO 8 Tryz.func235 rfl trivial ?_;refine yQ Tryz.func204 rfl trivial (z42 w x hw (by omega)) (.refl _) ?_;refine yQ Tryz.func204 rfl trivial (z42 v y hv (by omega)) (.refl _) ?_;refine z5t tabOk rfl ?_ (z4e (txt w x++txt v y) (by omega)) (zb Tryz.func72 rfl rfl) (by rintro r o rfl;exact hT) ⟨.of ?_,trivial⟩ rfl rfl ⟨_,rfl⟩ ?_
  ·rw [zp,zp,z2o,z2o];exact⟨by omega,trivial⟩
  ·rw [z9y]
  refine yq rfl trivial ?_;refine yR Tryz.func235 rfl trivial ?_;rw [if_pos (by omega)];rfl
def slN(x lo n:Nat):Nat:=ofB (fun i=>x.testBit (lo+i)) n
theorem zs5{w x lo hi:Nat}(h1:lo≤hi)(h2:hi<w):(((txt w x).take (w-lo)).drop (w-1-hi)).length=hi-lo+1∧isT (((txt w x).take (w-lo)).drop (w-1-hi)) fun i=>x.testBit (lo+i):=by
 have hl:(((txt w x).take (w-lo)).drop (w-1-hi)).length=hi-lo+1:=by rw [List.length_drop,List.length_take,z2o];omega
 refine⟨hl,fun i hi'=>?_⟩;rw [hl]at hi' ⊢;have:=zdv w x (lo+i) (by rw [z2o];omega);rw [z2o]at this;rw [←this,List.getD_eq_getElem?_getD,List.getD_eq_getElem?_getD,List.getElem?_drop,List.getElem?_take,if_pos (by omega)];congr 2;omega
theorem zq5(w x lo hi:Nat)(hwb:w≤128)(h1:lo≤hi)(h2:hi<w):ACall Tryz.prog 203 [.d (vN w x),vI .i64 hi,vI .i64 lo] [] (fun r o=>r=tupOf [.d (vN (hi-lo+1) (slN x lo (hi-lo+1))),vI .i64 0]):=by
 refine yN Tryz.func203 fun C hC hCl hDs hGk=>?_;have e1:IntKind.i64.wrap (IntKind.i64.wrap ((w:Int)-1)-hi)=((w-1-hi:Nat):Int):=by
  rw [z7 (n:=(w:Int)-1) (by omega) (by omega),z7 (by omega) (by omega)];omega
 have e2:IntKind.i64.wrap ((w:Int)-lo)=((w-lo:Nat):Int):=by rw [z7 (by omega) (by omega)];omega
 obtain⟨hl,hT⟩:=zs5 (x:=x) h1 h2;have hM:=mkR_T (by omega) (by omega) hT;rw [hl]at hM;refine yB Tryz.func203 rfl trivial (fun h=>by simp at h;omega) (fun _=>?_);refine yB Tryz.func203 rfl trivial (fun h=>by simp at h;omega) (fun _=>?_);refine yB Tryz.func203 rfl trivial (fun h=>by simp at h;omega) (fun _=>?_);refine yV Tryz.func203 rfl trivial (z42 w x (by omega) (by omega)) (.refl _) ?_;refine zd9 tabOk Tryz.func203 rfl ?_ (z4e (((txt w x).take (w-lo)).drop (w-1-hi)) (by omega)) ⟨.of ?_,trivial⟩ rfl ⟨_,rfl⟩ ?_ ?_
 ·simp only [e1,e2,zp,z2o];exact⟨⟨by omega,by omega,by omega⟩,trivial⟩
 ·show vS _=vS _;rw [e1,e2,ze4];rfl
 ·rintro r o rfl;rw [hM];rfl
 rintro r o rfl;rw [hM];exact yR Tryz.func203 rfl trivial rfl
def exN(w x n:Nat)(b:Bool):Nat:=ofB (fun i=>if i<w then x.testBit i else b) (w+n)
theorem zs4(n:Nat)(b:Bool):isT (List.replicate n (digU b)) fun _=>b:=by
 intro i hi;rw [List.length_replicate]at hi ⊢;simp [List.getElem?_replicate,show n-1-i<n by omega]
theorem ztq(w x n:Nat)(s:Bool)(hw:0<w)(hwb:w≤128)(hn:w+n≤128)(hrep:ACall Tryz.prog 208 [vSL [digU (s&&x.testBit (w-1))],vI .i64 n] [] (fun r o=>r=vSL (List.replicate n (digU (s&&x.testBit (w-1)))))):ACall Tryz.prog 207 [.d (vN w x),vI .i64 n,vB s] [] (fun r o=>r=tupOf [.d (vN (w+n) (exN w x n (s&&x.testBit (w-1)))),vI .i64 0]):=by
 refine yN Tryz.func207 fun C hC hCl hDs hGk=>?_;have e1:IntKind.i64.wrap ((w:Int)-1)=((w-1:Nat):Int):=by rw [z7 (by omega) (by omega)];omega
 have e2:IntKind.i64.wrap (128-(w:Int))=((128-w:Nat):Int):=by rw [z7 (by omega) (by omega)];omega
 have hlen:(List.replicate n (digU (s&&x.testBit (w-1)))++txt w x).length=w+n:=by rw [List.length_append,List.length_replicate,z2o];omega
 have hM:=mkR_T (by omega) (by omega) (zm9 (zs4 n (s&&x.testBit (w-1))) (zdv w x));rw [hlen,z2o]at hM;refine yB Tryz.func207 rfl trivial (fun h=>by simp at h;omega) (fun _=>?_);refine yB Tryz.func207 rfl trivial (fun h=>?_) (fun _=>?_)
 ·have h:decide ((n:Int)>IntKind.i64.wrap (128-(w:Int)))=true:=h;rw [e2,decide_eq_true_eq]at h;omega
 cases s with
 | true=>
  refine yT Tryz.func207 rfl trivial ?_;refine yV Tryz.func207 rfl trivial (z4f w x ((w-1:Nat):Int) (by omega)) ⟨.refl _,.of (by show vI .i64 (IntKind.i64.wrap ((w:Int)-1))=_;rw [e1]),trivial⟩ ?_;rw [bitI'_nat (by omega)];rw [Bool.true_and]at hrep hM hlen ⊢;refine yB Tryz.func207 rfl trivial (fun h=>?_) (fun h=>?_)
  ·rw [h]at hrep hM hlen ⊢;refine yO 9 Tryz.func207 rfl trivial ?_;refine yQ Tryz.func208 rfl trivial (hrep) (.refl _) ?_;refine yQ Tryz.func204 rfl trivial (z42 w x hw (by omega)) (.refl _) ?_;refine z5t tabOk rfl ?_ (z4e (List.replicate n (digU true)++txt w x) (by omega)) (zb Tryz.func72 rfl rfl) (by rintro r o rfl;exact hM) ⟨.of (by rw [z9y]),trivial⟩ rfl rfl ⟨_,rfl⟩ ?_
   ·rw [zp,zp,z2o,List.length_replicate];exact⟨by omega,trivial⟩
   refine yq rfl trivial ?_;refine yR Tryz.func207 rfl trivial ?_;rfl
  ·rw [h]at hrep hM hlen ⊢;refine yO 9 Tryz.func207 rfl trivial ?_;refine yQ Tryz.func208 rfl trivial (hrep) (.refl _) ?_;refine yQ Tryz.func204 rfl trivial (z42 w x hw (by omega)) (.refl _) ?_;refine z5t tabOk rfl ?_ (z4e (List.replicate n (digU false)++txt w x) (by omega)) (zb Tryz.func72 rfl rfl) (by rintro r o rfl;exact hM) ⟨.of (by rw [z9y]),trivial⟩ rfl rfl ⟨_,rfl⟩ ?_
   ·rw [zp,zp,z2o,List.length_replicate];exact⟨by omega,trivial⟩
   refine yq rfl trivial ?_;refine yR Tryz.func207 rfl trivial ?_;rfl
 | false=>
  refine yF Tryz.func207 rfl trivial ?_;refine yF Tryz.func207 rfl trivial ?_;rw [Bool.false_and]at hrep hM hlen ⊢;refine yO 9 Tryz.func207 rfl trivial ?_;refine yQ Tryz.func208 rfl trivial (hrep) (.refl _) ?_;refine yQ Tryz.func204 rfl trivial (z42 w x hw (by omega)) (.refl _) ?_;refine z5t tabOk rfl ?_ (z4e (List.replicate n (digU false)++txt w x) (by omega)) (zb Tryz.func72 rfl rfl) (by rintro r o rfl;exact hM) ⟨.of (by rw [z9y]),trivial⟩ rfl rfl ⟨_,rfl⟩ ?_
  ·rw [zp,zp,z2o,List.length_replicate];exact⟨by omega,trivial⟩
  refine yq rfl trivial ?_;refine yR Tryz.func207 rfl trivial ?_;rfl
theorem ztp(c w x y:Nat)(hc:c<2^1):ACall Tryz.prog 201 [.d (vN 1 c),.d (vN w x),.d (vN w y)] [] (fun r o=>r=tupOf [.d (vN w (if c=1 then x else y)),vI .i64 0]):=by
 refine yN Tryz.func201 fun C hC hCl hDs hGk=>?_;refine yF Tryz.func201 rfl trivial ?_;refine yB Tryz.func201 rfl trivial (fun h=>?_) (fun _=>?_)
 ·have h:((w:Int) !=(w:Int))=true:=h;simp at h
 refine yV Tryz.func201 rfl trivial (z4f 1 c 0 (by omega)) (.refl _) ?_;have hb:bitI' 1 c 0=decide (c=1):=by
  have:c=0∨c=1:=by omega
  rcases this with rfl|rfl<;>decide
 rw [hb];refine yB Tryz.func201 rfl trivial (fun h=>?_) (fun h=>?_)
 ·refine yR Tryz.func201 rfl trivial ?_;rw [if_pos (by simpa using h)];rfl
 ·refine yR Tryz.func201 rfl trivial ?_;rw [if_neg (by simpa using h)];rfl
end Go.Proofs.YtbodbhpdelgpnaaGreatDoor
namespace Ab
def cnt(f:Nat→Bool):Nat→Nat
 | 0=>0
 | n+1=>cnt f n+if f n then 1 else 0
theorem z8l{f g:Nat→Bool}:∀{n:Nat},(∀i,i<n→f i=g i)→cnt f n=cnt g n
 | 0,_=>rfl
 | n+1,h=>by rw [cnt,cnt,z8l fun i hi=>h i (by omega),h n (by omega)]
theorem ze6(f:Nat→Bool)(a:Nat):∀b,cnt f (a+b)=cnt f a+cnt (fun i=>f (a+i)) b
 | 0=>rfl
 | b+1=>by rw [←Nat.add_assoc,cnt,cnt,ze6 f a b];omega
theorem zis{f:Nat→Bool}:∀{n:Nat},(∀i,i<n→f i=false)→cnt f n=0
 | 0,_=>rfl
 | n+1,h=>by rw [cnt,zis fun i hi=>h i (by omega),h n (by omega)];rfl
theorem cnt_le(f:Nat→Bool):∀n,cnt f n≤n
 | 0=>Nat.le_refl _
 | n+1=>by have:=cnt_le f n;rw [cnt];split<;>omega
theorem zfv(f:Nat→Bool):∀n,((List.range n).map f).count true=cnt f n
 | 0=>rfl
 | n+1=>by
  rw [List.range_succ,List.map_append,List.count_append,zfv f n,cnt];cases h:f n<;>simp [h]
def ma1:Nat→Nat|0=>0|n+1=>2^8*ma1 n+0x55
def ma2:Nat→Nat|0=>0|n+1=>2^8*ma2 n+0x33
def ma3:Nat→Nat|0=>0|n+1=>2^8*ma3 n+0x0f
theorem zp5(n:Nat):ma1 (n+1)=2^8*ma1 n+0x55:=rfl
def sw1(n x:Nat):Nat:=(x / 2 &&& ma1 n)+(x &&& ma1 n)
theorem zp4(n:Nat):ma2 (n+1)=2^8*ma2 n+0x33:=rfl
def sw2(n x:Nat):Nat:=(x / 4 &&& ma2 n)+(x &&& ma2 n)
theorem zp3(n:Nat):ma3 (n+1)=2^8*ma3 n+0x0f:=rfl
def sw3(n x:Nat):Nat:=(x / 16+x) &&& ma3 n
theorem z6o{h b k c:Nat}(hb:b<2^8)(hc:c<2^8):(2^8*h+b) &&& (2^8*k+c)=2^8*(h &&& k)+(b &&& c):=by
 apply Nat.eq_of_testBit_eq;intro i;rw [Nat.testBit_and,Nat.testBit_two_pow_mul_add _ hb,Nat.testBit_two_pow_mul_add _ hc,Nat.testBit_two_pow_mul_add _ (Nat.lt_of_le_of_lt Nat.and_le_left hb)];split
 ·rw [Nat.testBit_and]
 ·rw [Nat.testBit_and]
def b1(b:Nat):Nat:=(b / 2 &&& 0x55)+(b &&& 0x55)
def b2(b:Nat):Nat:=(b / 4 &&& 0x33)+(b &&& 0x33)
def b3(b:Nat):Nat:=(b / 16+b) &&& 0x0f
set_option maxRecDepth 100000 in
theorem d1:∀c,c<2→∀b,b<256→((c*128+b / 2) &&& 0x55)=(b / 2 &&& 0x55):=by decide +kernel
set_option maxRecDepth 100000 in
theorem d2:∀c,c<4→∀b,b<256→((c*64+b / 4) &&& 0x33)=(b / 4 &&& 0x33):=by decide +kernel
set_option maxRecDepth 100000 in
theorem d3:∀c,c<5→∀b,b<69→((c*16+b / 16+b) &&& 0x0f)=((b / 16+b) &&& 0x0f):=by decide +kernel
set_option maxRecDepth 100000 in
theorem d4:∀b,b<256→b1 b<256∧b2 (b1 b)<69∧b2 (b1 b)%16<5∧b3 (b2 (b1 b))=cnt b.testBit 8:=by decide +kernel
theorem zhm{n h b:Nat}(hb:b<256):sw1 (n+1) (2^8*h+b)=2^8*sw1 n h+b1 b:=by
 unfold sw1 b1;rw [zp5,show(2^8*h+b) / 2=2^8*(h / 2)+(h%2*128+b / 2)by omega,z6o (by omega) (by decide),z6o (by omega) (by decide),d1 _ (by omega) _ hb];omega
theorem zhl{n h b:Nat}(hb:b<256):sw2 (n+1) (2^8*h+b)=2^8*sw2 n h+b2 b:=by
 unfold sw2 b2;rw [zp4,show(2^8*h+b) / 4=2^8*(h / 4)+(h%4*64+b / 4)by omega,z6o (by omega) (by decide),z6o (by omega) (by decide),d2 _ (by omega) _ hb];omega
theorem zo7{n h b:Nat}(hb:b<69)(hh:h%16<5):sw3 (n+1) (2^8*h+b)=2^8*sw3 n h+b3 b:=by
 unfold sw3 b3;rw [zp3,show(2^8*h+b) / 16+(2^8*h+b)=2^8*(h / 16+h)+(h%16*16+b / 16+b)by omega,z6o (by omega) (by decide),d3 _ (by omega) _ hb]
def sw(n x:Nat):Nat:=sw3 n (sw2 n (sw1 n x))
theorem zt2{n h:Nat}(hh:h<256^n):sw2 n (sw1 n h)%16<5:=by
 cases n with
 | zero=>simp [sw2,sw1,ma1,ma2]
 | succ n=>
  have:h=2^8*(h / 256)+h%256:=by omega
  have hb:h%256<256:=Nat.mod_lt _ (by decide);obtain⟨e1,e2,e3,_⟩:=d4 _ hb;rw [this,zhm hb,zhl e1];omega
theorem zr8{n h b:Nat}(hh:h<256^n)(hb:b<256):sw (n+1) (2^8*h+b)=2^8*sw n h+cnt b.testBit 8:=by
 obtain⟨e1,e2,e3,e4⟩:=d4 _ hb;rw [sw,zhm hb,zhl e1,zo7 e2 (zt2 hh),e4,sw]
theorem zn9(x i:Nat):(x / 256).testBit i=x.testBit (8+i):=by
 rw [show(256:Nat)=2^8 from rfl,Nat.testBit_div_two_pow,Nat.add_comm]
theorem z5y{n x:Nat}(hx:x<256^(n+1)):∃p,p≤8∧sw (n+1) x=256*sw n (x / 256)+p∧cnt x.testBit (8+8*n)=p+cnt (x / 256).testBit (8*n):=by
 have hb:x%256<256:=Nat.mod_lt _ (by decide);have e:x=2^8*(x / 256)+x%256:=by omega
 refine⟨cnt (x%256).testBit 8,cnt_le _ _,?_,?_⟩
 ·conv=>lhs;rw [e]
  rw [zr8 (by rw [Nat.div_lt_iff_lt_mul (by decide)];rwa [Nat.pow_succ]at hx) hb]
 ·rw [ze6];congr 1
  ·exact z8l fun i hi=>by rw [show(256:Nat)=2^8 from rfl,Nat.testBit_mod_two_pow];simp [hi]
  ·exact z8l fun i hi=>(zn9 x i).symm
def ones64(x:Nat):Nat:=
 let a:=sw 8 x
 let b:=a+a / 256
 let c:=b+b / 65536
 let d:=c+c / 4294967296
 d%128
theorem zf8{x:Nat}(hx:x<2^64):ones64 x=cnt x.testBit 64∧sw 8 x≤8*72340172838076673:=by
 obtain⟨p0,l0,s0,c0⟩:=z5y (n:=7) (x:=x) (by simpa using hx);obtain⟨p1,l1,s1,c1⟩:=z5y (n:=6) (x:=x / 256) (by omega);obtain⟨p2,l2,s2,c2⟩:=z5y (n:=5) (x:=x / 256 / 256) (by omega);obtain⟨p3,l3,s3,c3⟩:=z5y (n:=4) (x:=x / 256 / 256 / 256) (by omega);obtain⟨p4,l4,s4,c4⟩:=z5y (n:=3) (x:=x / 256 / 256 / 256 / 256) (by omega);obtain⟨p5,l5,s5,c5⟩:=z5y (n:=2) (x:=x / 256 / 256 / 256 / 256 / 256) (by omega);obtain⟨p6,l6,s6,c6⟩:=z5y (n:=1) (x:=x / 256 / 256 / 256 / 256 / 256 / 256) (by omega);obtain⟨p7,l7,s7,c7⟩:=z5y (n:=0) (x:=x / 256 / 256 / 256 / 256 / 256 / 256 / 256) (by omega);have z:sw 0 (x / 256 / 256 / 256 / 256 / 256 / 256 / 256 / 256)=0:=by simp [sw,sw3,ma3]
 have zc:cnt (x / 256 / 256 / 256 / 256 / 256 / 256 / 256 / 256).testBit (8*0)=0:=rfl;simp only [Nat.reduceAdd,Nat.reduceMul]at *;rw [z]at s7;rw [show cnt (x / 256 / 256 / 256 / 256 / 256 / 256 / 256 / 256).testBit 0=0 from rfl]at c7;have hs:sw 8 x=p0+256*(p1+256*(p2+256*(p3+256*(p4+256*(p5+256*(p6+256*p7)))))):=by omega
 have hc:cnt x.testBit 64=p0+p1+p2+p3+p4+p5+p6+p7:=by omega
 refine⟨?_,by omega⟩;rw [hc,ones64,hs];clear s0 s1 s2 s3 s4 s5 s6 s7 c0 c1 c2 c3 c4 c5 c6 c7 z zc hs hc hx;have e1:(p0+256*(p1+256*(p2+256*(p3+256*(p4+256*(p5+256*(p6+256*(p7)))))))) / 256=p1+256*(p2+256*(p3+256*(p4+256*(p5+256*(p6+256*(p7)))))):=by omega
 rw [e1];obtain⟨q0,h0⟩:∃q,q=p0+p1:=⟨_,rfl⟩
 obtain⟨q1,h1⟩:∃q,q=p1+p2:=⟨_,rfl⟩
 obtain⟨q2,h2⟩:∃q,q=p2+p3:=⟨_,rfl⟩
 obtain⟨q3,h3⟩:∃q,q=p3+p4:=⟨_,rfl⟩
 obtain⟨q4,h4⟩:∃q,q=p4+p5:=⟨_,rfl⟩
 obtain⟨q5,h5⟩:∃q,q=p5+p6:=⟨_,rfl⟩
 obtain⟨q6,h6⟩:∃q,q=p6+p7:=⟨_,rfl⟩
 have e2:(p0+256*(p1+256*(p2+256*(p3+256*(p4+256*(p5+256*(p6+256*(p7))))))))+(p1+256*(p2+256*(p3+256*(p4+256*(p5+256*(p6+256*(p7)))))))=q0+256*(q1+256*(q2+256*(q3+256*(q4+256*(q5+256*(q6+256*(p7))))))):=by omega
 have e3:p0+p1+p2+p3+p4+p5+p6+p7=q0+q2+q4+q6:=by omega
 rw [e2,e3];have m0:q0≤16:=by omega
 have m1:q1≤16:=by omega
 have m2:q2≤16:=by omega
 have m3:q3≤16:=by omega
 have m4:q4≤16:=by omega
 have m5:q5≤16:=by omega
 have m6:q6≤16:=by omega
 clear e1 e2 e3 h0 h1 h2 h3 h4 h5 h6 l0 l1 l2 l3 l4 l5 l6;have e4:(q0+256*(q1+256*(q2+256*(q3+256*(q4+256*(q5+256*(q6+256*(p7)))))))) / 65536=q2+256*(q3+256*(q4+256*(q5+256*(q6+256*(p7))))):=by omega
 rw [e4];have e5:(q0+256*(q1+256*(q2+256*(q3+256*(q4+256*(q5+256*(q6+256*(p7))))))))+(q2+256*(q3+256*(q4+256*(q5+256*(q6+256*(p7))))))=(q0+q2)+256*((q1+q3)+256*((q2+q4)+256*((q3+q5)+256*((q4+q6)+256*((q5+p7)+256*(q6+256*p7)))))):=by omega
 rw [e5];have e6:((q0+q2)+256*((q1+q3)+256*((q2+q4)+256*((q3+q5)+256*((q4+q6)+256*((q5+p7)+256*(q6+256*p7))))))) / 4294967296=(q4+q6)+256*((q5+p7)+256*(q6+256*p7)):=by omega
 rw [e6];omega
end Ab
namespace Go.Proofs.YtbodbhpdelgpnaaGreatDoor
open Go Ab
theorem zcv{a b m n:Nat}:(a &&& m)+(b &&& n)≤m+n:=Nat.add_le_add Nat.and_le_right Nat.and_le_right
theorem addU{a b:Nat}(h:a+b<18446744073709551616):IntKind.u64.wrap ((a:Int)+(b:Int))=((a+b:Nat):Int):=by
 rw [←Int.natCast_add,z4h h]
theorem zso{d:Nat}(h:d<9223372036854775808):IntKind.i64.wrap ((bitI .i64 (IntKind.i64.wrap (d:Int)) &&& bitI .i64 127).toNat:Nat)=((d%128:Nat):Int):=by
 have w1:IntKind.i64.wrap (d:Int)=(d:Int):=z7 (by omega) (by omega);rw [w1];have e:(bitI .i64 (d:Int) &&& bitI .i64 127).toNat=d%128:=by
  have h1:(bitI .i64 (d:Int)).toNat=d:=by simp [bitI,IntKind.bits];omega
  have h2:(bitI .i64 (127:Int)).toNat=127:=by decide
  rw [BitVec.toNat_and,h1,h2];exact Nat.and_two_pow_sub_one_eq_mod d 7
 rw [e,z7 (by omega) (by omega)]
theorem zbu(x:Nat)(hx:x<18446744073709551616):ACall Tryz.prog 231 [vU x] [] (fun r o=>r=vI .i64 ((ones64 x:Nat):Int)):=by
 refine yN Tryz.func231 fun C hC hCl hDs hGk=>?_;refine yR Tryz.func231 rfl (by decide) ?_;have hs:=(zf8 hx).2;have m1:ma1 8=6148914691236517205:=by decide
 have m2:ma2 8=3689348814741910323:=by decide
 have m3:ma3 8=1085102592571150095:=by decide
 have l1:sw1 8 x≤12297829382473034410:=by rw [sw1,m1];exact zcv
 have e1:IntKind.u64.wrap (IntKind.u64.wrap ((bitI .u64 ((x:Int).fdiv (2^min (Int.toNat 1) IntKind.u64.bits)) &&& bitI .u64 6148914691236517205).toNat:Nat)+IntKind.u64.wrap ((bitI .u64 (x:Int) &&& bitI .u64 6148914691236517205).toNat:Nat))=((sw1 8 x:Nat):Int):=by
  have q1:(x:Int).fdiv (2^min (Int.toNat 1) IntKind.u64.bits)=((x / 2^1:Nat):Int):=shrU (b:=1) (by decide);have q2:IntKind.u64.wrap ((bitI .u64 ((x / 2^1:Nat):Int) &&& bitI .u64 6148914691236517205).toNat:Nat)=((x / 2^1 &&& 6148914691236517205:Nat):Int):=andU (by omega) (by decide);have q3:IntKind.u64.wrap ((bitI .u64 (x:Int) &&& bitI .u64 6148914691236517205).toNat:Nat)=((x &&& 6148914691236517205:Nat):Int):=andU hx (by decide);rw [sw1,m1]at l1;rw [q1,q2,q3,addU (by rw [Nat.pow_one];omega),sw1,m1,Nat.pow_one]
 rw [e1];have hsw:sw 8 x=sw3 8 (sw2 8 (sw1 8 x)):=rfl;generalize ha:sw1 8 x=a at l1 hsw;have l2:sw2 8 a≤7378697629483820646:=by rw [sw2,m2];exact zcv
 have e2:IntKind.u64.wrap (IntKind.u64.wrap ((bitI .u64 ((a:Int).fdiv (2^min (Int.toNat 2) IntKind.u64.bits)) &&& bitI .u64 3689348814741910323).toNat:Nat)+IntKind.u64.wrap ((bitI .u64 (a:Int) &&& bitI .u64 3689348814741910323).toNat:Nat))=((sw2 8 a:Nat):Int):=by
  have q1:(a:Int).fdiv (2^min (Int.toNat 2) IntKind.u64.bits)=((a / 2^2:Nat):Int):=shrU (b:=2) (by decide);have q2:IntKind.u64.wrap ((bitI .u64 ((a / 2^2:Nat):Int) &&& bitI .u64 3689348814741910323).toNat:Nat)=((a / 2^2 &&& 3689348814741910323:Nat):Int):=andU (by omega) (by decide);have q3:IntKind.u64.wrap ((bitI .u64 (a:Int) &&& bitI .u64 3689348814741910323).toNat:Nat)=((a &&& 3689348814741910323:Nat):Int):=andU (by omega) (by decide);rw [sw2,m2]at l2;rw [q1,q2,q3,addU (by show(a / 4 &&& 3689348814741910323)+(a &&& 3689348814741910323)<18446744073709551616;omega),sw2,m2]
 rw [e2];generalize hb:sw2 8 a=b at l2 hsw;have e3:IntKind.u64.wrap ((bitI .u64 (IntKind.u64.wrap ((b:Int).fdiv (2^min (Int.toNat 4) IntKind.u64.bits)+(b:Int))) &&& bitI .u64 1085102592571150095).toNat:Nat)=((sw3 8 b:Nat):Int):=by
  have q1:(b:Int).fdiv (2^min (Int.toNat 4) IntKind.u64.bits)=((b / 2^4:Nat):Int):=shrU (b:=4) (by decide);have q2:IntKind.u64.wrap ((bitI .u64 ((b / 2^4+b:Nat):Int) &&& bitI .u64 1085102592571150095).toNat:Nat)=((b / 2^4+b &&& 1085102592571150095:Nat):Int):=andU (by omega) (by decide);rw [q1,addU (by omega),q2,sw3,m3]
 rw [e3];rw [hsw]at hs;have hones:ones64 x=(let a:=sw3 8 b;let b:=a+a / 256;let c:=b+b / 65536;let d:=c+c / 4294967296;d%128):=by rw [←hsw];rfl
 rw [hones];generalize hc:sw3 8 b=c at hs;have e4:IntKind.u64.wrap ((c:Int)+(c:Int).fdiv (2^min (Int.toNat 8) IntKind.u64.bits))=((c+c / 2^8:Nat):Int):=by
  have q1:(c:Int).fdiv (2^min (Int.toNat 8) IntKind.u64.bits)=((c / 2^8:Nat):Int):=shrU (b:=8) (by decide);rw [q1,addU (by omega)]
 rw [e4];generalize hd:c+c / 2^8=d;have hd':d≤600000000000000000:=by omega
 have e5:IntKind.u64.wrap ((d:Int)+(d:Int).fdiv (2^min (Int.toNat 16) IntKind.u64.bits))=((d+d / 2^16:Nat):Int):=by
  have q1:(d:Int).fdiv (2^min (Int.toNat 16) IntKind.u64.bits)=((d / 2^16:Nat):Int):=shrU (b:=16) (by decide);rw [q1,addU (by omega)]
 rw [e5];generalize he:d+d / 2^16=e;have he':e≤700000000000000000:=by omega
 have e6:IntKind.u64.wrap ((e:Int)+(e:Int).fdiv (2^min (Int.toNat 32) IntKind.u64.bits))=((e+e / 2^32:Nat):Int):=by
  have q1:(e:Int).fdiv (2^min (Int.toNat 32) IntKind.u64.bits)=((e / 2^32:Nat):Int):=shrU (b:=32) (by decide);rw [q1,addU (by omega)]
 rw [e6];have e7:IntKind.i64.wrap ((bitI .i64 (IntKind.i64.wrap ((e+e / 2^32:Nat):Int)) &&& bitI .i64 127).toNat:Nat)=(((e+e / 2^32)%128:Nat):Int):=zso (by omega);rw [e7,←he,←hd];rfl
theorem zti(x i:Nat):cnt x.testBit (64*(i+1))=cnt x.testBit (64*i)+cnt (lw x i).testBit 64:=by
 rw [show 64*(i+1)=64*i+64 by omega,ze6];congr 1;exact z8l fun k hk=>by rw [lw_tb];simp [hk]
theorem cnt_w{w x:Nat}(hx:x<2^w):cnt x.testBit (64*z6 w)=cnt x.testBit w:=by
 obtain⟨k,hk⟩:∃k,64*z6 w=w+k:=⟨64*z6 w-w,by have:=w_le w;omega⟩
 rw [hk,ze6,zis (n:=k) fun i _=>tb_ge hx (Nat.le_add_right w i),Nat.add_zero]
theorem zaq(w x:Nat)(hx:x<2^w)(hwb:w≤1000000):ACall Tryz.prog 224 [.d (vN w x)] [] (fun r o=>r=vI .i64 ((cnt x.testBit w:Nat):Int)):=by
 refine yN Tryz.func224 fun C hC hCl hDs hGk=>?_;have hln:z6 w≤1000000:=by unfold z6;omega
 refine yS Tryz.func224 rfl trivial ?_;refine z8 (α:=Nat) (fun i=>[(3,vI .i64 (cnt x.testBit (64*i):Nat)),(7,.d (eUs (lmb (z6 w) x))),(8,vI .i64 (z6 w)),(9,vI .i64 i)]) (fun i=>[some (bN w x)]) (fun i=>i≤z6 w) (fun i=>z6 w-i) 0 (Nat.zero_le _) ?_ ?_
 ·refine fun h=>yE h ⟨erl rfl,erl rfl,⟨_,rfl,.of ?_⟩,erl rfl,trivial⟩ (oAl rfl);show vI .i64 ((List.map eU (lmb (z6 w) x)).length:Int)=_;rw [List.length_map,zr]
 rintro i hi ih;refine yB Tryz.func224 rfl trivial (fun hb2=>?_) (fun hb2=>?_)<;>simp only [decide_eq_true_eq,decide_eq_false_iff_not]at hb2
 ·have hlt:i<z6 w:=by omega
  have hg:(lmb (z6 w) x).getD i 0=lw x i:=z3a hlt;have h64:lw x i<18446744073709551616:=lw_lt x i;refine yV Tryz.func224 rfl (by simp [andP,zr]<;>omega) (zbu ((lmb (z6 w) x).getD i 0) (by rw [hg];exact h64)) (.refl _) ?_;refine yS Tryz.func224 rfl trivial ?_;rw [hg,(zf8 h64).1];have hc:=cnt_le x.testBit (64*i);have hc2:=cnt_le (lw x i).testBit 64;refine yE (ih (i+1) (by omega) (by omega)) ⟨⟨_,rfl,.of ?_⟩,erl rfl,erl rfl,erw rfl,trivial⟩ (oAl rfl);show vI .i64 (IntKind.i64.wrap (((cnt x.testBit (64*i):Nat):Int)+((cnt (lw x i).testBit 64:Nat):Int)))=_;rw [z7 (by omega) (by omega),zti];rfl
 ·obtain rfl:i=z6 w:=by omega
  refine yR Tryz.func224 rfl trivial ?_;rw [cnt_w hx];rfl
end Go.Proofs.YtbodbhpdelgpnaaGreatDoor
