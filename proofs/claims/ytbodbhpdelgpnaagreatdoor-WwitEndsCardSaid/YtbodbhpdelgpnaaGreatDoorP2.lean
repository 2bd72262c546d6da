/- A part of the proof. -/
import Derived.Test.YtbodbhpdelgpnaaGreatDoorP1
import Derived.Deep.Quiet
import Derived.Defers
set_option linter.unusedVariables false
set_option linter.unusedSimpArgs false
set_option linter.unusedSectionVars false
set_option maxRecDepth 100000
set_option maxHeartbeats 8000000
namespace Ab
open Go
def frK(kd:CallKind)(f:FuncId):Frame:={ (default:Frame)with fn:=f,kind:=kd }
def Sat(P:Program)(f:FuncId)(D:List Deferred)(todo:List Item)(tmps:Array Value)(w:World)(R:Ending→World→Prop):Prop:=
 ∀kd cs,∃e w' fr,R e w'∧Comes P (lone ((frK kd f).at ⟨tmps,D⟩ todo) cs w) (lone fr cs w') e∧fr.fn=f∧fr.kind=kd∧fr.going P w' e
section
variable {P:Program}{f:FuncId}{D:List Deferred}{todo todo' k:List Item}{tmps tmps':Array Value}{w w':World}{R:Ending→World→Prop}
theorem Sat.step(h:∀kd cs,step P (lone ((frK kd f).at ⟨tmps,D⟩ todo) cs w)=.next (lone ((frK kd f).at ⟨tmps',D⟩ todo') cs w'))(k:Sat P f D todo' tmps' w' R):Sat P f D todo tmps w R:=by
 intro kd cs;obtain⟨e,w2,fr,hR,hc,hf,hk,hl⟩:=k kd cs;exact⟨e,w2,fr,hR,Comes.of_steps (.one (h kd cs)) hc,hf,hk,hl⟩
theorem Sat.skip(h:Sat P f D k tmps w R):Sat P f D (.code .skip::k) tmps w R:=.step (fun _ _=>step_skip) h
theorem Sat.label{l:Nat}(h:Sat P f D k tmps w R):Sat P f D (.code (.label l)::k) tmps w R:=.step (fun _ _=>step_label) h
theorem Sat.inBlock{id:Nat}(h:Sat P f D k tmps w R):Sat P f D (.inBlock id::k) tmps w R:=.step (fun _ _=>step_inBlock) h
theorem Sat.inScope{c:Code}(h:Sat P f D k tmps w R):Sat P f D (.inScope c::k) tmps w R:=.step (fun _ _=>step_inScope) h
theorem Sat.seq{x y:Code}(h:Sat P f D (.code x::.code y::k) tmps w R):Sat P f D (.code (.seq x y)::k) tmps w R:=.step (fun _ _=>step_seq) h
theorem Sat.block{id:Nat}{c:Code}(h:Sat P f D (.code c::.inBlock id::k) tmps w R):Sat P f D (.code (.block id c)::k) tmps w R:=.step (fun _ _=>step_block) h
theorem Sat.scope{c:Code}(h:Sat P f D (.code c::.inScope c::k) tmps w R):Sat P f D (.code (.scope c)::k) tmps w R:=.step (fun _ _=>step_scope) h
theorem Sat.loop{c:Code}(h:Sat P f D (.code c::.inLoop c::k) tmps w R):Sat P f D (.code (.loop c)::k) tmps w R:=.step (fun _ _=>step_loop) h
theorem Sat.inLoop{c:Code}(h:Sat P f D (.code c::.inLoop c::k) tmps w R):Sat P f D (.inLoop c::k) tmps w R:=.step (fun _ _=>step_inLoop) h
theorem Sat.exit{id:Nat}{k':List Item}(hk:exitTo id k=some k')(h:Sat P f D k' tmps w R):Sat P f D (.code (.exit id)::k) tmps w R:=.step (fun _ _=>step_exit hk) h
theorem Sat.goto{l:Nat}{k':List Item}(hk:gotoIn l k=some k')(h:Sat P f D k' tmps w R):Sat P f D (.code (.goto l)::k) tmps w R:=.step (fun _ _=>step_goto hk) h
theorem Sat.cond{c:Operand}{x y:Code}{t:Bool}(hc:(Act.eval ⟨tmps,[]⟩ c)=.bool t)(h:Sat P f D (.code (if t then x else y)::k) tmps w R):Sat P f D (.code (.cond c x y)::k) tmps w R:=.step (fun _ _=>step_cond (a:=⟨tmps,D⟩) hc) h
theorem Sat.region{id:Nat}{ops:Array Oper}(h:Sat P f D (.inRegion ops (List.range ops.size)::k) tmps w R):Sat P f D (.code (.region id ops false)::k) tmps w R:=.step (fun _ _=>step_region) h
theorem Sat.regionEnd{ops:Array Oper}(h:Sat P f D k tmps w R):Sat P f D (.inRegion ops []::k) tmps w R:=.step (fun _ _=>step_region_end) h
def putT(dst:Option Tmp)(v:Value)(tmps:Array Value):Array Value:=
 match dst with
 | some d=>tmps.setIfInBounds d v
 | none=>tmps
theorem zcb(dst:Option Tmp)(v:Value)(tmps:Array Value)(ds:List Deferred):Act.put ⟨tmps,ds⟩ dst v=⟨putT dst v tmps,ds⟩:=by cases dst<;>rfl
theorem Sat.opSkip{ops:Array Oper}{i:Nat}{rest:List Nat}{o:Oper}(ho:ops[i]?=some o)(hw:Region.wanted o (yielded ops tmps)=false)
  (h:Sat P f D (.inRegion ops rest::k) (putT o.dst undef tmps) w R):Sat P f D (.inRegion ops (i::rest)::k) tmps w R:=by
 refine .step (fun kd cs=>?_) h;have hs:=step_op_skip (P:=P) (b:=frK kd f) (a:=⟨tmps,D⟩) (k:=k) (cs:=cs) (w:=w) (ops:=ops) (i:=i) (rest:=rest) (by simp [ho,hw]);simpa [ho,zcb]using hs
theorem Sat.opVal{ops:Array Oper}{i:Nat}{rest:List Nat}{o:Oper}{v:Value}(ho:ops[i]?=some o)(hw:Region.wanted o (yielded ops tmps)=true)
  (hr:(execOp (Act.eval ⟨tmps,[]⟩) o).run P w=.ok (.value v) w') (h:Sat P f D (.inRegion ops rest::k) (putT o.dst v tmps) w' R):Sat P f D (.inRegion ops (i::rest)::k) tmps w R:=by
 have hr:(execOp (Act.eval ⟨tmps,D⟩) o).run P w=_:=hr;refine .step (fun kd cs=>?_) h;have hg:=stepG_op (P:=P) (b:=frK kd f) (a:=⟨tmps,D⟩) (k:=k) (cs:=cs) (w:=w) (rest:=rest) ho hw;have hfin:=Frame.finish_at (frK kd f) ⟨tmps,D⟩ ops i rest k v;rw [ho]at hfin;simp only [Option.bind_some,zcb]at hfin;exact step_lone_go (by rw [hg,←hfin];simp [stepG.apply,hr])
theorem Sat.opUnit{ops:Array Oper}{i:Nat}{rest:List Nat}{o:Oper}(ho:ops[i]?=some o)(hw:Region.wanted o (yielded ops tmps)=true)
  (hr:(execOp (Act.eval ⟨tmps,[]⟩) o).run P w=.ok .skip w') (h:Sat P f D (.inRegion ops rest::k) (putT o.dst undef tmps) w' R):Sat P f D (.inRegion ops (i::rest)::k) tmps w R:=by
 have hr:(execOp (Act.eval ⟨tmps,D⟩) o).run P w=_:=hr;refine .step (fun kd cs=>?_) h;have hg:=stepG_op (P:=P) (b:=frK kd f) (a:=⟨tmps,D⟩) (k:=k) (cs:=cs) (w:=w) (rest:=rest) ho hw;have hfin:=Frame.finish_at (frK kd f) ⟨tmps,D⟩ ops i rest k undef;rw [ho]at hfin;simp only [Option.bind_some,zcb]at hfin;exact step_lone_go (by rw [hg,←hfin];simp [stepG.apply,hr])
theorem Sat.opCall{ops:Array Oper}{i:Nat}{rest:List Nat}{o:Oper}{g:FuncId}{args:Array Value}(ho:ops[i]?=some o)(hw:Region.wanted o (yielded ops tmps)=true)
  (hr:(execOp (Act.eval ⟨tmps,[]⟩) o).run P w=.ok (.enter g args) w') (h:Calls P g args w' fun e w2=>∃v,e=.returned v∧Sat P f D (.inRegion ops rest::k) (putT o.dst v tmps) w2 R) :
  Sat P f D (.inRegion ops (i::rest)::k) tmps w R:=by
 have hr:(execOp (Act.eval ⟨tmps,D⟩) o).run P w=_:=hr;intro kd cs;have hg:=stepG_op (P:=P) (b:=frK kd f) (a:=⟨tmps,D⟩) (k:=k) (cs:=cs) (w:=w) (rest:=rest) ho hw;obtain⟨e,w2,fr,⟨v,rfl,hR⟩,hsteps,_,hleave⟩:=h ((frK kd f).at ⟨tmps,D⟩ (.inRegion ops (i::rest)::k)::cs);have henter:Go.step P (lone ((frK kd f).at ⟨tmps,D⟩ (.inRegion ops (i::rest)::k)) cs w) =
   .next (lone (Frame.enter P g args .normal) ((frK kd f).at ⟨tmps,D⟩ (.inRegion ops (i::rest)::k)::cs) w'):=
  step_lone_go (by rw [hg];simp [stepG.apply,hr,Frame.at])
 have hfin:=Frame.finish_at (frK kd f) ⟨tmps,D⟩ ops i rest k v;rw [ho]at hfin;simp only [Option.bind_some,zcb]at hfin;obtain⟨e,w3,fr2,hR,hc,hf,hk,hl⟩:=hR kd cs;refine⟨e,w3,fr2,hR,Comes.of_steps (.head henter (Steps.trans hsteps (.one ?_))) hc,hf,hk,hl⟩;rw [←hfin];exact step_leave_returned hleave
theorem Sat.opDefer{ops:Array Oper}{i:Nat}{rest:List Nat}{o:Oper}{d:Deferred}(ho:ops[i]?=some o)(hw:Region.wanted o (yielded ops tmps)=true)
  (hr:(execOp (Act.eval ⟨tmps,[]⟩) o).run P w=.ok (.defer d) w') (h:Sat P f (d::D) (.inRegion ops rest::k) (putT o.dst undef tmps) w' R):Sat P f D (.inRegion ops (i::rest)::k) tmps w R:=by
 have hr:(execOp (Act.eval ⟨tmps,D⟩) o).run P w=_:=hr;intro kd cs;obtain⟨e,w2,fr,hR,hc,hf,hk,hl⟩:=h kd cs;refine⟨e,w2,fr,hR,Comes.of_steps (.one ?_) hc,hf,hk,hl⟩;have hg:=stepG_op (P:=P) (b:=frK kd f) (a:=⟨tmps,D⟩) (k:=k) (cs:=cs) (w:=w) (rest:=rest) ho hw;have hfin:=Frame.finish_at (frK kd f) ⟨tmps,d::D⟩ ops i rest k undef;rw [ho]at hfin;simp only [Option.bind_some,zcb]at hfin;refine step_lone_go ?_;rw [hg,←hfin];simp only [stepG.apply,Sem.runT_eq,hr,GStep.bare_after];rfl
theorem z8v{fn:Func}{tmps:Array Value}{R:Ending→World→Prop}:∀(ds:List Deferred) (u:FrameMode) (w:World) (fr:Frame)
  (cs:List Frame),fr.mode=u→fr.defers=ds→fr.tmps=tmps→P.funcs[fr.fn]?=some fn→Leaves P fn tmps R ds u w →
  ∃e w' fr',R e w'∧Comes P (lone fr cs w) (lone fr' cs w') e∧fr'.fn=fr.fn∧fr'.kind=fr.kind∧fr'.going P w' e:=by
 intro ds;induction ds with
 | nil=>
  intro u w fr cs hu hd ht hf h;cases u with
  | run=>exact h.elim
  | returning=>
   obtain⟨v,hr,hR⟩:=h;exact⟨.returned v,w,fr,hR,Steps.refl P _,rfl,rfl,hu,hd,fn,hf,ht▸hr⟩
  | panicking chain=>exact⟨.panicked chain,w,fr,h,Steps.refl P _,rfl,rfl,hu,hd,fn,hf⟩
 | cons d ds ih=>
  intro u w fr cs hu hd ht hf h;obtain⟨hrun,fv,cap,f,args,htar,hinv,hcall⟩:=h;have h1:=step_defer (cs:=cs) (hu▸hrun) hd htar hinv;obtain⟨e,u',w',frX,hR,hsteps,hkX,hgo⟩:=hcall { fr with defers:=ds } cs hu;cases e with
  | returned v=>
   have h2:=step_going_returned (c:={ { fr with defers:=ds }with mode:=u' }) (cs:=cs) hkX hgo;obtain⟨e',w'',fr',hR',hs',hfn',hk',hl'⟩:=ih (settle u') w' { { { fr with defers:=ds }with mode:=u' }with mode:=settle u' } cs rfl rfl ht hf hR;exact⟨e',w'',fr',hR',Comes.of_steps (.head h1 (Steps.trans hsteps (.one h2))) hs',hfn',hk',hl'⟩
  | panicked chain=>
   have h2:=step_going_panicked (c:={ { fr with defers:=ds }with mode:=u' }) (cs:=cs) hgo;obtain⟨e',w'',fr',hR',hs',hfn',hk',hl'⟩:=ih (raised u' chain) w' { { { fr with defers:=ds }with mode:=u' }with mode:=raised u' chain } cs rfl rfl ht hf hR;exact⟨e',w'',fr',hR',Comes.of_steps (.head h1 (Steps.trans hsteps (.one h2))) hs',hfn',hk',hl'⟩
  | outgrown=>exact⟨.outgrown,w',fr,hR,Outgrown.of_steps (.one h1) hsteps,rfl,rfl,trivial⟩
theorem Sat.retD{fn:Func}(hfn:P.funcs[f]?=some fn)(h:Leaves P fn tmps R D .returning w):Sat P f D (.code .ret::k) tmps w R:=by
 intro kd cs;obtain⟨e,w2,fr,hR,hc,hf,hk,hl⟩:=z8v (P:=P) D .returning w { (frK kd f).at ⟨tmps,D⟩ (.code .ret::k)with mode:=.returning } cs rfl rfl rfl hfn h;exact⟨e,w2,fr,hR,Comes.of_steps (.one step_ret) hc,hf,hk,hl⟩
theorem Sat.endD{fn:Func}(hfn:P.funcs[f]?=some fn)(h:Leaves P fn tmps R D .returning w):Sat P f D [] tmps w R:=by
 intro kd cs;obtain⟨e,w2,fr,hR,hc,hf,hk,hl⟩:=z8v (P:=P) D .returning w { (frK kd f).at ⟨tmps,D⟩ []with mode:=.returning } cs rfl rfl rfl hfn h;exact⟨e,w2,fr,hR,Comes.of_steps (.one step_end) hc,hf,hk,hl⟩
theorem z9k{fr:Frame}{w:World}{e:Ending}(hk:fr.kind=.normal)(h:fr.going P w e):fr.leaving P w e:=by
 cases e with
 | returned v=>exact⟨h.1,h.2.1,hk,h.2.2⟩
 | panicked ch=>exact h
 | outgrown=>trivial
theorem zfw{fn:Func}{c:Code}{args:Array Value}(hf:P.funcs[f]?=some fn)(hb:fn.body=some c)
  (h:Sat P f [] [.code c] (args++Array.replicate (fn.ntmps-args.size) undef) w R):Calls P f args w R:=by
 intro cs;have henter:Frame.enter P f args .normal=(frK .normal f).at ⟨args++Array.replicate (fn.ntmps-args.size) undef,[]⟩ [.code c]:=by
  simp [Frame.enter,Frame.at,hf,hb,frK]
 rw [henter];obtain⟨e,w',fr,h1,h2,h3,h4,h5⟩:=h .normal cs;exact⟨e,w',fr,h1,h2,h3,z9k h4 h5⟩
theorem z60{id:Nat}{ops:Array Oper}{kd:CallKind}{cs:List Frame}:step P (lone ((frK kd f).at ⟨tmps,D⟩ (.code (.region id ops true)::k)) cs w) =
   .next (lone ((frK kd f).at ⟨tmps,D⟩ (.inRegion ops (Region.schedule (P.follows .mixedOrders) ops (w.tape w.drawn (.order f id)))::k)) cs { w with drawn:=w.drawn+1 }):=step_region_draw
theorem Sat.opCallP{fn:Func}{ops:Array Oper}{i:Nat}{rest:List Nat}{o:Oper}{g:FuncId}{args:Array Value}(hfn:P.funcs[f]?=some fn)(ho:ops[i]?=some o)(hw:Region.wanted o (yielded ops tmps)=true)
  (hr:(execOp (Act.eval ⟨tmps,[]⟩) o).run P w=.ok (.enter g args) w')
  (h:Calls P g args w' fun e w2=>(∃v,e=.returned v∧Sat P f D (.inRegion ops rest::k) (putT o.dst v tmps) w2 R)∨∃chain,e=.panicked chain∧Leaves P fn tmps R D (.panicking chain) w2) :
  Sat P f D (.inRegion ops (i::rest)::k) tmps w R:=by
 have hr:(execOp (Act.eval ⟨tmps,D⟩) o).run P w=_:=hr;intro kd cs;have hg:=stepG_op (P:=P) (b:=frK kd f) (a:=⟨tmps,D⟩) (k:=k) (cs:=cs) (w:=w) (rest:=rest) ho hw;have henter:Go.step P (lone ((frK kd f).at ⟨tmps,D⟩ (.inRegion ops (i::rest)::k)) cs w) =
   .next (lone (Frame.enter P g args .normal) ((frK kd f).at ⟨tmps,D⟩ (.inRegion ops (i::rest)::k)::cs) w'):=
  step_lone_go (by rw [hg];simp [stepG.apply,hr,Frame.at])
 obtain⟨e,w2,fr,hq,hsteps,_,hleave⟩:=h ((frK kd f).at ⟨tmps,D⟩ (.inRegion ops (i::rest)::k)::cs);rcases hq with⟨v,rfl,hR⟩|⟨chain,rfl,hL⟩
 ·have hfin:=Frame.finish_at (frK kd f) ⟨tmps,D⟩ ops i rest k v;rw [ho]at hfin;simp only [Option.bind_some,zcb]at hfin;obtain⟨e,w3,fr2,hR,hc,hf,hk,hl⟩:=hR kd cs;refine⟨e,w3,fr2,hR,Comes.of_steps (.head henter (Steps.trans hsteps (.one ?_))) hc,hf,hk,hl⟩;rw [←hfin];exact step_leave_returned hleave
 ·obtain⟨e,w3,fr2,hR,hc,hf,hk,hl⟩:=z8v (P:=P) D (.panicking chain) w2 { (frK kd f).at ⟨tmps,D⟩ (.inRegion ops (i::rest)::k)with mode:=.panicking chain } cs rfl rfl rfl hfn hL;refine⟨e,w3,fr2,hR,Comes.of_steps (.head henter (Steps.trans hsteps (.one ?_))) hc,hf,hk,hl⟩;rw [←Frame.raise_at];exact step_leave_panicked hleave
end
end Ab
namespace Ab
open Go
structure Fld where
 off:Nat
 size:Nat
 agg:Bool
inductive TK where
 |bool|int (k:IntKind)|str|ptr|slice (e:TypeId)|array (n:Nat) (e:TypeId)|map (k e:TypeId)|struct (fs:List Fld)|iface (empty:Bool)|func|tuple|other
structure TRow where
 kd:TK
 size:Nat
 bytes:Nat
 zero:List Value
abbrev Tab:=List (Nat×TRow)
def tlook:Tab→Nat→Option TRow
 | [],_=>none
 | (k,a)::r,t=>match Nat.beq k t with|true=>some a|false=>tlook r t
def TRow.isAgg(r:TRow):Bool:=match r.kd with | .struct _ | .array _ _=>true|_=>false
def Pagg(P:Program)(t:TypeId):Bool:=match P.underlying t with|some (.struct _)|some (.array _ _)=>true|_=>false
def z5b(P:Program):List Fld→List Field→Bool
 | [],[]=>true
 | f::fs,g::gs=>f.off==g.offset&&(match P.info? g.type with|some i=>i.size==f.size|none=>false)&&(P.underlying g.type).isSome&&(Pagg P g.type==f.agg)&&z5b P fs gs
 | _,_=>false
def kdOk(P:Program):TK→TypeDesc→Bool
 | .bool,.bool=>true
 | .int k,.int k'=>k==k'
 | .str,.string=>true
 | .ptr,.pointer _=>true
 | .slice e,.slice e'=>e==e'
 | .array n e,.array n' e'=>n==n'&&e==e'
 | .map k e,.map k' e'=>k==k'&&e==e'
 | .struct fs,.struct gs=>z5b P fs gs.toList
 | .iface b,.interface ms=>b==ms.isEmpty
 | .func,.func _ _ _=>true
 | .tuple,.tuple _=>true
 | .other,.float _=>true
 | .other,.complex _=>true
 | .other,.unsafePointer=>true
 | .other,.chan _ _=>true
 | _,_=>false
def veq:Value→Value→Bool
 | .bool a,.bool b=>a==b
 | .int j a,.int k b=>j==k&&a==b
 | .string a,.string b=>a.data.toList==b.data.toList
 | .pointer none,.pointer none=>true
 | .slice none 0 0,.slice none 0 0=>true
 | .map none,.map none=>true
 | .nilFunc,.nilFunc=>true
 | .nilIface,.nilIface=>true
 | _,_=>false
theorem zsz{a b:Value}(h:veq a b=true):a=b:=by
 unfold veq at h;split at h<;>simp_all;rename_i x y;cases x;cases y;simp_all
def vseq:List Value→List Value→Bool
 | [],[]=>true
 | a::r,b::s=>veq a b&&vseq r s
 | _,_=>false
theorem zg2:∀{a b:List Value},vseq a b=true→a=b
 | [],[],_=>rfl
 | a::r,b::s,h=>by
  simp only [vseq,Bool.and_eq_true]at h;rw [zsz h.1,zg2 h.2]
 | [],_::_,h=>by simp [vseq]at h
 | _::_,[],h=>by simp [vseq]at h
def zk9(r:TRow):Option Value→Bool
 | some (.agg cs)=>r.isAgg&&vseq r.zero cs.toList
 | some v=>!r.isAgg&&vseq r.zero [v]
 | none=>false
def rowOk(P:Program)(t:TypeId)(r:TRow):Bool:=
 match P.info? t,P.underlying t with
 | some i,some d=>i.size==r.size&&i.bytes==r.bytes&&zk9 r i.zero&&kdOk P r.kd d&&r.zero.length==r.size
 | _,_=>false
def TabOk(P:Program)(T:Tab):Prop:=T.all (fun x=>rowOk P x.1 x.2)=true
theorem zei:∀{T:Tab} {t:Nat} {r:TRow},tlook T t=some r→(t,r)∈T
 | [],_,_,h=>by simp [tlook]at h
 | (k,a)::r,t,x,h=>by
  simp only [tlook]at h;split at h
  ·rename_i e;have e':k=t:=by simpa using e
   cases h;subst e';exact List.mem_cons_self
  ·exact List.mem_cons_of_mem _ (zei h)
structure RowOk(P:Program)(t:TypeId)(r:TRow):Prop where
 ex:∃i d,P.info? t=some i∧P.underlying t=some d∧i.size=r.size∧i.bytes=r.bytes∧zk9 r i.zero=true∧kdOk P r.kd d=true
 zl:r.zero.length=r.size
theorem zn{P:Program}{T:Tab}(h:TabOk P T){t:Nat}{r:TRow}(hl:tlook T t=some r):RowOk P t r:=by
 have:=List.all_eq_true.1 h _ (zei hl);simp only [rowOk]at this;split at this
 ·rename_i i d hi hd;simp only [Bool.and_eq_true,beq_iff_eq]at this;exact⟨⟨i,d,hi,hd,this.1.1.1.1,this.1.1.1.2,this.1.1.2,this.1.2⟩,this.2⟩
 ·cases this
theorem RowOk.agg{P:Program}{t:TypeId}{r:TRow}(h:RowOk P t r)(w:World):(isAgg t).run P w=.ok r.isAgg w:=by
 obtain⟨⟨i,d,hi,hd,_,_,_,hk⟩,_⟩:=h;simp only [isAgg,Sem.run_bind,run_underlying hd,Result.andThen_ok];unfold TRow.isAgg;revert hk;cases r.kd<;>cases d<;>simp [kdOk]
theorem RowOk.sizeOf{P:Program}{t:TypeId}{r:TRow}(h:RowOk P t r)(w:World):(Go.sizeOf t).run P w=.ok r.size w:=by
 obtain⟨⟨i,d,hi,hd,hs,_⟩,_⟩:=h;simp [Go.sizeOf,run_typeInfo w hi,Result.andThen,hs]
def Ext(w w':World):Prop:=∀b,b<w.heap.size→w'.heap[b]?=w.heap[b]?
theorem Ext.refl(w:World):Ext w w:=fun _ _=>rfl
theorem Ext.cell{w w':World}(h:Ext w w'){a:Addr}{v:Value}(hc:w.cell? a=some v):w'.cell? a=some v:=by
 have hb:=World.block_lt_of_cell? w a hc;unfold World.cell? at hc ⊢;rw [h _ hb];exact hc
inductive PR where
 |ok (a:AV)
 |iff (c:Prop) (a:AV)
 |no
def Yields(P:Program)(w:World)(ok:Nat→Prop)(π:List Value)(a:AV)(s:Sem Value):Prop:=
 ∃v,RelV w ok π a v∧∀w',Ext w w'→s.run P w'=.ok v w'
def PRok(P:Program)(w:World)(ok:Nat→Prop)(π:List Value):PR→Sem Value→Prop
 | .ok a,s=>Yields P w ok π a s
 | .iff c a,s=>c→Yields P w ok π a s
 | .no,_=>True
@[reducible] def vI(k:IntKind)(n:Int):AV:=.d (.v (.int k n))
@[reducible] def vB(b:Bool):AV:=.d (.v (.bool b))
@[reducible] def vS(s:ByteArray):AV:=.d (.v (.string s))
def kbeq:IntKind→IntKind→Bool
 | .i8,.i8 | .i16,.i16 | .i32,.i32 | .i64,.i64 | .u8,.u8 | .u16,.u16 | .u32,.u32 | .u64,.u64=>true
 | _,_=>false
theorem zs1{a b:IntKind}(h:kbeq a b=true):a=b:=by cases a<;>cases b<;>first|rfl|cases h
def bitI(k:IntKind)(n:Int):BitVec k.bits:=BitVec.ofInt k.bits n
def iBin(op:BinOp)(k:IntKind)(a b:Int):PR:=
 match op with
 | .add=>.ok (vI k (k.wrap (a+b)))
 | .sub=>.ok (vI k (k.wrap (a-b)))
 | .mul=>.ok (vI k (k.wrap (a*b)))
 | .quo=>.iff (b≠0) (vI k (k.wrap (a.tdiv b)))
 | .rem=>.iff (b≠0) (vI k (a.tmod b))
 | .and=>.ok (vI k (k.wrap (bitI k a &&& bitI k b).toNat))
 | .or=>.ok (vI k (k.wrap (bitI k a ||| bitI k b).toNat))
 | .xor=>.ok (vI k (k.wrap (bitI k a ^^^ bitI k b).toNat))
 | .andNot=>.ok (vI k (k.wrap (bitI k a &&& ~~~ bitI k b).toNat))
 | .eql=>.ok (vB (a==b))
 | .neq=>.ok (vB (a !=b))
 | .lss=>.ok (vB (decide (a<b)))
 | .leq=>.ok (vB (decide (a≤b)))
 | .gtr=>.ok (vB (decide (a>b)))
 | .geq=>.ok (vB (decide (a≥b)))
 | _=>.no
def sBin(op:BinOp)(a b:ByteArray):PR:=
 match op with
 | .add=>.iff (a.size+b.size≤9223372036854775807) (vS (a++b))
 | .eql=>.ok (vB (a.toList==b.toList))
 | .neq=>.ok (vB (!(a.toList==b.toList)))
 | .lss=>.ok (vB (Op.bytesLess a.toList b.toList))
 | _=>.no
def pBin(T:Tab)(op:BinOp)(t:TypeId)(x y:AV):PR:=
 match x with
 | .d (.v (.int k a))=>match y with
  | .d (.v (.int k' b))=>match op with
   | .shl=>.iff (0≤b) (vI k (k.wrap (a*2^(min b.toNat k.bits))))
   | .shr=>.iff (0≤b) (vI k (a.fdiv (2^(min b.toNat k.bits))))
   | _=>match kbeq k k' with
    | true=>iBin op k a b
    | false=>.no
  | _=>.no
 | .d (.v (.string a))=>match y with
  | .d (.v (.string b))=>sBin op a b
  | _=>.no
 | .d (.v (.bool a))=>match y with
  | .d (.v (.bool b))=>match tlook T t with
   | some r=>match r.kd with
    | .bool=>match op with
     | .eql=>.ok (vB (a==b))
     | .neq=>.ok (vB (!(a==b)))
     | _=>.no
    | _=>.no
   | none=>.no
  | _=>.no
 | _=>.no
theorem zi{P:Program}{w:World}{ok:Nat→Prop}{π:List Value}{x:Value}{s:Sem Value}(hf:flat x=true)(h:∀w',s.run P w'=.ok x w'):Yields P w ok π (.d (.v x)) s:=
 ⟨x,.d (.v hf),fun w' _=>h w'⟩
theorem zsa{P:Program}{w:World}{ok:Nat→Prop}{π:List Value}{op:BinOp}{t:TypeId}{k:IntKind}{a b:Int}(hs:op≠.shl)(hs':op≠.shr):
  PRok P w ok π (iBin op k a b) (binOp op t (.int k a) (.int k b)):=by
 cases op<;>simp only [iBin,PRok];case quo=>intro hb;exact zi rfl (fun w'=>by simp [binOp,Op.intDiv,hb])
 case rem=>intro hb;exact zi rfl (fun w'=>by simp [binOp,Op.intDiv,hb])
 all_goals exact zi rfl (fun w'=>by simp [binOp,Op.intArith,Op.intBits,Op.intCmp,bitI])
theorem zrf{P:Program}{w:World}{ok:Nat→Prop}{π:List Value}{op:BinOp}{t:TypeId}{a b:ByteArray}:
  PRok P w ok π (sBin op a b) (binOp op t (.string a) (.string b)):=by
 cases op<;>simp only [sBin,PRok];case add=>
  intro h;exact zi rfl (fun w'=>by
   have:=run_string_add_sum (P:=P) (w:=w') a b h;simpa [binOp]using this)
 all_goals exact zi rfl (fun w'=>by simp [binOp,Op.stringOp])
theorem zag{P:Program}{t:TypeId}(hd:P.underlying t=some .bool)(a b:Bool)(w:World):(Op.equal t (.bool a) (.bool b)).run P w=.ok (a==b) w:=by
 have h:∀d,(Op.equalIn (d+1) t (.bool a) (.bool b)).run P w=.ok (a==b) w:=by
  intro d;simp only [Op.equalIn,Sem.run_bind,run_underlying hd,Result.andThen_ok,Sem.run_pure]
 exact h 9999
theorem zrl{P:Program}{T:Tab}(hT:TabOk P T){w:World}{ok:Nat→Prop}{π:List Value}{op:BinOp}{t:TypeId}{x y:AV}{vx vy:Value}(hx:RelV w ok π x vx)(hy:RelV w ok π y vy):
  PRok P w ok π (pBin T op t x y) (binOp op t vx vy):=by
 unfold pBin;split
 ·rename_i k a;cases hx with|d hx=>cases hx with|v _=>
  split
  ·rename_i k' b;cases hy with|d hy=>cases hy with|v _=>
   split
   ·intro h;exact zi rfl (fun w'=>by simp [binOp,Op.shift,show ¬b<0 by omega])
   ·intro h;exact zi rfl (fun w'=>by simp [binOp,Op.shift,show ¬b<0 by omega])
   ·rename_i h1 h2;split
    ·rename_i hk;have:=zs1 hk;subst this;exact zsa (fun e=>h1 e) (fun e=>h2 e)
    ·trivial
  ·trivial
 ·rename_i a;cases hx with|d hx=>cases hx with|v _=>
  split
  ·rename_i b;cases hy with|d hy=>cases hy with|v _=>
   exact zrf
  ·trivial
 ·rename_i a;cases hx with|d hx=>cases hx with|v _=>
  split
  ·rename_i b;cases hy with|d hy=>cases hy with|v _=>
   split
   ·rename_i r hr;split
    ·rename_i hk;obtain⟨i,d,hi,hd,_,_,_,hkd⟩:=(zn hT hr).ex;rw [hk]at hkd;have hd':P.underlying t=some .bool:=by
      rw [hd];cases d<;>first|rfl|simp [kdOk]at hkd
     split
     ·exact zi rfl (fun w'=>by simp only [binOp,Sem.run_bind,zag hd',Result.andThen_ok,Sem.run_pure])
     ·exact zi rfl (fun w'=>by simp only [binOp,Sem.run_bind,zag hd',Result.andThen_ok,Sem.run_pure])
     ·trivial
    ·trivial
   ·trivial
  ·trivial
 ·trivial
theorem z34(b o n:Nat):(⟨b,o,none⟩:Addr).add n=⟨b,o+n,none⟩:=by
 unfold Addr.add;split
 ·simp_all
 ·rfl
theorem z82{P:Program}{w:World}{a:Addr}{v:Value}(h:w.cell? a=some v):(load a).run P w=.ok v w:=by
 simp [load,Sem.run,h]
theorem z2f{P:Program}{w:World}{b o:Nat}:∀(us:List Value) (i:Nat) (acc:Array Value),(∀j,j<us.length→w.cell? ⟨b,o+i+j,none⟩=us[j]?) →
  (loadCellsFrom ⟨b,o,none⟩ i us.length acc).run P w=.ok (acc++us.toArray) w
 | [],i,acc,_=>by simp [loadCellsFrom]
 | u::us,i,acc,h=>by
  have h0:=h 0 (by simp);simp only [Nat.add_zero,List.getElem?_cons_zero]at h0;have ih:=z2f (P:=P) (w:=w) (b:=b) (o:=o) us (i+1) (acc.push u) (fun j hj=>by
   have:=h (j+1) (by simpa using hj);rw [show o+(i+1)+j=o+i+(j+1)by omega];simpa using this)
  simp only [List.length_cons,loadCellsFrom,Sem.run_bind,z34,z82 h0,Result.andThen_ok,ih];simp
theorem zaf{P:Program}{w:World}{t:TypeId}{r:TRow}(hr:RowOk P t r){b o:Nat}{us:List Value}(hm:∀j,j<us.length→w.cell? ⟨b,o+j,none⟩=us[j]?)
  (hl:r.isAgg=true→us.length=r.size) (h1:r.isAgg=false→us.length=1) :
  (loadVar t ⟨b,o,none⟩).run P w=.ok (if r.isAgg=true then .agg us.toArray else us.headD (.tuple #[])) w:=by
 simp only [loadVar,Sem.run_bind,hr.agg,Result.andThen_ok];cases h:r.isAgg
 ·have:=h1 h;obtain⟨u,rfl⟩:∃u,us=[u]:=List.length_eq_one_iff.1 this;have h0:=hm 0 (by simp);simp only [Nat.add_zero,List.getElem?_cons_zero]at h0;simp [z82 h0]
 ·have h0:=hl h;have:=z2f (P:=P) (w:=w) (b:=b) (o:=o) us 0 #[] (fun j hj=>by rw [Nat.add_zero];exact hm j hj);simp only [if_true,Sem.run_bind,hr.sizeOf,Result.andThen_ok,loadCells,←h0,this];simp
def allD:List AV→Option (List D)
 | []=>some []
 | x::r=>match x with
  | .d y=>match allD r with
   | some ys=>some (y::ys)
   | none=>none
  | _=>none
theorem zno:∀{l:List AV} {ds:List D},allD l=some ds→l=ds.map .d
 | [],ds,h=>by simp [allD]at h;subst h;rfl
 | x::r,ds,h=>by
  simp only [allD]at h;split at h
  ·split at h
   ·rename_i ys hy;cases h;simp [zno hy]
   ·cases h
  ·cases h
def mkAg(cs:List AV):AV:=match allD cs with|some ds=>.d (.ag ds)|none=>.ag cs
theorem RelVs.toL{w:World}{ok:Nat→Prop}{π:List Value}:∀{ds:List D} {vs:List Value},RelVs w ok π (ds.map .d) vs→(∀v∈vs,flat v=true)→RelL w ok ds vs
 | [],_,h,_=>by cases h;exact .nil
 | d::ds,_,h,hf=>by
  cases h with
  | cons h t=>
   cases h with
   | d h=>exact .cons h (hf _ (by simp)) (t.toL (fun v hv=>hf v (by simp [hv])))
theorem z9t{w:World}{ok:Nat→Prop}{π:List Value}{cs:List AV}{vs:List Value}(h:RelVs w ok π cs vs)(hf:∀v∈vs,flat v=true):RelV w ok π (mkAg cs) (.agg vs.toArray):=by
 unfold mkAg;split
 ·rename_i ds hd;have:=zno hd;subst this;exact .d (.ag (h.toL hf))
 ·exact .ag h hf
def takeN{α:Type}:Nat→List α→Option (List α)
 | 0,_=>some []
 | _+1,[]=>none
 | n+1,x::r=>match takeN n r with|some l=>some (x::l)|none=>none
theorem zd5{α:Type}:∀{n:Nat} {l r:List α},takeN n l=some r→r=l.take n∧r.length=n
 | 0,l,r,h=>by simp [takeN]at h;subst h;simp
 | n+1,[],r,h=>by simp [takeN]at h
 | n+1,x::l,r,h=>by
  simp only [takeN]at h;split at h
  ·rename_i l' hl;cases h;have:=zd5 hl;exact⟨by rw [List.take_succ_cons,←this.1],by rw [List.length_cons,this.2]⟩
  ·cases h
def dropN{α:Type}:Nat→List α→List α
 | 0,l=>l
 | _+1,[]=>[]
 | n+1,_::r=>dropN n r
theorem z8j{α:Type}:∀(n:Nat) (l:List α),dropN n l=l.drop n
 | 0,l=>by simp [dropN]
 | n+1,[]=>by simp [dropN]
 | n+1,x::l=>by simp [dropN,z8j n l]
def cut1(agg:Bool)(size off:Nat)(cs:List AV):PR:=
 match agg with
 | true=>match takeN size (dropN off cs)with|some us=>.ok (mkAg us)|none=>.no
 | false=>match nth cs off with|some a=>.ok a|none=>.no
def objAt(objs:List (Option AObj))(i:Nat):Option AObj:=match nth objs i with|some (some o)=>some o|_=>none
theorem z2v{objs:List (Option AObj)}{i:Nat}{o:AObj}(h:objAt objs i=some o):nth objs i=some (some o):=by
 unfold objAt at h;split at h
 ·cases h;assumption
 ·cases h
def pLoad(T:Tab)(t:TypeId)(objs:List (Option AObj))(a:AV):PR:=
 match tlook T t with
 | none=>.no
 | some r=>match a with
  | .ptr i off=>match objAt objs i with
   | some (.cells _ cs)=>cut1 r.isAgg r.size off cs
   | _=>.no
  | .ro cs=>cut1 r.isAgg r.size 0 (cs.map .d)
  | .ge i s j off=>match objAt objs i with
   | some (.grow _ s' xs rd)=>match Nat.beq s s' with
    | true=>match cut1 r.isAgg r.size off ((rd j).cells.map .d)with
     | .ok v=>.iff (j<xs.length) v
     | _=>.no
    | false=>.no
   | _=>.no
  | _=>.no
theorem zh7{P:Program}{w:World}{ok:Nat→Prop}{π:List Value}{t:TypeId}{r:TRow}(hr:RowOk P t r){b o off:Nat}{cs:List AV}{us:List Value}(h:RelVs w ok π cs us)(hf:∀v∈us,flat v=true)
  (hm:∀j,j<us.length→w.cell? ⟨b,o+j,none⟩=us[j]?) {a:AV} (hc:cut1 r.isAgg r.size off cs=.ok a):Yields P w ok π a (loadVar t ⟨b,o+off,none⟩):=by
 unfold cut1 at hc;split at hc
 ·rename_i ha;split at hc
  ·rename_i vs hv;cases hc;obtain⟨e1,e2⟩:=zd5 hv;rw [z8j]at e1;have hus:=h.length;have hlen:((us.drop off).take r.size).length=r.size:=by
    have h1:((cs.drop off).take r.size).length=r.size:=by rw [←e1];exact e2
    rw [List.length_take,List.length_drop]at h1 ⊢;omega
   refine⟨.agg ((us.drop off).take r.size).toArray,?_,fun w' hw=>?_⟩
   ·rw [e1];exact z9t ((h.drop_ off).take r.size) (fun v hv=>hf v (List.mem_of_mem_drop (List.mem_of_mem_take hv)))
   ·have:=zaf (P:=P) (w:=w') hr (b:=b) (o:=o+off) (us:=(us.drop off).take r.size) (fun j hj=>by
     rw [hlen]at hj;have hj':off+j<us.length:=by
      rw [List.length_take,List.length_drop]at hlen;omega
     have h1:=hm (off+j) hj';rw [List.getElem?_eq_getElem hj']at h1;rw [Nat.add_assoc,hw.cell h1,List.getElem?_take,if_pos hj,List.getElem?_drop,List.getElem?_eq_getElem hj']) (fun _=>hlen) (fun e=>by rw [ha]at e;cases e)
    simpa [ha]using this
  ·cases hc
 ·rename_i ha;split at hc
  ·rename_i x hx;cases hc;obtain⟨v,hv,hrel⟩:=h.get hx;refine⟨v,hrel,fun w' hw=>?_⟩;have hj:off<us.length:=(List.getElem?_eq_some_iff.1 hv).1;have h1:=hm off hj;rw [hv]at h1;have:=zaf (P:=P) (w:=w') hr (b:=b) (o:=o+off) (us:=[v]) (fun j hj=>by
    obtain rfl:j=0:=by simpa using hj
    simpa using hw.cell h1) (fun e=>by rw [ha]at e;cases e) (fun _=>rfl)
   simpa [ha]using this
  ·cases hc
theorem cell_of_heap{w:World}{b i:Nat}{vs:List Value}{e:TypeId}{fz:Nat×Nat}(h:w.heap[b]?=some (.cells vs.toArray e fz)):w.cell? ⟨b,i,none⟩=vs[i]?:=by
 simp [World.cell?,h]
theorem zi1{P:Program}{T:Tab}(hT:TabOk P T){X:Nat→Prop}{π:List Value}{objs:List (Option AObj)}{w:World}(m:Mem X π objs w){t:TypeId}{a:AV}{v:Value}
  (ha:RelV w (okOf X π objs) π a v):PRok P w (okOf X π objs) π (pLoad T t objs a) (Instr.loadAt t v):=by
 unfold pLoad;split
 ·trivial
 ·rename_i r hr;have hrow:=zn hT hr;split
  ·rename_i i off;split
   ·rename_i e cs ho;obtain⟨h,hp,hrel⟩:=m.obj _ _ (z2v ho);cases ha with
    | ptr hh=>
     rw [hh]at hp;cases hp;cases hrel with
     | cells hb hvs hf=>
      cases hcut:cut1 r.isAgg r.size off cs with
      | ok a=>
       have:=zh7 hrow hvs hf (o:=0) (fun j hj=>by rw [cell_of_heap hb];simp) hcut;simpa [Instr.loadAt,Instr.sureAddr,PRok]using this
      | iff c a=>exact absurd hcut (by unfold cut1;split<;>split<;>simp)
      | no=>trivial
   ·trivial
  ·rename_i cs;cases ha with
   | ro hl hm=>
    cases hcut:cut1 r.isAgg r.size 0 (cs.map .d)with
    | ok a=>
     have:=zh7 hrow (hl.toVs (π:=π)) hl.flat (fun j hj=>(hm j hj).2) hcut;simpa [Instr.loadAt,Instr.sureAddr,PRok]using this
    | iff c a=>exact absurd hcut (by unfold cut1;split<;>split<;>simp)
    | no=>trivial
  ·rename_i i s j off;split
   ·rename_i e s' xs rd ho;split
    ·rename_i hs;have hs':s=s':=by simpa using hs
     subst hs';split
     ·rename_i a hcut;intro hj;obtain⟨h,hp,hrel⟩:=m.obj _ _ (z2v ho);cases ha with
      | ge hh=>
       rw [hh]at hp;cases hp;cases hrel with
       | gnil=>exact absurd hj (by simp)
       | grow hb hz he hu hc hm2 ho2 hr2=>
        rename_i us vs fz;have hx:=hr2 j hj;rw [List.getElem?_eq_getElem hj]at hx;have hx:xs[j]=rd j:=by simpa using hx
        have hcell:=he.get hj;rw [hx]at hcell;have hlen:=he.length;have:=zh7 (off:=off) hrow (hcell.toVs (π:=π)) hcell.flat (b:=_) (o:=_+j*s) (fun q hq=>by
         rw [List.length_take,List.length_drop]at hq;have h1:=hu (j*s+q) (by omega);rw [cell_of_heap hb,Nat.add_assoc,h1,List.getElem?_take,if_pos (by omega),List.getElem?_drop]) hcut
        simpa [Instr.loadAt,Instr.sureAddr]using this
     ·trivial
    ·trivial
   ·trivial
  ·trivial
def zli(T:Tab)(t:TypeId)(f:Nat)(x:AV):PR:=
 match tlook T t with
 | none=>.no
 | some r=>match r.kd with
  | .struct fs=>match nth fs f with
   | none=>.no
   | some fl=>match x with
    | .ag cs=>cut1 fl.agg fl.size fl.off cs
    | .d (.ag cs)=>cut1 fl.agg fl.size fl.off (cs.map .d)
    | _=>.no
  | _=>.no
theorem z9v{P:Program}:∀{fs:List Fld} {gs:List Field} (_:z5b P fs gs=true) {n:Nat} {f:Fld},nth fs n=some f →
  ∃g i,gs[n]?=some g∧f.off=g.offset∧P.info? g.type=some i∧i.size=f.size∧(∃d,P.underlying g.type=some d)∧Pagg P g.type=f.agg
 | [],[],_,_,_,h=>by simp [nth]at h
 | [],_::_,h,_,_,_=>by simp [z5b]at h
 | _::_,[],h,_,_,_=>by simp [z5b]at h
 | f::fs,g::gs,h,0,x,hx=>by
  simp only [nth,Option.some.injEq]at hx;subst hx;simp only [z5b,Bool.and_eq_true,beq_iff_eq]at h;obtain⟨⟨⟨⟨h1,h2⟩,h3⟩,h4⟩,_⟩:=h;split at h2
  ·rename_i i hi;exact⟨g,i,by simp,h1,hi,by simpa using h2,Option.isSome_iff_exists.1 h3,h4⟩
  ·cases h2
 | f::fs,g::gs,h,n+1,x,hx=>by
  simp only [z5b,Bool.and_eq_true]at h;obtain⟨g',i,h1,h2⟩:=z9v h.2 (n:=n) (f:=x) hx;exact⟨g',i,by simpa using h1,h2⟩
theorem z5i{P:Program}{T:Tab}(hT:TabOk P T){t:TypeId}{r:TRow}(hr:tlook T t=some r){fs:List Fld}(hk:r.kd=.struct fs):∃gs:Array Field,P.underlying t=some (.struct gs)∧z5b P fs gs.toList=true:=by
 obtain⟨i,d,hi,hd,_,_,_,hkd⟩:=(zn hT hr).ex;rw [hk]at hkd;cases d<;>simp only [kdOk]at hkd<;>first|exact⟨_,hd,hkd⟩|(exact absurd hkd (by simp))
theorem zev{P:Program}{t:TypeId}{d:TypeDesc}(hd:P.underlying t=some d)(w:World):(isAgg t).run P w=.ok (Pagg P t) w:=by
 simp only [isAgg,Sem.run_bind,run_underlying hd,Result.andThen_ok,Pagg,hd];cases d<;>simp
theorem z52{P:Program}{t:TypeId}{i:TypeInfo}(hi:P.info? t=some i)(w:World):(Go.sizeOf t).run P w=.ok i.size w:=by
 simp [Go.sizeOf,run_typeInfo w hi,Result.andThen]
theorem ziq{P:Program}{w:World}{ok:Nat→Prop}{π:List Value}{t:TypeId}{d:TypeDesc}{i:TypeInfo}(hi:P.info? t=some i)(hd:P.underlying t=some d){off:Nat}{cs:List AV}{us:List Value}(h:RelVs w ok π cs us)(hf:∀v∈us,flat v=true)
  {a:AV} (hc:cut1 (Pagg P t) i.size off cs=.ok a):Yields P w ok π a (part t us.toArray off):=by
 unfold cut1 at hc;split at hc
 ·rename_i ha;split at hc
  ·rename_i vs hv;cases hc;obtain⟨e1,e2⟩:=zd5 hv;rw [z8j]at e1;refine⟨.agg ((us.drop off).take i.size).toArray,?_,fun w' _=>?_⟩
   ·rw [e1];exact z9t ((h.drop_ off).take i.size) (fun v hv=>hf v (List.mem_of_mem_drop (List.mem_of_mem_take hv)))
   ·simp only [part,Sem.run_bind,zev hd,Result.andThen_ok,ha,if_true,z52 hi,Sem.run_pure];congr 2;simp [List.extract_eq_take_drop]
  ·cases hc
 ·rename_i ha;split at hc
  ·rename_i x hx;cases hc;obtain⟨v,hv,hrel⟩:=h.get hx;exact⟨v,hrel,fun w' _=>by simp [part,zev hd,ha,hv]⟩
  ·cases hc
theorem zcr(b:Bool)(s o:Nat)(cs:List AV):(∃a,cut1 b s o cs=.ok a)∨cut1 b s o cs=.no:=by
 unfold cut1;split<;>split<;>simp
theorem zlh{P:Program}{T:Tab}(hT:TabOk P T){w:World}{ok:Nat→Prop}{π:List Value}{t:TypeId}{f:Nat}{x:AV}{v:Value}(hx:RelV w ok π x v):PRok P w ok π (zli T t f x) (Instr.field t v f):=by
 unfold zli;split
 ·trivial
 ·rename_i r hr;split
  ·rename_i fs hk;obtain⟨gs,hgs,hfo⟩:=z5i hT hr hk;split
   ·trivial
   ·rename_i fl hfl;obtain⟨g,i,hg,hoff,hi,hsz,⟨d,hd⟩,hag⟩:=z9v hfo hfl;have hg':gs[f]?=some g:=by simpa using hg
    split
    ·rename_i cs;cases hx with
     | ag h hf=>
      rcases zcr fl.agg fl.size fl.off cs with⟨a,hc⟩|hc
      ·rw [hc];rw [←hag,←hsz,hoff]at hc;obtain⟨u,h1,h2⟩:=ziq (P:=P) hi hd h hf hc;exact⟨u,h1,fun w' hw=>by simp [Instr.field,run_underlying hgs,hg',asAgg,h2 w' hw]⟩
      ·rw [hc];trivial
    ·rename_i cs;cases hx with
     | d h=>cases h with
      | ag h=>
       rcases zcr fl.agg fl.size fl.off (cs.map .d)with⟨a,hc⟩|hc
       ·rw [hc];rw [←hag,←hsz,hoff]at hc;obtain⟨u,h1,h2⟩:=ziq (P:=P) hi hd (h.toVs (π:=π)) h.flat hc;exact⟨u,h1,fun w' hw=>by simp [Instr.field,run_underlying hgs,hg',asAgg,h2 w' hw]⟩
       ·rw [hc];trivial
    ·trivial
  ·trivial
def z8t(T:Tab)(t:TypeId)(f:Nat)(x:AV):PR:=
 match tlook T t with
 | none=>.no
 | some r=>match r.kd with
  | .struct fs=>match nth fs f with
   | none=>.no
   | some fl=>match fl.size with
    | 0=>.no
    | _+1=>match x with
     | .ptr i off=>.ok (.ptr i (off+fl.off))
     | .ro cs=>.ok (.ro (dropN fl.off cs))
     | .ge i s j off=>.ok (.ge i s j (off+fl.off))
     | _=>.no
  | _=>.no
theorem zdj{P:Program}{T:Tab}(hT:TabOk P T){w:World}{ok:Nat→Prop}{π:List Value}{t:TypeId}{f:Nat}{x:AV}{v:Value}(hx:RelV w ok π x v):PRok P w ok π (z8t T t f x) (Instr.fieldAt t v f):=by
 unfold z8t;split
 ·trivial
 ·rename_i r hr;split
  ·rename_i fs hk;obtain⟨gs,hgs,hfo⟩:=z5i hT hr hk;split
   ·trivial
   ·rename_i fl hfl;obtain⟨g,i,hg,hoff,hi,hsz,⟨d,hd⟩,hag⟩:=z9v hfo hfl;have hg':gs[f]?=some g:=by simpa using hg
    split
    ·trivial
    ·rename_i n hn;have hne:i.size≠0:=by omega
     have hrun:∀b o (w':World),(Instr.fieldAt t (.pointer (some ⟨b,o,none⟩)) f).run P w'=.ok (.pointer (some ⟨b,o+fl.off,none⟩)) w':=by
      intro b o w';simp [Instr.fieldAt,run_underlying hgs,hg',Instr.sureAddr,fieldPlace,z52 hi,hne,z34,hoff]
     split
     ·cases hx with
      | ptr h=>exact⟨_,.ptr h,fun w' _=>hrun _ _ _⟩
     ·cases hx with
      | ro h hm=>
       refine⟨_,.ro (us:=_) (by rw [z8j];exact h.drop fl.off) (fun j hj=>?_),fun w' _=>hrun _ _ _⟩;rw [List.length_drop]at hj;have:=hm (fl.off+j) (by omega);rw [Nat.add_assoc,List.getElem?_drop];exact this
     ·cases hx with
      | ge h=>
       refine⟨_,?_,fun w' _=>hrun _ _ _⟩;rw [Nat.add_assoc];exact .ge h
     ·trivial
  ·trivial
def asNat:AV→Option Nat
 | .d (.v (.int _ (.ofNat n)))=>some n
 | _=>none
def z56(T:Tab)(t:TypeId)(objs:List (Option AObj))(x ix:AV):PR:=
 match tlook T t with
 | none=>.no
 | some r=>match r.kd with
  | .slice e=>match tlook T e with
   | none=>.no
   | some re=>match ix with
    | .d (.v (.int _ i))=>match x with
     | .d (.sl s xs rd)=>match Nat.beq re.size s with
      | true=>.iff (0≤i∧i<xs.length) (.ro (rd i.toNat).cells)
      | false=>.no
     | .gs k=>match objAt objs k with
      | some (.grow _ s xs _)=>match Nat.beq re.size s with
       | true=>.iff (0≤i∧i<xs.length) (.ge k s i.toNat 0)
       | false=>.no
      | _=>.no
     | _=>.no
    | _=>.no
  | .array n e=>match tlook T e with
   | none=>.no
   | some re=>match asNat ix with
    | some i=>match Nat.blt i n with
     | true=>match x with
      | .ptr k off=>.ok (.ptr k (off+i*re.size))
      | .ro cs=>.ok (.ro (dropN (i*re.size) cs))
      | _=>.no
     | false=>.no
    | none=>.no
  | _=>.no
theorem z1c{P:Program}{T:Tab}(hT:TabOk P T){t:TypeId}{r:TRow}(hr:tlook T t=some r){e:TypeId}(hk:r.kd=.slice e):P.underlying t=some (.slice e):=by
 obtain⟨i,d,hi,hd,_,_,_,hkd⟩:=(zn hT hr).ex;rw [hk]at hkd;cases d<;>simp only [kdOk]at hkd<;>first|(rw [hd];congr 2;exact(by simpa using hkd:e=_).symm)|(exact absurd hkd (by simp))
theorem zcu{P:Program}{T:Tab}(hT:TabOk P T){t:TypeId}{r:TRow}(hr:tlook T t=some r){n:Nat}{e:TypeId}(hk:r.kd=.array n e):P.underlying t=some (.array n e):=by
 obtain⟨i,d,hi,hd,_,_,_,hkd⟩:=(zn hT hr).ex;rw [hk]at hkd;cases d<;>simp only [kdOk]at hkd<;>first|(simp only [Bool.and_eq_true,beq_iff_eq]at hkd;rw [hd,hkd.1,hkd.2])|(exact absurd hkd (by simp))
theorem zdi{P:Program}{T:Tab}(hT:TabOk P T){X:Nat→Prop}{π:List Value}{objs:List (Option AObj)}{w:World}(m:Mem X π objs w){t:TypeId}{x ix:AV}{v vi:Value}
  (hx:RelV w (okOf X π objs) π x v) (hi:RelV w (okOf X π objs) π ix vi):PRok P w (okOf X π objs) π (z56 T t objs x ix) (Instr.indexAt t v vi):=by
 unfold z56;split
 ·trivial
 ·rename_i r hr;split
  ·rename_i e hk;have hu:=z1c hT hr hk;split
   ·trivial
   ·rename_i re hre;have hsz:=(zn hT hre).sizeOf;split
    ·rename_i k i;cases hi with|d hi=>cases hi with|v _=>
     split
     ·rename_i s xs rd;split
      ·rename_i hs;have hs':re.size=s:=by simpa using hs
       intro hc;cases hx with
       | d hx=>cases hx with
        | nil _=>exact absurd hc.2 (by simp;omega)
        | sl he hm hcap hmax hrd=>
         rename_i b o c us;have hj:i.toNat<xs.length:=by omega
         have hcell:=he.get hj;have hx':=hrd _ hj;rw [List.getElem?_eq_getElem hj]at hx';have hx':xs[i.toNat]=rd i.toNat:=by simpa using hx'
         rw [hx']at hcell;have hlen:=he.length;refine⟨.pointer (some ⟨b,o+i.toNat*s,none⟩),.ro hcell (fun q hq=>?_),fun w' _=>?_⟩
         ·rw [List.length_take,List.length_drop]at hq;have:=hm (i.toNat*s+q) (by omega);rw [Nat.add_assoc,List.getElem?_take,if_pos (by omega),List.getElem?_drop];exact this
         ·simp [Instr.indexAt,asIntOf,run_underlying hu,hsz,hs',hc,z34]
      ·trivial
     ·rename_i kk;split
      ·rename_i e' s xs rd ho;split
       ·rename_i hs;have hs':re.size=s:=by simpa using hs
        intro hc;obtain⟨h,hp,hrel⟩:=m.obj _ _ (z2v ho);cases hx with
        | gs hh=>
         rw [hh]at hp;cases hp;cases hrel with
         | gnil=>exact absurd hc.2 (by simp;omega)
         | grow hb hz he hu2 hc2 hm2 ho2 hr2=>
          rename_i b o c us vs fz;refine⟨.pointer (some ⟨b,o+i.toNat*s+0,none⟩),.ge hh,fun w' _=>?_⟩;simp [Instr.indexAt,asIntOf,run_underlying hu,hsz,hs',hc,z34]
       ·trivial
      ·trivial
     ·trivial
    ·trivial
  ·rename_i n e hk;have hu:=zcu hT hr hk;split
   ·trivial
   ·rename_i re hre;have hsz:=(zn hT hre).sizeOf;split
    ·rename_i i hni;split
     ·rename_i hlt;have hlt':i<n:=by simpa [Nat.blt_eq]using hlt
      obtain⟨k,rfl⟩:∃k,ix=.d (.v (.int k (Int.ofNat i))):=by
       unfold asNat at hni;split at hni
       ·cases hni;exact⟨_,rfl⟩
       ·cases hni
      cases hi with|d hi=>cases hi with|v _=>
      have hrun:∀b o (w':World),(Instr.indexAt t (.pointer (some ⟨b,o,none⟩)) (.int k (Int.ofNat i))).run P w'=.ok (.pointer (some ⟨b,o+i*re.size,none⟩)) w':=by
       intro b o w';simp [Instr.indexAt,asIntOf,run_underlying hu,hsz,Instr.sureAddr,z34];omega
      split
      ·cases hx with
       | ptr h=>exact⟨_,.ptr h,fun w' _=>hrun _ _ _⟩
      ·cases hx with
       | ro h hm=>
        refine⟨_,.ro (us:=_) (by rw [z8j];exact h.drop _) (fun j hj=>?_),fun w' _=>hrun _ _ _⟩;rw [List.length_drop]at hj;have:=hm (i*re.size+j) (by omega);rw [Nat.add_assoc,List.getElem?_drop];exact this
      ·trivial
     ·trivial
    ·trivial
  ·trivial
def bt(s:ByteArray)(i:Nat):Int:=((s.data.toList.getD i 0).toNat:Int)
def zle(T:Tab)(t:TypeId)(x ix:AV):PR:=
 match tlook T t with
 | none=>.no
 | some r=>match r.kd with
  | .str=>match x with
   | .d (.v (.string s))=>match ix with
    | .d (.v (.int _ i))=>.iff (0≤i∧i<s.size) (vI .u8 (bt s i.toNat))
    | _=>.no
   | _=>.no
  | _=>.no
theorem z4i{P:Program}{T:Tab}(hT:TabOk P T){t:TypeId}{r:TRow}(hr:tlook T t=some r)(hk:r.kd=.str):P.underlying t=some .string:=by
 obtain⟨i,d,hi,hd,_,_,_,hkd⟩:=(zn hT hr).ex;rw [hk]at hkd;cases d<;>first|exact hd|(exact absurd hkd (by simp [kdOk]))
theorem zra(s:ByteArray)(i:Nat)(h:i<s.size):s[i]?=some (s.data.toList.getD i 0):=by
 have h':i<s.data.size:=h;have:s[i]?=some s[i]:=by simp [h]
 rw [this];have e:s.data.toList.getD i 0=s.data[i]'h':=by
  rw [List.getD_eq_getElem?_getD,List.getElem?_eq_getElem (by simpa using h')];simp
 rw [e];rfl
theorem zld{P:Program}{T:Tab}(hT:TabOk P T){w:World}{ok:Nat→Prop}{π:List Value}{t:TypeId}{x ix:AV}{v vi:Value}(hx:RelV w ok π x v)(hi:RelV w ok π ix vi):
  PRok P w ok π (zle T t x ix) (Instr.index t v vi):=by
 unfold zle;split
 ·trivial
 ·rename_i r hr;split
  ·rename_i hk;have hu:=z4i hT hr hk;split
   ·rename_i s;cases hx with|d hx=>cases hx with|v _=>
    split
    ·rename_i k i;cases hi with|d hi=>cases hi with|v _=>
     intro hc;refine zi rfl (fun w'=>?_);have h1:i.toNat<s.size:=by omega
     simp [Instr.index,asIntOf,run_underlying hu,hc.1,zra s i.toNat h1,bt]
    ·trivial
   ·trivial
  ·trivial
def bndOf(dflt:Int):Option AV→Option Int
 | none=>some dflt
 | some (.d (.v (.int _ i)))=>some i
 | _=>none
def zl8(T:Tab)(t:TypeId)(x:AV)(lo hi mx:Option AV):PR:=
 match tlook T t with
 | none=>.no
 | some r=>match r.kd with
  | .str=>match mx with
   | some _=>.no
   | none=>match x with
    | .d (.v (.string s))=>match bndOf 0 lo with
     | none=>.no
     | some l=>match bndOf (s.size:Int) hi with
      | none=>.no
      | some h=>.iff (0≤l∧l≤h∧h≤s.size) (vS (s.extract l.toNat h.toNat))
    | _=>.no
  | .slice e=>match mx with
   | some _=>.no
   | none=>match tlook T e with
    | none=>.no
    | some re=>match x with
     | .d (.sl s xs rd)=>match Nat.beq re.size s with
      | true=>match bndOf 0 lo with
       | none=>.no
       | some l=>match bndOf (xs.length:Int) hi with
        | none=>.no
        | some h=>.iff (0≤l∧l≤h∧h≤xs.length) (.d (.sl s ((xs.drop l.toNat).take (h-l).toNat) (fun j=>rd (l.toNat+j))))
      | false=>.no
     | _=>.no
  | _=>.no
theorem z54{P:Program}{w:World}{b:Bool}{len cap:Nat}{lo hi:Option AV}{vl vh:Option Value}{ok:Nat→Prop}{π:List Value}
  (hl:∀a,lo=some a→∃v,vl=some v∧RelV w ok π a v) (hl0:lo=none→vl=none) (hh:∀a,hi=some a→∃v,vh=some v∧RelV w ok π a v) (hh0:hi=none→vh=none)
  {l h:Int} (el:bndOf 0 lo=some l) (eh:bndOf (len:Int) hi=some h) (h0:0≤l) (h1:l≤h) (h2:h≤len) (h3:len≤cap) (w':World) :
  (Instr.sliceBounds b len cap vl vh none).run P w'=.ok (l.toNat,h.toNat,cap) w':=by
 have e1:∃h':Nat,h=h':=⟨h.toNat,by omega⟩
 obtain⟨h',rfl⟩:=e1;have e2:∃l':Nat,l=l':=⟨l.toNat,by omega⟩
 obtain⟨l',rfl⟩:=e2;have hhv:vh=none∧h'=len∨∃k,vh=some (.int k (h':Int)):=by
  cases hi with
  | none=>
   left
   simp only [bndOf,Option.some.injEq]at eh;exact⟨hh0 rfl,by omega⟩
  | some a=>
   right
   obtain⟨v,hv,hr⟩:=hh a rfl;unfold bndOf at eh;split at eh
   ·simp_all
   ·rename_i k i heq;cases heq;cases hr with|d hr=>cases hr with|v _=>
    cases eh;exact⟨_,hv⟩
   ·cases eh
 have hlv:vl=none∧l'=0∨∃k,vl=some (.int k (l':Int)):=by
  cases lo with
  | none=>
   left
   simp only [bndOf,Option.some.injEq]at el;exact⟨hl0 rfl,by omega⟩
  | some a=>
   right
   obtain⟨v,hv,hr⟩:=hl a rfl;unfold bndOf at el;split at el
   ·simp_all
   ·rename_i k i heq;cases heq;cases hr with|d hr=>cases hr with|v _=>
    cases el;exact⟨_,hv⟩
   ·cases el
 have c1:h'≤cap:=by omega
 have c2:l'≤h':=by omega
 rcases hhv with⟨rfl,rfl⟩|⟨k,rfl⟩<;>rcases hlv with⟨rfl,rfl⟩|⟨k',rfl⟩ <;>
  simp [Instr.sliceBounds,Instr.sliceBound,asIntOf,c1,c2]
theorem zcc{w:World}{ok:Nat→Prop}{π:List Value}{lo:Option AV}{vl:Option Value}(h:match lo,vl with|none,none=>True|some a,some v=>RelV w ok π a v|_,_=>False):
  (∀a,lo=some a→∃v,vl=some v∧RelV w ok π a v)∧(lo=none→vl=none):=by
 cases lo<;>cases vl<;>simp_all
def zbp(w:World)(ok:Nat→Prop)(π:List Value)(lo:Option AV)(vl:Option Value):Prop:=
 match lo,vl with
 | none,none=>True
 | some a,some v=>RelV w ok π a v
 | _,_=>False
theorem zl7{P:Program}{T:Tab}(hT:TabOk P T){w:World}{ok:Nat→Prop}{π:List Value}{t:TypeId}{x:AV}{lo hi mx:Option AV}{v:Value}{vl vh vm:Option Value}
  (hx:RelV w ok π x v) (hl:zbp w ok π lo vl) (hh:zbp w ok π hi vh) (hm:zbp w ok π mx vm):PRok P w ok π (zl8 T t x lo hi mx) (Instr.sliceAt t v vl vh vm):=by
 obtain⟨hl1,hl2⟩:=zcc hl;obtain⟨hh1,hh2⟩:=zcc hh;obtain⟨_,hm2⟩:=zcc hm;unfold zl8;split
 ·trivial
 ·rename_i r hr;split
  ·rename_i hk;have hu:=z4i hT hr hk;split
   ·trivial
   ·have hmn:=hm2 rfl;subst hmn;split
    ·rename_i s;cases hx with|d hx=>cases hx with|v _=>
     split
     ·trivial
     ·rename_i l el;split
      ·trivial
      ·rename_i h eh;intro hc;refine zi rfl (fun w'=>?_);have hb:=z54 (P:=P) (b:=false) (cap:=s.size) hl1 hl2 hh1 hh2 el eh hc.1 hc.2.1 hc.2.2 (Nat.le_refl _) w';simp [Instr.sliceAt,run_underlying hu,Instr.slice,hb]
    ·trivial
  ·rename_i e hk;have hu:=z1c hT hr hk;split
   ·trivial
   ·have hmn:=hm2 rfl;subst hmn;split
    ·trivial
    ·rename_i re hre;have hsz:=(zn hT hre).sizeOf;split
     ·rename_i s xs rd;split
      ·rename_i hs;have hs':re.size=s:=by simpa using hs
       split
       ·trivial
       ·rename_i l el;split
        ·trivial
        ·rename_i h eh;intro hc;obtain⟨h',rfl⟩:∃h':Nat,h=h':=⟨h.toNat,by omega⟩
         obtain⟨l',rfl⟩:∃l':Nat,l=l':=⟨l.toNat,by omega⟩
         have hd:((h':Int)-(l':Int)).toNat=h'-l':=by omega
         simp only [hd,Int.toNat_natCast];cases hx with
         | d hx=>cases hx with
          | nil hb=>
           rename_i c A;have hb1:=fun w'=>z54 (P:=P) (b:=true) (len:=0) (cap:=c) hl1 hl2 hh1 hh2 el (by simpa using eh) hc.1 hc.2.1 (by simpa using hc.2.2) (Nat.zero_le _) w'
           have hz:h'=0∧l'=0:=by
            have h1:=hc.2.2;have h2:=hc.2.1;simp at h1;omega
           obtain⟨rfl,rfl⟩:=hz;have hrun:∀w',(Instr.sliceAt t (.slice A 0 c) vl vh none).run P w'=.ok (.slice (if c=0 then A else A.map (·.add (0*re.size))) 0 c) w':=by
            intro w';have:=hb1 w';simp only [Int.toNat_natCast]at this;simp [Instr.sliceAt,run_underlying hu,Instr.slice,this,hsz]
           refine⟨_,?_,fun w' _=>hrun w'⟩;simp only [List.drop_nil,List.take_nil];exact .d (.nil hb)
          | sl he hm2 hcap hmax hrd=>
           rename_i b o c us;have hb1:=fun w'=>z54 (P:=P) (b:=true) (cap:=c) hl1 hl2 hh1 hh2 el eh hc.1 hc.2.1 hc.2.2 hcap w'
           have hle:l'≤h':=by omega
           have hle2:h'≤xs.length:=by omega
           have hlen:=he.length;have hrun:∀w',(Instr.sliceAt t (.slice (some ⟨b,o,none⟩) xs.length c) vl vh none).run P w'=.ok (.slice (if c=l' then some ⟨b,o,none⟩else some ⟨b,o+l'*s,none⟩) (h'-l') (c-l')) w':=by
            intro w';have:=hb1 w';simp only [Int.toNat_natCast]at this;simp [Instr.sliceAt,run_underlying hu,Instr.slice,this,hsz,hs',z34]
           have hlt:((xs.drop l').take (h'-l')).length=h'-l':=by
            rw [List.length_take,List.length_drop];omega
           refine⟨_,?_,fun w' _=>hrun w'⟩;by_cases hcl:c=l'
           ·have e0:(xs.drop l').take (h'-l')=[]:=by
             apply List.eq_nil_of_length_eq_zero;rw [hlt];omega
            rw [e0,if_pos hcl,show h'-l'=0 by omega];exact .d (.nil (by omega))
           ·rw [if_neg hcl];have:=RelD.sl (c:=c-l') (b:=b) (o:=o+l'*s) (rd:=fun j=>rd (l'+j)) ((he.drop l').take (h'-l')) (fun q hq=>?_) (by rw [hlt];omega) (by omega) (fun q hq=>?_)
            ·rw [hlt]at this;exact .d this
            ·rw [List.length_take,List.length_drop]at hq;have h1:=hm2 (l'*s+q) (by omega);rw [Nat.add_assoc,List.getElem?_take,if_pos (by omega),List.getElem?_drop];exact h1
            ·rw [hlt]at hq;rw [List.getElem?_take,if_pos hq,List.getElem?_drop];exact hrd _ (by omega)
      ·trivial
     ·trivial
  ·trivial
def pLen(T:Tab)(t:TypeId)(objs:List (Option AObj))(x:AV):PR:=
 match tlook T t with
 | none=>.no
 | some r=>match r.kd with
  | .str=>match x with
   | .d (.v (.string s))=>.ok (vI .i64 (s.size:Nat))
   | _=>.no
  | .slice _=>match x with
   | .d (.sl _ xs _)=>.ok (vI .i64 (xs.length:Nat))
   | .d (.v (.slice none 0 0))=>.ok (vI .i64 0)
   | .e0 _=>.ok (vI .i64 0)
   | .gs k=>match objAt objs k with
    | some (.grow _ _ xs _)=>.ok (vI .i64 (xs.length:Nat))
    | _=>.no
   | _=>.no
  | .map _ _=>match x with
   | .mp k=>match objAt objs k with
    | some (.map es)=>.ok (vI .i64 (es.length:Nat))
    | _=>.no
   | .d (.v (.map none))=>.ok (vI .i64 0)
   | _=>.no
  | _=>.no
theorem zp2{P:Program}{T:Tab}(hT:TabOk P T){t:TypeId}{r:TRow}(hr:tlook T t=some r){k e:TypeId}(hk:r.kd=.map k e):P.underlying t=some (.map k e):=by
 obtain⟨i,d,hi,hd,_,_,_,hkd⟩:=(zn hT hr).ex;rw [hk]at hkd;cases d<;>simp only [kdOk]at hkd<;>first|(simp only [Bool.and_eq_true,beq_iff_eq]at hkd;rw [hd,hkd.1,hkd.2])|(exact absurd hkd (by simp))
theorem RelEs.length{w:World}{ok:Nat→Prop}{π:List Value}:∀{es:List (Value×AV)} {ms:List MapEntry},RelEs w ok π es ms→ms.length=es.length
 | _,_,.nil=>rfl
 | _,_,.cons _ t=>by simp [t.length]
theorem zrk{P:Program}{T:Tab}(hT:TabOk P T){X:Nat→Prop}{π:List Value}{objs:List (Option AObj)}{w:World}(m:Mem X π objs w){t ty:TypeId}{az:Array TypeId}{x:AV}{v:Value}
  (hx:RelV w (okOf X π objs) π x v) (ha:az[0]?=some t):PRok P w (okOf X π objs) π (pLen T t objs x) (Builtin.len_ az ty #[v]):=by
 unfold pLen;split
 ·trivial
 ·rename_i r hr;split
  ·rename_i hk;have hu:=z4i hT hr hk;split
   ·cases hx with|d hx=>cases hx with|v _=>
    exact zi rfl (fun w'=>by simp [Builtin.len_,ha,run_underlying hu,goInt])
   ·trivial
  ·rename_i e hk;have hu:=z1c hT hr hk;split
   ·rename_i s xs rd;cases hx with
    | d hx=>cases hx with
     | nil _=>exact zi rfl (fun w'=>by simp [Builtin.len_,ha,run_underlying hu,goInt])
     | sl _ _ _ _ _=>exact zi rfl (fun w'=>by simp [Builtin.len_,ha,run_underlying hu,goInt])
   ·cases hx with|d hx=>cases hx with|v _=>
    exact zi rfl (fun w'=>by simp [Builtin.len_,ha,run_underlying hu,goInt])
   ·cases hx;exact zi rfl (fun w'=>by simp [Builtin.len_,ha,run_underlying hu,goInt])
   ·split
    ·rename_i k e' s xs rd ho;obtain⟨h,hp,hrel⟩:=m.obj _ _ (z2v ho);cases hx with
     | gs hh=>
      rw [hh]at hp;cases hp;cases hrel with
      | gnil=>exact zi rfl (fun w'=>by simp [Builtin.len_,ha,run_underlying hu,goInt])
      | grow _ _ _ _ _ _ _ _=>exact zi rfl (fun w'=>by simp [Builtin.len_,ha,run_underlying hu,goInt])
    ·trivial
   ·trivial
  ·rename_i k e hk;have hu:=zp2 hT hr hk;split
   ·split
    ·rename_i es ho;obtain⟨h,hp,hrel⟩:=m.obj _ _ (z2v ho);cases hx with
     | mp hh=>
      rw [hh]at hp;cases hp;cases hrel with
      | map hb hes=>
       have hl:=hes.length;refine⟨_,.d (.v rfl),fun w' hw=>?_⟩;have hb':=(hw _ (Array.getElem?_eq_some_iff.1 hb).1).trans hb;simp [Builtin.len_,ha,run_underlying hu,goInt,getObj,Sem.run,hb',hl]
    ·trivial
   ·cases hx with|d hx=>cases hx with|v _=>
    exact zi rfl (fun w'=>by simp [Builtin.len_,ha,run_underlying hu,goInt])
   ·trivial
  ·trivial
def pUn(op:UnOp)(x:AV):PR:=
 match x with
 | .d (.v (.int k a))=>match op with
  | .neg=>.ok (vI k (k.wrap (0-a)))
  | .xor=>.ok (vI k (k.wrap (bitI k (if k.signed then -1 else k.max) ^^^ bitI k a).toNat))
  | _=>.no
 | .d (.v (.bool b))=>match op with
  | .not=>.ok (vB (!b))
  | _=>.no
 | _=>.no
theorem zt6{P:Program}{w:World}{ok:Nat→Prop}{π:List Value}{op:UnOp}{x:AV}{v:Value}(hx:RelV w ok π x v):PRok P w ok π (pUn op x) (Op.unary op v):=by
 unfold pUn;split
 ·cases hx with|d hx=>cases hx with|v _=>
  split
  ·exact zi rfl (fun w'=>by simp [Op.unary,Op.intArith])
  ·exact zi rfl (fun w'=>by simp [Op.unary,Op.intBits,bitI])
  ·trivial
 ·cases hx with|d hx=>cases hx with|v _=>
  split
  ·exact zi rfl (fun w'=>by simp [Op.unary])
  ·trivial
 ·trivial
def z2h:D→Bool
 | .v (.int .u8 _)=>true
 | _=>false
def byteD:D→UInt8
 | .v (.int .u8 n)=>UInt8.ofNat n.toNat
 | _=>0
def strD(xs:List D):ByteArray:=⟨(xs.map byteD).toArray⟩
def pConv(T:Tab)(src dst:TypeId)(objs:List (Option AObj))(x:AV):PR:=
 match tlook T src with
 | none=>.no
 | some rs=>match tlook T dst with
  | none=>.no
  | some rd=>match x with
   | .d (.v (.int _ n))=>match rd.kd with
    | .int k=>.ok (vI k (k.wrap n))
    | _=>.no
   | .d (.v (.string s))=>match rd.kd with
    | .str=>.ok (vS s)
    | _=>.no
   | .d (.sl s xs _)=>match rs.kd with
    | .slice e=>match tlook T e with
     | none=>.no
     | some re=>match re.kd with
      | .int .u8=>match rd.kd with
       | .str=>match Nat.beq s 1 with
        | true=>.iff (∀x∈xs,z2h x=true) (vS (strD xs))
        | false=>.no
       | _=>.no
      | _=>.no
    | _=>.no
   | .gs k=>match objAt objs k with
    | some (.grow _ s xs _)=>match rs.kd with
     | .slice e=>match tlook T e with
      | none=>.no
      | some re=>match re.kd with
       | .int .u8=>match rd.kd with
        | .str=>match Nat.beq s 1 with
         | true=>.iff (∀x∈xs,z2h x=true) (vS (strD xs))
         | false=>.no
        | _=>.no
       | _=>.no
     | _=>.no
    | _=>.no
   | _=>.no
theorem z8c{P:Program}{T:Tab}(hT:TabOk P T){t:TypeId}{r:TRow}(hr:tlook T t=some r){k:IntKind}(hk:r.kd=.int k):P.underlying t=some (.int k):=by
 obtain⟨i,d,hi,hd,_,_,_,hkd⟩:=(zn hT hr).ex;rw [hk]at hkd;cases d<;>simp only [kdOk]at hkd<;>first|(rw [hd];congr 2;exact(by simpa using hkd:k=_).symm)|(exact absurd hkd (by simp))
theorem zko{P:Program}{T:Tab}(hT:TabOk P T){t:TypeId}{r:TRow}(hr:tlook T t=some r):∃d,P.underlying t=some d:=by
 obtain⟨i,d,hi,hd,_⟩:=(zn hT hr).ex;exact⟨d,hd⟩
theorem RelE.one{w:World}{ok:Nat→Prop}:∀{xs:List D} {us:List Value},RelE w ok 1 xs us→(∀x∈xs,z2h x=true)→us=xs.map fun x=>.int .u8 (match x with | .v (.int .u8 n)=>n|_=>0)
 | _,_,.nil,_=>rfl
 | _,_,.cons (x:=x) (us:=us) h hl t,hb=>by
  have ih:=t.one (fun x hx=>hb x (by simp [hx]));have hx:=hb x (by simp);cases x<;>try (simp [z2h]at hx;done)
  rename_i v;cases v<;>try (simp [z2h]at hx;done)
  rename_i k n;cases k<;>try (simp [z2h]at hx;done)
  cases h with
  | cons hd _ t'=>
   cases t';cases hd;rw [ih];rfl
def numD:D→Int
 | .v (.int .u8 n)=>n
 | _=>0
theorem zna{x:D}(h:z2h x=true):byteD x=UInt8.ofNat (numD x).toNat:=by
 cases x<;>try (simp [z2h]at h;done)
 rename_i v;cases v<;>try (simp [z2h]at h;done)
 rename_i k n;cases k<;>first|rfl|(simp [z2h]at h;done)
theorem RelE.nums{w:World}{ok:Nat→Prop}:∀{xs:List D} {us:List Value},RelE w ok 1 xs us→(∀x∈xs,z2h x=true)→us=(xs.map numD).map (Value.int .u8)
 | _,_,.nil,_=>rfl
 | _,_,.cons (x:=x) (us:=us) h hl t,hb=>by
  have ih:=t.nums (fun x hx=>hb x (by simp [hx]));have hx:=hb x (by simp);cases x<;>try (simp [z2h]at hx;done)
  rename_i v;cases v<;>try (simp [z2h]at hx;done)
  rename_i k n;cases k<;>try (simp [z2h]at hx;done)
  cases h with
  | cons hd _ t'=>
   cases t';cases hd;rw [ih];rfl
theorem z99{P:Program}{b o c:Nat}{xs:List D}{us:List Value}{w:World}{ok:Nat→Prop}(he:RelE w ok 1 xs us)(hb:∀x∈xs,z2h x=true){w':World}
  (hm:∀i,i<us.length→w'.cell? ⟨b,o+i,none⟩=us[i]?):(Conv.bytesToString (.slice (some ⟨b,o,none⟩) xs.length c)).run P w'=.ok (.string (strD xs)) w':=by
 have h1:=he.nums hb;have hl:=he.length;have hload:(loadCells ⟨b,o,none⟩ xs.length).run P w'=.ok ((xs.map numD).map (Value.int .u8)).toArray w':=by
  have:=z2f (P:=P) (w:=w') (b:=b) (o:=o) us 0 #[] (fun j hj=>by rw [Nat.add_zero];exact hm j hj);rw [hl,Nat.mul_one]at this;rw [←h1];simpa [loadCells]using this
 rw [run_bytesToString w' _ xs.length c _ hload,foldl_push_bytes];have e:(xs.map numD).map (fun n=>UInt8.ofNat n.toNat)=xs.map byteD:=by
  rw [List.map_map];exact List.map_congr_left (fun x hx=>(zna (hb x hx)).symm)
 rw [e];simp [strD,ByteArray.empty,ByteArray.emptyWithCapacity];rfl
theorem zom{P:Program}{T:Tab}(hT:TabOk P T){X:Nat→Prop}{π:List Value}{objs:List (Option AObj)}{w:World}(m:Mem X π objs w){src dst:TypeId}{x:AV}{v:Value}
  (hx:RelV w (okOf X π objs) π x v):PRok P w (okOf X π objs) π (pConv T src dst objs x) (convert src dst v):=by
 unfold pConv;split
 ·trivial
 ·rename_i rs hrs;obtain⟨ds,hds⟩:=zko hT hrs;split
  ·trivial
  ·rename_i rd hrd;split
   ·cases hx with|d hx=>cases hx with|v _=>
    split
    ·rename_i k hk;have hd:=z8c hT hrd hk;exact zi rfl (fun w'=>by simp [convert,run_underlying hds,run_underlying hd,Conv.intToInt])
    ·trivial
   ·cases hx with|d hx=>cases hx with|v _=>
    split
    ·rename_i hk;have hd:=z4i hT hrd hk;exact zi rfl (fun w'=>by simp [convert,run_underlying hds,run_underlying hd])
    ·trivial
   ·rename_i s xs rdr;split
    ·rename_i e hke;have hs:=z1c hT hrs hke;split
     ·trivial
     ·rename_i re hre;split
      ·rename_i hk8;have he:=z8c hT hre hk8;split
       ·rename_i hkd;have hd:=z4i hT hrd hkd;split
        ·rename_i hs1;have hs1':s=1:=by simpa using hs1
         subst hs1';intro hb;cases hx with
         | d hx=>cases hx with
          | nil _=>
           rename_i c A _;refine zi rfl (fun w'=>?_);cases A with
           | none=>
            rw [run_convert_bytes_string w' src dst e _ 0 c hs he hd];simp [Conv.bytesToString,strD,ByteArray.empty,ByteArray.emptyWithCapacity];rfl
           | some a=>
            rw [run_convert_bytes_string w' src dst e _ 0 c hs he hd];rw [run_bytesToString w' a 0 c [] (by simp [loadCells,loadCellsFrom])];simp [strD,ByteArray.empty,ByteArray.emptyWithCapacity];rfl
          | sl hE hm hcap hmax hr=>
           rename_i b o c us;refine⟨_,.d (.v rfl),fun w' hw=>?_⟩;rw [run_convert_bytes_string w' src dst e _ xs.length c hs he hd];exact z99 hE hb (fun i hi=>by
            have:=(hm i hi).2;rw [List.getElem?_eq_getElem hi]at this ⊢;exact hw.cell this)
        ·trivial
       ·trivial
      ·trivial
    ·trivial
   ·rename_i k;split
    ·rename_i e0 s xs rdr ho;split
     ·rename_i e hke;have hs:=z1c hT hrs hke;split
      ·trivial
      ·rename_i re hre;split
       ·rename_i hk8;have he:=z8c hT hre hk8;split
        ·rename_i hkd;have hd:=z4i hT hrd hkd;split
         ·rename_i hs1;have hs1':s=1:=by simpa using hs1
          subst hs1';intro hb;obtain⟨h,hp,hrel⟩:=m.obj _ _ (z2v ho);cases hx with
          | gs hh=>
           rw [hh]at hp;cases hp;cases hrel with
           | gnil=>
            rename_i A;refine zi rfl (fun w'=>?_);cases A with
            | none=>
             rw [run_convert_bytes_string w' src dst e _ 0 0 hs he hd];simp [Conv.bytesToString,strD,ByteArray.empty,ByteArray.emptyWithCapacity];rfl
            | some a=>
             rw [run_convert_bytes_string w' src dst e _ 0 0 hs he hd];rw [run_bytesToString w' a 0 0 [] (by simp [loadCells,loadCellsFrom])];simp [strD,ByteArray.empty,ByteArray.emptyWithCapacity];rfl
           | grow hb2 hz hE hu hc2 hm2 ho2 hr2=>
            rename_i b o c us vs fz;refine⟨_,.d (.v rfl),fun w' hw=>?_⟩;rw [run_convert_bytes_string w' src dst e _ xs.length _ hs he hd];exact z99 hE hb (fun i hi=>by
             have h1:=hu i hi;have h2:=(cell_of_heap (i:=o+i) hb2).trans h1;rw [List.getElem?_eq_getElem hi]at h2 ⊢;exact hw.cell h2)
         ·trivial
        ·trivial
       ·trivial
     ·trivial
    ·trivial
   ·trivial
def zdk(i:Nat)(x:AV):PR:=
 match x with
 | .tp cs=>match nth cs i with
  | some a=>.ok a
  | none=>.no
 | _=>.no
theorem zgl{P:Program}{w:World}{ok:Nat→Prop}{π:List Value}{i:Nat}{x:AV}{v:Value}(hx:RelV w ok π x v):PRok P w ok π (zdk i x) (Instr.extract v i):=by
 unfold zdk;split
 ·rename_i cs;split
  ·rename_i a ha;cases hx with
   | tp h=>
    obtain⟨u,h1,h2⟩:=h.get ha;exact⟨u,h2,fun w' _=>by simp [Instr.extract,h1]⟩
  ·trivial
 ·trivial
def ifcOf(t:TypeId)(x:AV):AV:=match x with | .d y=>.d (.ifc t y)|y=>.ifc t y
def zlg(T:Tab)(t:TypeId)(x:AV):PR:=
 match tlook T t with
 | none=>.no
 | some r=>match r.kd with
  | .iface _=>.no
  | .other=>.no
  | _=>.ok (ifcOf t x)
theorem zlf{P:Program}{T:Tab}(hT:TabOk P T){w:World}{ok:Nat→Prop}{π:List Value}{t:TypeId}{x:AV}{v:Value}(hx:RelV w ok π x v):PRok P w ok π (zlg T t x) (Instr.makeInterface t v):=by
 unfold zlg;split
 ·trivial
 ·rename_i r hr;obtain⟨i,d,hi,hd,_,_,_,hkd⟩:=(zn hT hr).ex;split
  ·trivial
  ·trivial
  ·rename_i h1 h2;have hrun:∀w',(Instr.makeInterface t v).run P w'=.ok (.iface t v) w':=by
    intro w';cases d<;>simp [Instr.makeInterface,run_underlying hd];rename_i ms;cases hk:r.kd<;>simp [hk,kdOk]at hkd;exact h1 _ hk
   refine⟨_,?_,fun w' _=>hrun w'⟩;unfold ifcOf;split
   ·cases hx with|d hx=>exact .d (.ifc hx)
   ·exact .ifc hx
def pNil(x:AV):PR:=
 match x with
 | .ptr i o=>.ok (.ptr i o)
 | .ro cs=>.ok (.ro cs)
 | .ge i s j o=>.ok (.ge i s j o)
 | .fn (.func f) cs=>.ok (.fn (.func f) cs)
 | .d (.v (.func (.func f) a b))=>.ok (.d (.v (.func (.func f) a b)))
 | .ifc t y=>.ok (.ifc t y)
 | .d (.ifc t y)=>.ok (.d (.ifc t y))
 | _=>.no
def putAt:List AV→Nat→List AV→Option (List AV)
 | cs,_,[]=>some cs
 | cs,off,u::us=>match nth cs off with
  | none=>none
  | some _=>putAt (za cs off u) (off+1) us
def lenIs{α:Type}:List α→Nat→Bool
 | [],0=>true
 | _::r,n+1=>lenIs r n
 | _,_=>false
theorem z5p{α:Type}:∀{l:List α} {n:Nat},lenIs l n=true→l.length=n
 | [],0,_=>rfl
 | _::r,n+1,h=>by simp only [lenIs]at h;simp [z5p h]
 | [],n+1,h=>by simp [lenIs]at h
 | _::_,0,h=>by simp [lenIs]at h
def bFill(fs:List Fld):List AV→List (Nat×AV)→Option (List AV)
 | cs,[]=>some cs
 | cs,(i,a)::r=>match nth fs i with
  | none=>none
  | some fl=>match a.cells with
   | []=>none
   | u::us=>match lenIs (u::us) fl.size with
    | true=>match putAt cs fl.off (u::us)with
     | some cs'=>bFill fs cs' r
     | none=>none
    | false=>none
def solid:AV→Bool
 | .dead=>false
 | .tp _=>false
 | .und=>false
 | .orc _=>false
 | _=>true
def z77:List (Nat×AV)→Bool
 | []=>true
 | (_,a)::r=>match solid a with|true=>z77 r|false=>false
def arrF(s:Nat):Nat→Nat→List Fld
 | 0,_=>[]
 | n+1,o=>{ off:=o,size:=s,agg:=false }::arrF s n (o+s)
theorem ziv{s:Nat}:∀{n o i:Nat} {fl:Fld},nth (arrF s n o) i=some fl→fl.off=o+i*s∧fl.size=s
 | 0,_,_,_,h=>by simp [arrF,nth]at h
 | n+1,o,0,fl,h=>by
  simp only [arrF,nth,Option.some.injEq]at h;subst h;simp
 | n+1,o,i+1,fl,h=>by
  simp only [arrF,nth]at h;obtain⟨h1,h2⟩:=ziv h;exact⟨by rw [h1,Nat.add_mul,Nat.one_mul];omega,h2⟩
def zlk(T:Tab)(t:TypeId)(parts:List (Nat×AV)):PR:=
 match tlook T t with
 | none=>.no
 | some r=>match r.kd with
  | .struct fs=>match z77 parts with
   | true=>match bFill fs (r.zero.map fun v=>.d (.v v)) parts with
    | some cs=>.ok (mkAg cs)
    | none=>.no
   | false=>.no
  | .array n e=>match tlook T e with
   | none=>.no
   | some re=>match z77 parts with
    | true=>match bFill (arrF re.size n 0) (r.zero.map fun v=>.d (.v v)) parts with
     | some cs=>.ok (mkAg cs)
     | none=>.no
    | false=>.no
  | _=>.no
theorem z8m{w:World}{ok:Nat→Prop}{π:List Value}{a:AV}{v:Value}(h:RelV w ok π a v)(hs:solid a=true):RelVs w ok π a.cells v.cells.toList∧∀u∈v.cells.toList,flat u=true:=by
 cases h with
 | d h=>
  cases h with
  | v hf=>
   have e:v.cells.toList=[v]:=by cases v<;>first|rfl|(simp [flat]at hf)
   rw [e];exact⟨.cons (.d (.v hf)) .nil,by simpa using hf⟩
  | nil hb=>exact⟨.cons (.d (.nil hb)) .nil,by simp [Value.cells,flat]⟩
  | sl a1 a2 a3 a4 a5=>exact⟨.cons (.d (.sl a1 a2 a3 a4 a5)) .nil,by simp [Value.cells,flat]⟩
  | ag h=>exact⟨by simpa [AV.cells,Value.cells]using h.toVs,by simpa [Value.cells]using h.flat⟩
  | ifc h=>exact⟨.cons (.d (.ifc h)) .nil,by simp [Value.cells,flat]⟩
 | ro h hm=>exact⟨.cons (.ro h hm) .nil,by simp [Value.cells,flat]⟩
 | ptr h=>exact⟨.cons (.ptr h) .nil,by simp [Value.cells,flat]⟩
 | gs h=>exact⟨.cons (.gs h) .nil,by simp [Value.cells,flat]⟩
 | ge h=>exact⟨.cons (.ge h) .nil,by simp [Value.cells,flat]⟩
 | mp h=>exact⟨.cons (.mp h) .nil,by simp [Value.cells,flat]⟩
 | e0=>exact⟨.cons .e0 .nil,by simp [Value.cells,flat]⟩
 | lit=>exact⟨.cons .lit .nil,by simp [Value.cells,flat]⟩
 | und=>simp [solid]at hs
 | orc=>simp [solid]at hs
 | ag h hf=>exact⟨by simpa [AV.cells,Value.cells]using h,by simpa [Value.cells]using hf⟩
 | tp h=>simp [solid]at hs
 | fn h=>exact⟨.cons (.fn h) .nil,by simp [Value.cells,flat]⟩
 | ifc h=>exact⟨.cons (.ifc h) .nil,by simp [Value.cells,flat]⟩
 | dead=>simp [solid]at hs
def setsL:List Value→Nat→List Value→List Value
 | ws,_,[]=>ws
 | ws,off,u::us=>setsL (ws.set off u) (off+1) us
theorem z3f:∀(us ws:List Value) (off:Nat),(setsL ws off us).length=ws.length
 | [],_,_=>rfl
 | _::us,ws,off=>by simp [setsL,z3f us]
theorem za6:∀(us ws:List Value) (off:Nat),(∀v∈ws,flat v=true)→(∀v∈us,flat v=true)→∀v∈setsL ws off us,flat v=true
 | [],ws,off,h,_=>by simpa [setsL]using h
 | u::us,ws,off,h,k=>by
  simp only [setsL];refine za6 us _ _ (fun v hv=>?_) (fun v hv=>k v (by simp [hv]));rcases List.mem_or_eq_of_mem_set hv with hv|rfl
  ·exact h v hv
  ·exact k _ (by simp)
theorem za7(off:Nat):∀(us:List Value) (k:Nat) (cells:Array Value),(us.zipIdx k).foldl (fun cs (x:Value×Nat)=>cs.setIfInBounds (off+x.2) x.1) cells=(setsL cells.toList (off+k) us).toArray
 | [],_,_=>by simp [setsL]
 | u::us,k,cells=>by
  rw [List.zipIdx_cons,List.foldl_cons,za7 off us (k+1)];simp [setsL,Nat.add_assoc]
theorem zan{w:World}{ok:Nat→Prop}{π:List Value}:∀{us:List AV} {vs:List Value} (_:RelVs w ok π us vs) {cs:List AV} {ws:List Value} (_:RelVs w ok π cs ws) {off:Nat} {cs':List AV},putAt cs off us=some cs' →
  RelVs w ok π cs' (setsL ws off vs)∧(us≠[]→off+us.length≤cs.length)
 | _,_,.nil,cs,ws,hc,off,cs',h=>by
  simp only [putAt,Option.some.injEq]at h;subst h;exact⟨hc,fun h=>absurd rfl h⟩
 | _,_,.cons (xs:=us) hv ht,cs,ws,hc,off,cs',h=>by
  simp only [putAt]at h;split at h
  ·cases h
  ·rename_i x hx;obtain⟨h1,h2⟩:=zan ht (hc.set off hv) h;refine⟨h1,fun _=>?_⟩;have:=z1r hx;rw [z2u]at h2;cases us with
   | nil=>simp;omega
   | cons a r=>
    have:=h2 (by simp);simp only [List.length_cons]at this ⊢;omega
inductive RelPs(w:World)(ok:Nat→Prop)(π:List Value):List (Nat×AV)→List (Nat×Value)→Prop
 |nil:RelPs w ok π [] []
 |cons {i:Nat} {a:AV} {v:Value} {xs:List (Nat×AV)} {vs:List (Nat×Value)} (h:RelV w ok π a v) (t:RelPs w ok π xs vs):RelPs w ok π ((i,a)::xs) ((i,v)::vs)
theorem z90{w:World}{ok:Nat→Prop}{π:List Value}{fs:List Fld}{places:Nat→Option (Nat×Nat)}(hp:∀n fl,nth fs n=some fl→places n=some (fl.off,fl.size)):
  ∀{parts:List (Nat×AV)} {ps:List (Nat×Value)} (_:z77 parts=true) (_:RelPs w ok π parts ps) {cs cs':List AV} {ws:List Value} (_:RelVs w ok π cs ws) (_:∀v∈ws,flat v=true),bFill fs cs parts=some cs' →
   ∃ws',Instr.fill places ws.toArray ps=some ws'.toArray∧RelVs w ok π cs' ws'∧∀v∈ws',flat v=true
 | [],_,_,.nil,cs,cs',ws,hc,hf,h=>by
  simp only [bFill,Option.some.injEq]at h;subst h;exact⟨ws,by simp [Instr.fill],hc,hf⟩
 | (i,a)::parts,_,hs,.cons (v:=v) hav ht,cs,cs',ws,hc,hf,h=>by
  simp only [z77]at hs;split at hs
  ·rename_i hsol;obtain⟨hcells,hfl⟩:=z8m hav hsol;simp only [bFill]at h;split at h
   ·cases h
   ·rename_i fl hfl';split at h
    ·cases h
    ·rename_i u us hu;split at h
     ·rename_i hlen;have hlen:=z5p hlen;split at h
      ·rename_i cs1 hput;rw [←hu]at hput hlen;obtain⟨h1,h2⟩:=zan hcells hc hput;have hle:=h2 (by rw [hu];simp);have hvl:v.cells.size=fl.size:=by
        have:=hcells.length;rw [hlen]at this;simpa using this
       have hcl:=hc.length;obtain⟨ws',e1,e2,e3⟩:=z90 hp hs ht h1 (za6 _ _ _ hf hfl) h;refine⟨ws',?_,e2,e3⟩;simp only [Instr.fill,hp _ _ hfl'];rw [if_neg (by simp [hvl];omega)];rw [←e1];congr 1;have:=za7 fl.off v.cells.toList 0 ws.toArray;simp only [Nat.add_zero]at this;rw [←this,←Array.foldl_toList];simp
      ·cases h
     ·cases h
  ·cases hs
theorem znj{P:Program}{w:World}{ok:Nat→Prop}{π:List Value}{fs:List Fld}{gs:List Field}(hfs:z5b P fs gs=true){places:Nat→Option (Nat×Nat)}
  (hp:∀n g i,gs[n]?=some g→P.info? g.type=some i→places n=some (g.offset,i.size))
  {parts:List (Nat×AV)} {ps:List (Nat×Value)} (hs:z77 parts=true) (ht:RelPs w ok π parts ps) {cs cs':List AV} {ws:List Value} (hc:RelVs w ok π cs ws) (hf:∀v∈ws,flat v=true) (h:bFill fs cs parts=some cs') :
   ∃ws',Instr.fill places ws.toArray ps=some ws'.toArray∧RelVs w ok π cs' ws'∧∀v∈ws',flat v=true:=
 z90 (fun n fl h=>by
  obtain⟨g,inf,hg,hoff,hi,hsz,_⟩:=z9v hfs h;rw [hp _ _ _ hg hi,hoff,hsz]) hs ht hc hf h
def z6t(P:Program)(gs:List Field):List (Nat×Nat):=gs.map fun g=>(g.offset,((P.info? g.type).map (·.size)).getD 0)
theorem zfl{P:Program}:∀{fs:List Fld} {gs:List Field} (_:z5b P fs gs=true),∀g∈gs,∃i,P.info? g.type=some i
 | [],[],_,g,h=>by simp at h
 | [],_::_,h,_,_=>by simp [z5b]at h
 | _::_,[],h,_,_=>by simp [z5b]at h
 | f::fs,g::gs,h,x,hx=>by
  simp only [z5b,Bool.and_eq_true]at h;rcases List.mem_cons.1 hx with rfl|hx
  ·have h2:=h.1.1.1.2;split at h2
   ·rename_i i hi;exact⟨i,hi⟩
   ·cases h2
  ·exact zfl h.2 x hx
theorem z98{P:Program}(w:World):∀{gs:List Field} (_:∀g∈gs,∃i,P.info? g.type=some i),(gs.mapM fun f=>(Prod.mk f.offset <$> Go.sizeOf f.type:Sem (Nat×Nat))).run P w=.ok (z6t P gs) w
 | [],_=>by simp [z6t]
 | g::gs,h=>by
  obtain⟨i,hi⟩:=h g (by simp);have ih:=z98 w (gs:=gs) (fun x hx=>h x (by simp [hx]));simp [List.mapM_cons,z52 hi,ih,z6t,hi]
theorem z5w{w:World}{ok:Nat→Prop}{π:List Value}:∀(l:List Value),(∀v∈l,flat v=true)→RelVs w ok π (l.map fun v=>.d (.v v)) l
 | [],_=>.nil
 | v::l,h=>.cons (.d (.v (h v (by simp)))) (z5w l fun u hu=>h u (by simp [hu]))
theorem za2:∀{a b:List Value},vseq a b=true→∀v∈a,flat v=true
 | [],_,_,v,hv=>by simp at hv
 | a::r,[],h,_,_=>by simp [vseq]at h
 | a::r,b::s,h,v,hv=>by
  simp only [vseq,Bool.and_eq_true]at h;rcases List.mem_cons.1 hv with rfl|hv
  ·have:=h.1;unfold veq at this;split at this<;>first|rfl|cases this
  ·exact za2 h.2 v hv
theorem RowOk.zero{P:Program}{t:TypeId}{r:TRow}(h:RowOk P t r):∃z,(∀w,(zeroValue t).run P w=.ok z w)∧z.cells.toList=r.zero∧(∀v∈r.zero,flat v=true)∧(r.isAgg=true→z=.agg r.zero.toArray)∧(r.isAgg=false→r.zero=[z]):=by
 obtain⟨i,d,hi,hd,_,_,hz,_⟩:=h.ex;unfold zk9 at hz;split at hz
 ·rename_i cs he;simp only [Bool.and_eq_true]at hz;have:=zg2 hz.2;refine⟨.agg cs,fun w=>by simp [zeroValue,run_typeInfo w hi,Result.andThen,he],by simp [Value.cells,this],za2 hz.2,fun _=>by rw [this],fun h=>by rw [hz.1]at h;cases h⟩
 ·rename_i v hne he;simp only [Bool.and_eq_true,Bool.not_eq_true']at hz;have e:=zg2 hz.2;have hf:=za2 hz.2;refine⟨v,fun w=>by simp [zeroValue,run_typeInfo w hi,Result.andThen,he],?_,hf,(fun h=>by rw [hz.1]at h;cases h),fun _=>e⟩;rw [e];have:flat v=true:=hf v (by rw [e];simp);cases v<;>first|rfl|(simp [flat]at this)
 ·cases hz
theorem zlj{P:Program}{T:Tab}(hT:TabOk P T){w:World}{ok:Nat→Prop}{π:List Value}{t:TypeId}{parts:List (Nat×AV)}{ps:List (Nat×Value)}(hp:RelPs w ok π parts ps):
  PRok P w ok π (zlk T t parts) (Instr.build t ps.toArray):=by
 unfold zlk;split
 ·trivial
 ·rename_i r hr;split
  ·rename_i fs hk;obtain⟨gs,hgs,hfo⟩:=z5i hT hr hk;split
   ·rename_i hsol;split
    ·rename_i cs hcs;obtain⟨z,hz1,hz2,hz3,hz4,_⟩:=(zn hT hr).zero;have hagg:r.isAgg=true:=by simp [TRow.isAgg,hk]
     have hzz:=hz4 hagg;subst hzz;have hinfo:=zfl hfo;have hpl:∀(n:Nat) (g:Field) (i:TypeInfo),gs.toList[n]?=some g→P.info? g.type=some i→(z6t P gs.toList)[n]?=some (g.offset,i.size):=by
      intro n g i h1 h2;simp only [z6t,List.getElem?_map,h1,Option.map_some,h2,Option.getD_some]
     obtain⟨ws',e1,e2,e3⟩:=znj hfo hpl hsol hp (z5w r.zero hz3) hz3 hcs;refine⟨_,z9t e2 e3,fun w' _=>?_⟩;have hplaces:=z98 (P:=P) w' hinfo;have e1':Instr.fill (fun x=>(z6t P gs.toList)[x]?) r.zero.toArray ps=some ws'.toArray:=e1;simp [Instr.build,hz1,run_underlying hgs,Array.mapM_eq_mapM_toList,hplaces,Value.cells,e1']
    ·trivial
   ·trivial
  ·rename_i n e hk;have hgs:=zcu hT hr hk;split
   ·trivial
   ·rename_i re hre;split
    ·rename_i hsol;split
     ·rename_i cs hcs;obtain⟨z,hz1,hz2,hz3,hz4,_⟩:=(zn hT hr).zero;have hagg:r.isAgg=true:=by simp [TRow.isAgg,hk]
      have hzz:=hz4 hagg;subst hzz;have hsz:=(zn hT hre).sizeOf;obtain⟨ws',e1,e2,e3⟩:=z90 (places:=fun i=>some (i*re.size,re.size)) (fun m fl h=>by
       obtain⟨h1,h2⟩:=ziv h;rw [h1,h2,Nat.zero_add]) hsol hp (z5w r.zero hz3) hz3 hcs
      refine⟨_,z9t e2 e3,fun w' _=>?_⟩;simp [Instr.build,hz1,run_underlying hgs,hsz,Value.cells,e1]
     ·trivial
    ·trivial
  ·trivial
end Ab
namespace Ab
open Go
abbrev Env:=List (Nat×AV)
def look:Env→Nat→Option AV
 | [],_=>none
 | (k,a)::r,t=>match Nat.beq k t with|true=>some a|false=>look r t
def ze3:List Value→Bool
 | []=>true
 | v::r=>match flat v with|true=>ze3 r|false=>false
theorem zbb:∀{l:List Value},ze3 l=true→∀v∈l,flat v=true
 | [],_,v,h=>by simp at h
 | u::r,h,v,hv=>by
  simp only [ze3]at h;split at h
  ·rename_i hu;rcases List.mem_cons.1 hv with rfl|hv
   ·exact hu
   ·exact zbb h v hv
  ·cases h
def zh8(v:Value):Option AV:=
 match v with
 | .agg ⟨cs⟩=>match ze3 cs with|true=>some (.d (.ag (cs.map .v)))|false=>none
 | .tuple _=>none
 | v=>some (.d (.v v))
def opnd(env:Env):Operand→Option AV
 | .tmp t=>match look env t with
  | some (.lit b)=>some (.d (.v (.bool b)))
  | some .und=>none
  | some (.orc _)=>none
  | x=>x
 | .const v=>zh8 v
 | .global _=>none
 | .func f=>some (.d (.v (.func (.func f) #[] #[])))
def opnds(env:Env):List Operand→Option (List AV)
 | []=>some []
 | x::r=>match opnd env x with
  | none=>none
  | some a=>match opnds env r with
   | none=>none
   | some l=>some (a::l)
def opndO(env:Env):Option Operand→Option (Option AV)
 | none=>some none
 | some x=>match opnd env x with
  | none=>none
  | some a=>some (some a)
def parts(env:Env):List (Nat×Operand)→Option (List (Nat×AV))
 | []=>some []
 | (i,x)::r=>match opnd env x with
  | none=>none
  | some a=>match parts env r with
   | none=>none
   | some l=>some ((i,a)::l)
def z13(w:World)(ok:Nat→Prop)(π:List Value)(env:Env)(tmps:Array Value):Prop:=∀t a,look env t=some a→RelV w ok π a (tmps.getD t undef)
section
variable {P:Program}{w:World}{ok:Nat→Prop}{π:List Value}{env:Env}{tmps:Array Value}{ds:List Deferred}
theorem zn7{v:Value}{a:AV}(h:zh8 v=some a):RelV w ok π a v:=by
 unfold zh8 at h;split at h
 ·rename_i cs;split at h
  ·rename_i hf;cases h;have hm:=zbb hf;have:∀l:List Value,(∀v∈l,flat v=true)→RelL w ok (l.map .v) l:=by
    intro l;induction l with
    | nil=>intro _;exact .nil
    | cons a r ih=>intro h;exact .cons (.v (h a (by simp))) (h a (by simp)) (ih fun v hv=>h v (by simp [hv]))
   exact .d (.ag (this cs hm))
  ·cases h
 ·cases h
 ·rename_i h1 h2;cases h;refine .d (.v ?_);cases v<;>first|rfl|(rename_i c;cases c;exact absurd rfl (h1 _))|exact absurd rfl (h2 _)
theorem zf(he:z13 w ok π env tmps){x:Operand}{a:AV}(h:opnd env x=some a):RelV w ok π a (Act.eval ⟨tmps,ds⟩ x):=by
 cases x with
 | tmp t=>
  simp only [opnd]at h;split at h
  ·rename_i b hb;cases h;have:=he t _ hb;revert this;simp only [Act.eval];generalize tmps.getD t undef=v;intro h;cases h;exact .d (.v rfl)
  ·cases h
  ·cases h
  ·exact he t a h
 | const v=>exact zn7 h
 | global g=>cases h
 | func f=>cases h;exact .d (.v rfl)
theorem z3h(he:z13 w ok π env tmps):∀{xs:List Operand} {az:List AV},opnds env xs=some az→RelVs w ok π az (xs.map (Act.eval ⟨tmps,ds⟩))
 | [],az,h=>by simp only [opnds,Option.some.injEq]at h;subst h;exact .nil
 | x::r,az,h=>by
  simp only [opnds]at h;split at h
  ·cases h
  ·rename_i a ha;split at h
   ·cases h
   ·rename_i l hl;cases h;exact .cons (zf he ha) (z3h he hl)
theorem z57(he:z13 w ok π env tmps){x:Option Operand}{a:Option AV}(h:opndO env x=some a):zbp w ok π a (x.map (Act.eval ⟨tmps,ds⟩)):=by
 cases x with
 | none=>simp only [opndO,Option.some.injEq]at h;subst h;trivial
 | some x=>
  simp only [opndO]at h;split at h
  ·cases h
  ·rename_i b hb;cases h;exact zf he hb
theorem z6c(he:z13 w ok π env tmps):∀{xs:List (Nat×Operand)} {az:List (Nat×AV)},parts env xs=some az→RelPs w ok π az (xs.map fun p=>(p.1,Act.eval ⟨tmps,ds⟩ p.2))
 | [],az,h=>by simp only [parts,Option.some.injEq]at h;subst h;exact .nil
 | (i,x)::r,az,h=>by
  simp only [parts]at h;split at h
  ·cases h
  ·rename_i a ha;split at h
   ·cases h
   ·rename_i l hl;cases h;exact .cons (zf he ha) (z6c he hl)
end
inductive NilK where
 |yes|no|dunno
def nilK(k:TK)(x:AV):NilK:=
 match k with
 | .iface _=>match x with | .ifc _ _=>.no | .d (.ifc _ _)=>.no | .d (.v .nilIface)=>.yes|_=>.dunno
 | .func=>match x with | .fn _ _=>.no | .d (.v (.func _ _ _))=>.no | .d (.v .nilFunc)=>.yes|_=>.dunno
 | .ptr=>match x with | .ptr _ _=>.no | .ge _ _ _ _=>.no | .ro _=>.no | .d (.v (.pointer none))=>.yes|_=>.dunno
 | .slice _=>match x with | .d (.v (.slice none 0 0))=>.yes|_=>.dunno
 | _=>.dunno
def isC:Operand→Bool
 | .const _=>true
 | _=>false
def zla(T:Tab)(op:BinOp)(t:TypeId)(xc yc:Bool)(x y:AV):PR:=
 match tlook T t with
 | none=>.no
 | some r=>match xc||yc with
  | false=>.no
  | true=>match nilK r.kd x with
   | .dunno=>.no
   | .yes=>match nilK r.kd y with
    | .dunno=>.no
    | .yes=>match op with | .eql=>.ok (vB true) | .neq=>.ok (vB false)|_=>.no
    | .no=>match op with | .eql=>.ok (vB false) | .neq=>.ok (vB true)|_=>.no
   | .no=>match nilK r.kd y with
    | .yes=>match op with | .eql=>.ok (vB false) | .neq=>.ok (vB true)|_=>.no
    | _=>.no
end Ab
namespace Ab
open Go
theorem zew{P:Program}{w:World}{t:TypeId}{a b:Value}{r:Bool}(h:∀d,(Op.equalIn (d+1) t a b).run P w=.ok r w):(Op.equal t a b).run P w=.ok r w:=h 9999
def z3o:TK→Value→Prop
 | .iface _,v=>v=.nilIface
 | .func,v=>v=.nilFunc
 | .ptr,v=>v=.pointer none
 | .slice _,v=>v=.slice none 0 0
 | _,_=>False
def z4u:TK→Value→Prop
 | .iface _,v=>∃t u,v=.iface t u
 | .func,v=>∃f a b,v=.func f a b
 | .ptr,v=>∃a,v=.pointer (some a)
 | _,_=>False
theorem zdo{w:World}{ok:Nat→Prop}{π:List Value}{k:TK}{x:AV}{v:Value}(h:nilK k x=.yes)(hx:RelV w ok π x v):z3o k v:=by
 unfold nilK at h;split at h<;>(try split at h)<;>first|(cases h;done)|(cases hx with|d hx=>cases hx with|v _=>rfl)
theorem zlw{w:World}{ok:Nat→Prop}{π:List Value}{k:TK}{x:AV}{v:Value}(h:nilK k x=.no)(hx:RelV w ok π x v):z4u k v:=by
 unfold nilK at h;split at h<;>(try split at h)<;>first|(cases h;done)|(cases hx with|d hx=>cases hx with|v _=>exact⟨_,_,_,rfl⟩)|(cases hx with|d hx=>cases hx with|ifc _=>exact⟨_,_,rfl⟩)|(cases hx;exact⟨_,_,rfl⟩)|(cases hx;exact⟨_,_,_,rfl⟩)|(cases hx;exact⟨_,rfl⟩)
def kdTy(P:Program)(t:TypeId):TK→Prop
 | .iface _=>∃ms,P.underlying t=some (.interface ms)
 | .func=>∃a b c,P.underlying t=some (.func a b c)
 | .ptr=>∃e,P.underlying t=some (.pointer e)
 | .slice e=>P.underlying t=some (.slice e)
 | _=>True
theorem zs0{P:Program}{T:Tab}(hT:TabOk P T){t:TypeId}{r:TRow}(hr:tlook T t=some r):kdTy P t r.kd:=by
 obtain⟨i,d,hi,hd,_,_,_,hkd⟩:=(zn hT hr).ex;cases hk:r.kd<;>rw [hk]at hkd<;>first
  |trivial
  |(cases d<;>first|exact⟨_,hd⟩|exact⟨_,_,_,hd⟩|(simp only [kdOk,beq_iff_eq]at hkd;subst hkd;exact hd)|(exact absurd hkd (by simp [kdOk])))
theorem zte{P:Program}{t:TypeId}{k:TK}(hk:kdTy P t k){a b:Value}{r:Bool}(h:(z3o k a∧z3o k b∧r=true)∨(z3o k a∧z4u k b∧r=false)∨(z4u k a∧z3o k b∧r=false))(w:World):
  (Op.equal t a b).run P w=.ok r w:=by
 refine zew fun d=>?_;cases k<;>simp only [z3o,z4u,kdTy,false_and,or_self,false_or,and_false]at h hk;case ptr=>
  obtain⟨e,he⟩:=hk;rcases h with⟨rfl,rfl,rfl⟩|⟨rfl,⟨x,rfl⟩,rfl⟩|⟨⟨x,rfl⟩,rfl,rfl⟩<;>simp [Op.equalIn,run_underlying he]
 case slice=>
  rcases h with⟨rfl,rfl,rfl⟩|h
  ·simp [Op.equalIn,run_underlying hk]
  ·simp at h
 case iface=>
  obtain⟨ms,he⟩:=hk;rcases h with⟨rfl,rfl,rfl⟩|⟨rfl,⟨x,y,rfl⟩,rfl⟩|⟨⟨x,y,rfl⟩,rfl,rfl⟩<;>simp [Op.equalIn,run_underlying he]
 case func=>
  obtain⟨a',b',c',he⟩:=hk;rcases h with⟨rfl,rfl,rfl⟩|⟨rfl,⟨x,y,z,rfl⟩,rfl⟩|⟨⟨x,y,z,rfl⟩,rfl,rfl⟩<;>simp [Op.equalIn,run_underlying he]
def zdn(v:Value):Prop:=match v with | .int _ _ | .float _ _ | .complex _ _ _ | .string _=>False|_=>True
theorem znh{t:TypeId}{a b:Value}(h:zdn a):binOp .eql t a b=(do pure (.bool (←Op.equal t a b))):=by
 cases a<;>first|exact h.elim|(cases b<;>rfl)
theorem zng{t:TypeId}{a b:Value}(h:zdn a):binOp .neq t a b=(do pure (.bool (!(←Op.equal t a b)))):=by
 cases a<;>first|exact h.elim|(cases b<;>rfl)
theorem zfk{P:Program}{op:BinOp}{t:TypeId}{xo yo:Operand}{a b:Value}(hc:(isC xo||isC yo)=true)(ha:∀cs,a≠.agg cs)(w:World):(eqGuard op t xo yo a b).run P w=.ok () w:=by
 unfold eqGuard;cases op<;>simp;all_goals
  cases a<;>cases b<;>simp
  ·cases xo<;>cases yo<;>simp_all [isC]
  ·exact absurd rfl (ha _)
def pMax(isMax:Bool)(x y:AV):PR:=
 match x with
 | .d (.v (.int k a))=>match y with
  | .d (.v (.int _ b))=>match isMax with
   | true=>.ok (vI k (max a b))
   | false=>.ok (vI k (min a b))
  | _=>.no
 | _=>.no
def litB(env:Env):Operand→Option Bool
 | .tmp t=>match look env t with
  | some (.lit b)=>some b
  | _=>none
 | _=>none
theorem zp6{w:World}{ok:Nat→Prop}{π:List Value}{env:Env}{tmps:Array Value}{ds:List Deferred}(he:z13 w ok π env tmps){c:Operand}{b:Bool}(h:litB env c=some b):Act.eval ⟨tmps,ds⟩ c=.bool b:=by
 unfold litB at h;split at h
 ·split at h
  ·rename_i t _ b' hb;cases h;have:=he t _ hb;revert this;simp only [Act.eval];generalize tmps.getD t undef=v;intro h;cases h;rfl
  ·cases h
 ·cases h
def pCall(T:Tab)(env:Env)(objs:List (Option AObj))(c:Call):PR:=
 match c.callee with
 | .builtin b=>match c.args with
  | ⟨args⟩=>match opnds env args with
   | none=>.no
   | some az=>match b with
    | .len=>match az with
     | [x]=>match c.argTypes with
      | ⟨t::_⟩=>pLen T t objs x
      | _=>.no
     | _=>.no
    | .max=>match az with
     | [x,y]=>pMax true x y
     | _=>.no
    | .min=>match az with
     | [x,y]=>pMax false x y
     | _=>.no
    | _=>.no
 | _=>.no
def pstep(T:Tab)(o:Oper)(env:Env)(objs:List (Option AObj)):PR:=
 match o.op with
 | .move x=>match opnd env x with|some a=>.ok a|none=>.no
 | .assign x=>match opnd env x with|some a=>.ok a|none=>.no
 | .binOp op t x y _=>match opnd env x with
  | none=>.no
  | some a=>match opnd env y with
   | none=>.no
   | some b=>match pBin T op t a b with
    | .ok r=>.ok r
    | .iff c r=>.iff c r
    | .no=>zla T op t (isC x) (isC y) a b
 | .unOp op _ x=>match opnd env x with|some a=>pUn op a|none=>.no
 | .convert s d x=>match opnd env x with|some a=>pConv T s d objs a|none=>.no
 | .makeInterface t x=>match opnd env x with|some a=>zlg T t a|none=>.no
 | .makeFunc fn ⟨first⟩ ⟨caps⟩=>match first with
  | []=>match opnds env caps with
   | none=>.no
   | some az=>match az with
    | []=>.ok (.d (.v (.func fn #[] #[])))
    | _::_=>.ok (.fn fn az)
  | _::_=>.no
 | .slice t x lo hi mx=>match opnd env x with
  | none=>.no
  | some a=>match opndO env lo with
   | none=>.no
   | some l=>match opndO env hi with
    | none=>.no
    | some h=>match opndO env mx with
     | none=>.no
     | some m=>zl8 T t a l h m
 | .fieldAddr t x f=>match opnd env x with|some a=>z8t T t f a|none=>.no
 | .field t x f=>match opnd env x with|some a=>zli T t f a|none=>.no
 | .indexAddr t x i=>match opnd env x with
  | none=>.no
  | some a=>match opnd env i with|some b=>z56 T t objs a b|none=>.no
 | .index t x i=>match opnd env x with
  | none=>.no
  | some a=>match opnd env i with|some b=>zle T t a b|none=>.no
 | .load t x=>match opnd env x with|some a=>pLoad T t objs a|none=>.no
 | .nilCheck x=>match opnd env x with|some a=>pNil a|none=>.no
 | .build t ⟨ps⟩=>match parts env ps with|some az=>zlk T t az|none=>.no
 | .extract x i=>match opnd env x with|some a=>zdk i a|none=>.no
 | .pick c x y=>match litB env c with
  | none=>.no
  | some b=>match b with
   | true=>match opnd env x with|some a=>.ok a|none=>.no
   | false=>match opnd env y with|some a=>.ok a|none=>.no
 | .call c=>pCall T env objs c
 | _=>.no
def Does(P:Program)(w:World)(ok:Nat→Prop)(π:List Value)(a:AV)(s:Sem Next):Prop:=
 ∃v,RelV w ok π a v∧∀w',Ext w w'→s.run P w'=.ok (.value v) w'
def PRdoes(P:Program)(w:World)(ok:Nat→Prop)(π:List Value):PR→Sem Next→Prop
 | .ok a,s=>Does P w ok π a s
 | .iff c a,s=>c→Does P w ok π a s
 | .no,_=>True
theorem Yields.does{P:Program}{w:World}{ok:Nat→Prop}{π:List Value}{a:AV}{s:Sem Value}(h:Yields P w ok π a s):Does P w ok π a (do pure (.value (←s))):=by
 obtain⟨v,h1,h2⟩:=h;exact⟨v,h1,fun w' hw=>by simp [h2 w' hw]⟩
theorem PRok.does{P:Program}{w:World}{ok:Nat→Prop}{π:List Value}{r:PR}{s:Sem Value}(h:PRok P w ok π r s):PRdoes P w ok π r (do pure (.value (←s))):=by
 cases r with
 | ok a=>exact Yields.does h
 | iff c a=>exact fun hc=>Yields.does (h hc)
 | no=>trivial
theorem zll{w:World}{ok:Nat→Prop}{π:List Value}{T:Tab}{op:BinOp}{t:TypeId}{x y:AV}{v:Value}(hx:RelV w ok π x v)(h:pBin T op t x y≠.no):
  (∃k n,v=.int k n)∨(∃s,v=.string s)∨(∃b,v=.bool b):=by
 unfold pBin at h;split at h
 ·cases hx with|d hx=>cases hx;exact .inl ⟨_,_,rfl⟩
 ·cases hx with|d hx=>cases hx;exact .inr (.inl ⟨_,rfl⟩)
 ·cases hx with|d hx=>cases hx;exact .inr (.inr ⟨_,rfl⟩)
 ·exact absurd rfl h
theorem zh0{P:Program}{op:BinOp}{t:TypeId}{xo yo:Operand}{a b:Value}(h:(∃k n,a=.int k n)∨(∃s,a=.string s)∨(∃b,a=.bool b))(w:World):(eqGuard op t xo yo a b).run P w=.ok () w:=by
 unfold eqGuard;rcases h with⟨k,n,rfl⟩|⟨s,rfl⟩|⟨b',rfl⟩<;>cases op<;>simp
theorem zl9{P:Program}{T:Tab}(hT:TabOk P T){w:World}{ok:Nat→Prop}{π:List Value}{op:BinOp}{t:TypeId}{xo yo:Operand}{x y:AV}{a b:Value}(hx:RelV w ok π x a)(hy:RelV w ok π y b):
  PRok P w ok π (zla T op t (isC xo) (isC yo) x y) (do eqGuard op t xo yo a b;binOp op t a b):=by
 unfold zla;split
 ·trivial
 ·rename_i r hr;have hk:=zs0 hT hr;split
  ·trivial
  ·rename_i hc;have key:∀{bb:Bool},((z3o r.kd a∧z3o r.kd b∧bb=true)∨(z3o r.kd a∧z4u r.kd b∧bb=false)∨(z4u r.kd a∧z3o r.kd b∧bb=false))→zdn a∧(∀cs,a≠.agg cs):=by
    intro bb h;have:z3o r.kd a∨z4u r.kd a:=by rcases h with h|h|h<;>simp [h.1]
    rcases this with h|h
    ·revert h;cases r.kd<;>simp only [z3o]<;>first|(intro h;exact h.elim)|(rintro rfl;exact⟨trivial,fun _ h=>by cases h⟩)
    ·revert h;cases r.kd<;>simp only [z4u]<;>first|(intro h;exact h.elim)|(rintro⟨_,rfl⟩;exact⟨trivial,fun _ h=>by cases h⟩)|(rintro⟨_,_,rfl⟩;exact⟨trivial,fun _ h=>by cases h⟩)|(rintro⟨_,_,_,rfl⟩;exact⟨trivial,fun _ h=>by cases h⟩)
   have fin:∀{bb:Bool},((z3o r.kd a∧z3o r.kd b∧bb=true)∨(z3o r.kd a∧z4u r.kd b∧bb=false)∨(z4u r.kd a∧z3o r.kd b∧bb=false)) →
     (op=.eql→Yields P w ok π (vB bb) (do eqGuard op t xo yo a b;binOp op t a b))∧(op=.neq→Yields P w ok π (vB (!bb)) (do eqGuard op t xo yo a b;binOp op t a b)):=by
    intro bb h;obtain⟨h1,h2⟩:=key h;have he:=zte hk h;constructor
    ·rintro rfl;exact zi rfl fun w'=>by simp only [Sem.run_bind,zfk hc h2,Result.andThen_ok,znh h1,he,Sem.run_pure]
    ·rintro rfl;exact zi rfl fun w'=>by simp only [Sem.run_bind,zfk hc h2,Result.andThen_ok,zng h1,he,Sem.run_pure]
   split
   ·trivial
   ·rename_i h1;have h1:=zdo h1 hx;split
    ·trivial
    ·rename_i h2;have h2:=zdo h2 hy;have:=fin (.inl ⟨h1,h2,rfl⟩);split
     ·exact this.1 rfl
     ·exact this.2 rfl
     ·trivial
    ·rename_i h2;have h2:=zlw h2 hy;have:=fin (.inr (.inl ⟨h1,h2,rfl⟩));split
     ·exact this.1 rfl
     ·exact this.2 rfl
     ·trivial
   ·rename_i h1;have h1:=zlw h1 hx;split
    ·rename_i h2;have h2:=zdo h2 hy;have:=fin (.inr (.inr ⟨h1,h2,rfl⟩));split
     ·exact this.1 rfl
     ·exact this.2 rfl
     ·trivial
    ·trivial
theorem z9x{P:Program}{w:World}{ok:Nat→Prop}{π:List Value}{a:AV}{v:Value}(h:RelV w ok π a v):Does P w ok π a (pure (.value v)):=⟨v,h,fun _ _=>rfl⟩
theorem zlb{P:Program}{w:World}{ok:Nat→Prop}{π:List Value}{b:Bool}{x y:AV}{v u:Value}(hx:RelV w ok π x v)(hy:RelV w ok π y u)(az:Array TypeId)(ty:TypeId):
  PRok P w ok π (pMax b x y) (if b=true then Builtin.max_ az ty #[v,u]else Builtin.min_ az ty #[v,u]):=by
 unfold pMax;split
 ·rename_i k a;cases hx with|d hx=>cases hx with|v _=>
  split
  ·rename_i k' c;cases hy with|d hy=>cases hy with|v _=>
   split
   ·refine zi rfl fun w'=>?_;have e:max a c=if c>a then c else a:=by rw [Int.max_def];split<;>split<;>omega
    simp [Builtin.max_,Builtin.max2,e]
   ·refine zi rfl fun w'=>?_;have e:min a c=if c<a then c else a:=by rw [Int.min_def];split<;>split<;>omega
    simp [Builtin.min_,Builtin.min2,e]
  ·trivial
 ·trivial
theorem zon{P:Program}{T:Tab}(hT:TabOk P T){X:Nat→Prop}{π:List Value}{objs:List (Option AObj)}{w:World}(m:Mem X π objs w){env:Env}{tmps:Array Value}{ds:List Deferred}(he:z13 w (okOf X π objs) π env tmps)(c:Call)(ty:TypeId):
  PRdoes P w (okOf X π objs) π (pCall T env objs c) (do let d ←resolve (Act.eval ⟨tmps,ds⟩) c ty;invoke d.target d.args):=by
 obtain⟨callee,⟨args⟩,argTypes⟩:=c;unfold pCall;split
 ·rename_i b hb;subst hb;split;rename_i args' hargs;have hargs':args=args':=by simpa using hargs
  subst hargs';split
  ·trivial
  ·rename_i az has;have hrel:=z3h (ds:=ds) he has;split
   ·split
    ·rename_i x;split
     ·rename_i t rest heq;have heq':argTypes=⟨t::rest⟩:=heq;subst heq'
      match args,hrel with
      | [x0],.cons h .nil=>
       have:=zrk hT m (t:=t) (ty:=ty) (az:=⟨t::rest⟩) h (by simp);have h2:=this.does;simpa [resolve,invoke,builtin]using h2
     ·trivial
    ·trivial
   ·split
    ·rename_i x y
     match args,hrel with
     | [x0,y0],.cons h (.cons h' .nil)=>
      have:=(zlb (P:=P) (b:=true) h h' argTypes ty).does;simpa [resolve,invoke,builtin]using this
    ·trivial
   ·split
    ·rename_i x y
     match args,hrel with
     | [x0,y0],.cons h (.cons h' .nil)=>
      have:=(zlb (P:=P) (b:=false) h h' argTypes ty).does;simpa [resolve,invoke,builtin]using this
    ·trivial
   ·trivial
 ·trivial
theorem z3c{P:Program}{T:Tab}(hT:TabOk P T){X:Nat→Prop}{π:List Value}{objs:List (Option AObj)}{w:World}(m:Mem X π objs w){env:Env}{tmps:Array Value}{ds:List Deferred}(he:z13 w (okOf X π objs) π env tmps)(o:Oper):
  PRdoes P w (okOf X π objs) π (pstep T o env objs) (execOp (Act.eval ⟨tmps,ds⟩) o):=by
 unfold pstep execOp;split<;>rename_i heq<;>simp only [heq]
 ·split
  ·rename_i a ha;exact z9x (zf he ha)
  ·trivial
 ·split
  ·rename_i a ha;exact z9x (zf he ha)
  ·trivial
 ·rename_i op t x y yt;split
  ·trivial
  ·rename_i a ha;split
   ·trivial
   ·rename_i b hb;have hx:=zf (ds:=ds) he ha;have hy:=zf (ds:=ds) he hb;have h1:=zrl hT (op:=op) (t:=t) hx hy;have hg:=fun(hne:pBin T op t a b≠.no)=>zh0 (P:=P) (op:=op) (t:=t) (xo:=x) (yo:=y) (b:=Act.eval ⟨tmps,ds⟩ y) (zll hx hne)
    split
    ·rename_i r hr;rw [hr]at h1 hg;obtain⟨v,e1,e2⟩:=h1;exact⟨v,e1,fun w' hw=>by simp [hg (by simp) w',e2 w' hw]⟩
    ·rename_i c r hr;rw [hr]at h1 hg;intro hc;obtain⟨v,e1,e2⟩:=h1 hc;exact⟨v,e1,fun w' hw=>by simp [hg (by simp) w',e2 w' hw]⟩
    ·exact(zl9 hT hx hy).does
 ·split
  ·rename_i a ha;exact(zt6 (zf he ha)).does
  ·trivial
 ·split
  ·rename_i a ha;exact(zom hT m (zf he ha)).does
  ·trivial
 ·split
  ·rename_i a ha;exact(zlf hT (zf he ha)).does
  ·trivial
 ·rename_i fn first caps
  split
  ·split
   ·trivial
   ·rename_i az has;have hr:=z3h (ds:=ds) he has;split
    ·cases caps with
     | nil=>exact⟨_,.d (.v rfl),fun w' _=>by simp [Instr.makeFunc]⟩
     | cons c cs=>cases hr
    ·exact⟨_,.fn hr,fun w' _=>by simp [Instr.makeFunc]⟩
  ·trivial
 ·split
  ·trivial
  ·rename_i a ha;split
   ·trivial
   ·rename_i l hl;split
    ·trivial
    ·rename_i h hh;split
     ·trivial
     ·rename_i mm hm;exact(zl7 hT (zf he ha) (z57 he hl) (z57 he hh) (z57 he hm)).does
 ·split
  ·rename_i a ha;exact(zdj hT (zf he ha)).does
  ·trivial
 ·split
  ·rename_i a ha;exact(zlh hT (zf he ha)).does
  ·trivial
 ·split
  ·trivial
  ·rename_i a ha;split
   ·rename_i b hb;exact(zdi hT m (zf he ha) (zf he hb)).does
   ·trivial
 ·split
  ·trivial
  ·rename_i a ha;split
   ·rename_i b hb;exact(zld hT (zf he ha) (zf he hb)).does
   ·trivial
 ·split
  ·rename_i a ha;exact(zi1 hT m (zf he ha)).does
  ·trivial
 ·split
  ·rename_i a ha;have hx:=zf (ds:=ds) he ha;revert hx;generalize Act.eval ⟨tmps,ds⟩ _=v;intro hx;unfold pNil;split<;>first
    |trivial
    |(cases hx<;>exact z9x (by constructor<;>assumption))
    | (cases hx with|d hx=>cases hx;exact z9x (.d (by constructor<;>assumption)))
  ·trivial
 ·rename_i t ps;split
  ·rename_i az has;have:=(zlj hT (t:=t) (z6c (ds:=ds) he has)).does;simpa using this
  ·trivial
 ·split
  ·rename_i a ha;exact(zgl (zf he ha)).does
  ·trivial
 ·split
  ·trivial
  ·rename_i b hb;have hv:=zp6 (ds:=ds) he hb;split
   ·split
    ·rename_i h1 a ha;exact⟨_,zf (ds:=ds) he ha,fun w' _=>by simp [hv,asBool]⟩
    ·trivial
   ·split
    ·rename_i h1 a ha;exact⟨_,zf (ds:=ds) he ha,fun w' _=>by simp [hv,asBool]⟩
    ·trivial
 ·exact zon hT m he _ _
 ·trivial
end Ab
namespace Ab
open Go
class Draws where
 f:Nat→Nat
 mono:∀a b:Nat,a≤b→f a≤f b
@[reducible] def Draws.none:Draws:=⟨fun _=>0,fun _ _ _=>Nat.le_refl _⟩
@[reducible] def Draws.all:Draws:=⟨fun a=>a,fun _ _ h=>h⟩
variable [Draws]
def dr(w:World):Nat:=Draws.f w.drawn
theorem z17{w w':World}(h:w.drawn≤w'.drawn):dr w≤dr w':=Draws.mono _ _ h
structure Hist(π:List Value)(objs:List (Option AObj))(w:World)(π':List Value)(objs':List (Option AObj))(w':World):Prop where
 os:w'.os=w.os
 tape:w'.tape=w.tape
 output:(w'.output=w.output∧dr w≤dr w')
 size:w.heap.size≤w'.heap.size
 heap:∀b,b<w.heap.size→(∀i o h,nth objs i=some (some o)→nth π i=some h→blk h≠some b)→w'.heap[b]?=w.heap[b]?
 own:∀i o h b,nth objs' i=some (some o)→nth π' i=some h→blk h=some b→w.heap.size≤b∨∃j o' h',nth objs j=some (some o')∧nth π j=some h'∧blk h'=some b
 hand:∀i h,nth π i=some h→isSl h=false→nth π' i=some h
theorem Hist.refl(π:List Value)(objs:List (Option AObj))(w:World):Hist π objs w π objs w:=
 ⟨rfl,rfl,⟨rfl,z17 (Nat.le_refl _)⟩,Nat.le_refl _,fun _ _ _=>rfl,fun i o h _ h1 h2 h3=>.inr ⟨i,o,h,h1,h2,h3⟩,fun _ _ h _=>h⟩
theorem Hist.trans{π π1 π2:List Value}{objs objs1 objs2:List (Option AObj)}{w w1 w2:World}(a:Hist π objs w π1 objs1 w1)(b:Hist π1 objs1 w1 π2 objs2 w2):Hist π objs w π2 objs2 w2 where
 os:=b.os.trans a.os
 tape:=b.tape.trans a.tape
 output:=⟨b.output.1.trans a.output.1,Nat.le_trans a.output.2 b.output.2⟩
 size:=Nat.le_trans a.size b.size
 heap:=by
  intro c hc hn;rw [b.heap c (Nat.lt_of_lt_of_le hc a.size) ?_,a.heap c hc hn];intro i o h h1 h2 h3;rcases a.own i o h c h1 h2 h3 with h4|⟨j,o',h',h5,h6,h7⟩
  ·omega
  ·exact hn j o' h' h5 h6 h7
 own:=by
  intro i o h c h1 h2 h3;rcases b.own i o h c h1 h2 h3 with h4|⟨j,o',h',h5,h6,h7⟩
  ·exact .inl (Nat.le_trans a.size h4)
  ·exact a.own j o' h' c h5 h6 h7
 hand:=fun i h h1 h2=>b.hand i h (a.hand i h h1 h2) h2
def keepQ(q:Option Nat)(a:AV):AV:=
 match q with
 | none=>a
 | some i=>a.drop i
structure Tr(X:Nat→Prop)(π:List Value)(objs:List (Option AObj))(w:World)(q:Option Nat)(π':List Value)(objs':List (Option AObj))(w':World):Prop where
 mem:Mem X π' objs' w'
 keep:∀a v,RelV w (okOf X π objs) π a v→RelV w' (okOf X π' objs') π' (keepQ q a) v
 hist:Hist π objs w π' objs' w'
theorem z32{w:World}{a:Addr}{v:Value}(h:w.cell? a=some v):a.block<w.heap.size:=World.block_lt_of_cell? w a h
section
variable {X:Nat→Prop}{π:List Value}{objs:List (Option AObj)}{w:World}
theorem z1d(obj:Obj):(w.alloc obj).heap=w.heap.push obj:=rfl
theorem z1h(obj:Obj){b:Nat}(h:b<w.heap.size):(w.alloc obj).heap[b]?=w.heap[b]?:=by
 rw [z1d,Array.getElem?_push,if_neg (Nat.ne_of_lt h)]
theorem z23(obj:Obj):(w.alloc obj).heap[w.heap.size]?=some obj:=by rw [z1d];simp
theorem zbh(obj:Obj){a:Addr}{v:Value}(h:w.cell? a=some v):(w.alloc obj).cell? a=some v:=by
 have hb:=z32 h;unfold World.cell? at h ⊢;rw [z1h obj hb];exact h
theorem zqk(h:Value)(o:AObj)(hl:π.length=objs.length)(hh:∀b,blk h=some b→w.heap.size≤b){b:Nat}(hb:b<w.heap.size)(hok:okOf X π objs b):okOf X (π++[h]) (objs++[some o]) b:=by
 refine⟨hok.1,fun i o' h' h1 h2=>?_⟩;rcases z1w h1 with h3|⟨h3,h4⟩
 ·rcases z1w h2 with h5|⟨h5,_⟩
  ·exact hok.2 i o' h' h3 h5
  ·have:=z1r h3;omega
 ·rcases z1w h2 with h5|⟨_,h6⟩
  ·have:=z1r h5;omega
  ·have e:i-π.length=0:=by
    have:=z1r h6;simp at this;omega
   rw [e]at h6;simp only [nth,Option.some.injEq]at h6;subst h6;intro hc;have:=hh _ hc;omega
theorem zaw(obj:Obj)(h:Value)(o:AObj)(hl:π.length=objs.length)(hh:∀b,blk h=some b→w.heap.size≤b):Keeps w (okOf X π objs) (w.alloc obj) (okOf X (π++[h]) (objs++[some o])):=
 fun _ _ _ h1 h2=>⟨zqk h o hl hh (z32 h2) h1,zbh obj h2⟩
theorem zdp(h:Value):∀j k,nth π j=some k→nth (π++[h]) j=some k:=fun _ _ hj=>z48 hj
theorem z6u{w':World}(hw:∀b,b<w.heap.size→w'.heap[b]?=w.heap[b]?)(h:Value)(o:AObj)(hl:π.length=objs.length)(hh:∀b,blk h=some b→w.heap.size≤b):Keeps w (okOf X π objs) w' (okOf X (π++[h]) (objs++[some o])):=by
 intro b off u h1 h2;have hb:=z32 h2;refine⟨zqk h o hl hh hb h1,?_⟩;unfold World.cell? at h2 ⊢;rw [hw b hb];exact h2
theorem z4r(m:Mem X π objs w){w':World}(hos:w'.os=w.os)(htape:w'.tape=w.tape)(hout:w'.output=w.output∧dr w≤dr w')(hsz:w.heap.size≤w'.heap.size)(hw:∀b,b<w.heap.size→w'.heap[b]?=w.heap[b]?)
  (h:Value) (o:AObj) (hh:∀b,blk h=some b→w.heap.size≤b) (hrel:RelO w' (okOf X (π++[h]) (objs++[some o])) (π++[h]) o h) :
  Tr X π objs w none (π++[h]) (objs++[some o]) w':=by
 have hk:=z6u (X:=X) (π:=π) (objs:=objs) (w:=w) hw h o m.len hh;have hp:=zdp (π:=π) h;have hnew:∀{i:Nat} {o':AObj},nth (objs++[some o]) i=some (some o')→(nth objs i=some (some o'))∨(i=objs.length∧o'=o):=by
  intro i o' hi;rcases z1w hi with h1|⟨h1,h2⟩
  ·exact .inl h1
  ·right
   have:i-objs.length=0:=by have:=z1r h2;simp at this;omega
   rw [this]at h2;simp only [nth,Option.some.injEq]at h2;exact⟨by omega,h2.symm⟩
 have hold:∀{i:Nat} {o':AObj} {h':Value},nth objs i=some (some o')→nth (π++[h]) i=some h'→nth π i=some h':=by
  intro i o' h' h1 h2;rcases z1w h2 with h3|⟨h3,_⟩
  ·exact h3
  ·have:=z1r h1;have:=m.len;omega
 have hlast:∀{h':Value},nth (π++[h]) objs.length=some h'→h'=h:=by
  intro h' h2;have:=z3t (l:=π) (r:=[h]) (m:=0);rw [Nat.add_zero,m.len]at this;rw [this]at h2;simpa [nth]using h2.symm
 refine⟨⟨by simp [m.len],?_,?_,?_,?_⟩,fun a v h1=>h1.mono hk hp,⟨hos,htape,hout,hsz,fun b hb' _=>hw b hb',?_,fun i k hi _=>hp i k hi⟩⟩
 ·intro i o' hi;rcases hnew hi with h1|⟨rfl,rfl⟩
  ·obtain⟨k,h2,h3⟩:=m.obj i o' h1;exact⟨k,hp _ _ h2,h3.mono hk hp (fun b e=>hw b (h3.lt e))⟩
  ·refine⟨h,?_,hrel⟩;have:=z3t (l:=π) (r:=[h]) (m:=0);rw [Nat.add_zero,m.len]at this;rw [this];rfl
 ·intro i j o1 o2 h1 h2 b hne ho1 ho2 hp1 hp2 hb1;rcases hnew ho1 with e1|⟨rfl,rfl⟩<;>rcases hnew ho2 with e2|⟨rfl,rfl⟩
  ·exact m.dist i j o1 o2 h1 h2 b hne e1 e2 (hold e1 hp1) (hold e2 hp2) hb1
  ·have:=m.lt e1 (hold e1 hp1) hb1;rw [hlast hp2];intro e;have:=hh b e;omega
  ·rw [hlast hp1]at hb1;have:=hh b hb1;intro e;have:=m.lt e2 (hold e2 hp2) e;omega
  ·exact absurd rfl hne
 ·intro i o1 h1 b ho1 hp1 hb1 hx;rcases hnew ho1 with e1|⟨rfl,rfl⟩
  ·exact m.ext i o1 h1 b e1 (hold e1 hp1) hb1 hx
  ·rw [hlast hp1]at hb1;have:=hh b hb1;have:=m.inX _ hx;omega
 ·intro b hx;have:=m.inX b hx;omega
 ·intro i o1 h1 b ho1 hp1 hb1;rcases hnew ho1 with e1|⟨rfl,rfl⟩
  ·exact .inr ⟨i,o1,h1,e1,hold e1 hp1,hb1⟩
  ·rw [hlast hp1]at hb1;exact .inl (hh b hb1)
theorem zki(m:Mem X π objs w)(obj:Obj)(h:Value)(o:AObj)(hb:blk h=some w.heap.size)(hrel:RelO (w.alloc obj) (okOf X (π++[h]) (objs++[some o])) (π++[h]) o h):
  Tr X π objs w none (π++[h]) (objs++[some o]) (w.alloc obj):=
 z4r (w':=w.alloc obj) m rfl rfl ⟨rfl,z17 (Nat.le_refl _)⟩ (by rw [z1d];simp) (fun b hb=>z1h obj hb) h o (by intro b e;rw [hb]at e;cases e;exact Nat.le_refl _) hrel
theorem zdl{i:Nat}{o o':AObj}(ho:nth objs i=some (some o))(b:Nat):okOf X π (za objs i (some o')) b↔okOf X π objs b:=by
 constructor
 ·rintro⟨h1,h2⟩;refine⟨h1,fun j o1 h hj hp=>?_⟩;by_cases e:j=i
  ·subst e;exact h2 j o' h (z1g ho) hp
  ·exact h2 j o1 h (by rw [z3s e];exact hj) hp
 ·rintro⟨h1,h2⟩;refine⟨h1,fun j o1 h hj hp=>?_⟩;rcases z3x hj with⟨rfl,_⟩|⟨_,h3⟩
  ·exact h2 j o h ho hp
  ·exact h2 j o1 h h3 hp
theorem z7z{w':World}{i:Nat}{o o':AObj}{h:Value}{b:Nat}(ho:nth objs i=some (some o))(hp:nth π i=some h)(hb:blk h=some b)(hw:∀c,c≠b→w'.heap[c]?=w.heap[c]?):
  Keeps w (okOf X π objs) w' (okOf X π (za objs i (some o'))):=by
 intro c off u h1 h2;refine⟨(zdl ho c).2 h1,?_⟩;have hne:c≠b:=fun e=>h1.2 i o h ho hp (by rw [hb,e])
 unfold World.cell? at h2 ⊢;rw [hw c hne];exact h2
theorem zeh(m:Mem X π objs w){w':World}{i:Nat}{o o':AObj}{h:Value}{b:Nat}(ho:nth objs i=some (some o))(hp:nth π i=some h)(hb:blk h=some b)
  (hos:w'.os=w.os) (htape:w'.tape=w.tape) (hout:w'.output=w.output∧dr w≤dr w') (hsz:w'.heap.size=w.heap.size) (hw:∀c,c≠b→w'.heap[c]?=w.heap[c]?)
  (hrel:RelO w' (okOf X π (za objs i (some o'))) π o' h):Tr X π objs w none π (za objs i (some o')) w':=by
 have hk:=z7z (X:=X) (w':=w') (o':=o') ho hp hb hw;have hp':∀j k,nth π j=some k→nth π j=some k:=fun _ _ h=>h
 have hold:∀{j:Nat} {o1:AObj},nth (za objs i (some o')) j=some (some o1)→∃o2,nth objs j=some (some o2):=by
  intro j o1 hj;rcases z3x hj with⟨rfl,_⟩|⟨_,h3⟩
  ·exact⟨o,ho⟩
  ·exact⟨o1,h3⟩
 refine⟨⟨by rw [z2u];exact m.len,?_,?_,?_,?_⟩,fun a v h1=>h1.mono hk hp',⟨hos,htape,hout,by omega,?_,?_,fun i k hi _=>hi⟩⟩
 ·intro j o1 hj;rcases z3x hj with⟨rfl,e⟩|⟨hne,h3⟩
  ·cases e;exact⟨h,hp,hrel⟩
  ·obtain⟨k,h4,h5⟩:=m.obj j o1 h3;refine⟨k,h4,h5.mono hk hp' (fun c e=>hw c ?_)⟩;intro ec;subst ec;exact m.dist j i o1 o k h c hne h3 ho h4 hp e hb
 ·intro j j' o1 o2 h1 h2 c hne ho1 ho2 hp1 hp2 hb1;obtain⟨o3,e1⟩:=hold ho1;obtain⟨o4,e2⟩:=hold ho2;exact m.dist j j' o3 o4 h1 h2 c hne e1 e2 hp1 hp2 hb1
 ·intro j o1 h1 c ho1 hp1 hb1;obtain⟨o3,e1⟩:=hold ho1;exact m.ext j o3 h1 c e1 hp1 hb1
 ·intro c hx;have:=m.inX c hx;omega
 ·intro c hc hn;exact hw c (fun e=>hn i o h ho hp (by rw [hb,e]))
 ·intro j o1 h1 c ho1 hp1 hb1;obtain⟨o3,e1⟩:=hold ho1;exact .inr ⟨j,o3,h1,e1,hp1,hb1⟩
theorem z65{w':World}{i:Nat}{o o':AObj}{h h':Value}(ho:nth objs i=some (some o))(hp:nth π i=some h)
  (hw:∀c,c<w.heap.size→blk h≠some c→w'.heap[c]?=w.heap[c]?) (hb':∀b,blk h'=some b→blk h=some b∨w.heap.size≤b) :
  Keeps w (okOf X π objs) w' (okOf X (za π i h') (za (dropO i objs) i (some o'))):=by
 intro c off u h1 h2;have hc:c<w.heap.size:=z32 h2;refine⟨⟨h1.1,fun j o1 k hj hk=>?_⟩,?_⟩
 ·rcases z3x hj with⟨rfl,_⟩|⟨hne,h3⟩
  ·rw [z1g hp]at hk;cases hk;intro e;rcases hb' c e with e1|e1
   ·exact h1.2 j o h ho hp e1
   ·omega
  ·obtain⟨o2,h4,_⟩:=z87 i objs h3;rw [z3s hne]at hk;exact h1.2 j o2 k h4 hk
 ·unfold World.cell? at h2 ⊢;rw [hw c hc (h1.2 i o h ho hp)];exact h2
theorem z4y(m:Mem X π objs w){w':World}{i:Nat}{o o':AObj}{h h':Value}(ho:nth objs i=some (some o))(hp:nth π i=some h)(hsl:isSl h=true)
  (hos:w'.os=w.os) (htape:w'.tape=w.tape) (hout:w'.output=w.output∧dr w≤dr w') (hsz:w.heap.size≤w'.heap.size) (hw:∀c,c<w.heap.size→blk h≠some c→w'.heap[c]?=w.heap[c]?)
  (hb':∀b,blk h'=some b→blk h=some b∨w.heap.size≤b)
  (hrel:RelO w' (okOf X (za π i h') (za (dropO i objs) i (some o'))) (za π i h') o' h'):Tr X π objs w (some i) (za π i h') (za (dropO i objs) i (some o')) w':=by
 have hold:∀{j:Nat} {o1:AObj},nth (za (dropO i objs) i (some o')) j=some (some o1)→(j=i∧o1=o')∨(j≠i∧∃o2,nth objs j=some (some o2)∧o1=o2.drop i):=by
  intro j o1 hj;rcases z3x hj with⟨rfl,e⟩|⟨hne,h3⟩
  ·cases e;exact .inl ⟨rfl,rfl⟩
  ·exact .inr ⟨hne,z87 i objs h3⟩
 have hpi:nth (za π i h') i=some h':=z1g hp;have hpj:∀{j:Nat},j≠i→nth (za π i h') j=nth π j:=fun hne=>z3s hne
 have hok:∀c,c<w.heap.size→okOf X π objs c→okOf X (za π i h') (za (dropO i objs) i (some o')) c:=by
  intro c hc h1;refine⟨h1.1,fun j o1 k hj hk=>?_⟩;rcases hold hj with⟨rfl,rfl⟩|⟨hne,o2,h2,rfl⟩
  ·rw [hpi]at hk;cases hk;intro e;rcases hb' c e with e1|e1
   ·exact h1.2 j o h ho hp e1
   ·omega
  ·rw [hpj hne]at hk;exact h1.2 j o2 k h2 hk
 have hk:Keeps w (okOf X π objs) w' (okOf X (za π i h') (za (dropO i objs) i (some o'))):=by
  intro c off u h1 h2;have hc:c<w.heap.size:=z32 h2;refine⟨hok c hc h1,?_⟩;unfold World.cell? at h2 ⊢;rw [hw c hc (h1.2 i o h ho hp)];exact h2
 have hh:∀j k,nth π j=some k→j≠i∨isSl k=false→nth (za π i h') j=some k:=by
  intro j k hj hd;have hne:j≠i:=by
   rcases hd with hd|hd
   ·exact hd
   ·intro e;subst e;rw [hp]at hj;cases hj;rw [hsl]at hd;cases hd
  rw [hpj hne];exact hj
 refine⟨⟨by simp [z2u,z6k,m.len],?_,?_,?_,?_⟩,fun a v h1=>h1.drop hk hh,⟨hos,htape,hout,hsz,?_,?_,fun j k hj hd=>hh j k hj (.inr hd)⟩⟩
 ·intro j o1 hj;rcases hold hj with⟨rfl,rfl⟩|⟨hne,o2,h2,rfl⟩
  ·exact⟨h',hpi,hrel⟩
  ·obtain⟨k,h4,h5⟩:=m.obj j o2 h2;refine⟨k,by rw [hpj hne];exact h4,h5.drop hk hh (fun c e=>hw c (h5.lt e) ?_)⟩;exact m.dist j i o2 o k h c hne h2 ho h4 hp e
 ·intro j j' o1 o2 h1 h2 c hne ho1 ho2 hp1 hp2 hb1;rcases hold ho1 with⟨rfl,rfl⟩|⟨hn1,o3,e1,rfl⟩<;>rcases hold ho2 with⟨rfl,rfl⟩|⟨hn2,o4,e2,rfl⟩
  ·exact absurd rfl hne
  ·rw [hpi]at hp1;cases hp1;rw [hpj hn2]at hp2;intro e;rcases hb' c hb1 with e3|e3
   ·exact m.dist j' j o4 o h2 h c hn2 e2 ho hp2 hp e e3
   ·have:=m.lt e2 hp2 e;omega
  ·rw [hpi]at hp2;cases hp2;rw [hpj hn1]at hp1;intro e;rcases hb' c e with e3|e3
   ·exact m.dist j j' o3 o h1 h c hn1 e1 ho hp1 hp hb1 e3
   ·have:=m.lt e1 hp1 hb1;omega
  ·rw [hpj hn1]at hp1;rw [hpj hn2]at hp2;exact m.dist j j' o3 o4 h1 h2 c hne e1 e2 hp1 hp2 hb1
 ·intro j o1 h1 c ho1 hp1 hb1 hx;rcases hold ho1 with⟨rfl,rfl⟩|⟨hn1,o3,e1,rfl⟩
  ·rw [hpi]at hp1;cases hp1;rcases hb' c hb1 with e3|e3
   ·exact m.ext j o h c ho hp e3 hx
   ·have:=m.inX c hx;omega
  ·rw [hpj hn1]at hp1;exact m.ext j o3 h1 c e1 hp1 hb1 hx
 ·intro c hx;have:=m.inX c hx;omega
 ·intro c hc hn;exact hw c hc (hn i o h ho hp)
 ·intro j o1 h1 c ho1 hp1 hb1;rcases hold ho1 with⟨rfl,rfl⟩|⟨hn1,o3,e1,rfl⟩
  ·rw [hpi]at hp1;cases hp1;rcases hb' c hb1 with e3|e3
   ·exact .inr ⟨j,o,h,ho,hp,e3⟩
   ·exact .inl e3
  ·rw [hpj hn1]at hp1;exact .inr ⟨j,o3,h1,e1,hp1,hb1⟩
end
end Ab
