/- A part of the proof. -/
import Derived.Test.YtbodbhpdelgpnaaGreatDoorP15
set_option linter.unusedVariables false
set_option linter.unusedSimpArgs false
set_option linter.unusedSectionVars false
set_option maxRecDepth 100000
set_option maxHeartbeats 8000000
namespace Ab
open Go
variable [Draws]
section
variable {P:Program}[Globals P]{T:Tab}{f:FuncId}{fn:Func}{n m:Nat}{C:Cx}{R:AV→List (Option AObj)→Prop}{todo todo' k:List Item}{env env0 env' envF:Env}{objs objs':List (Option AObj)}{nd:Prop}{ops:Array Oper}{l:List Oper}{K:Env→Prop}{X:Nat→Prop}
def LiveT(ops:Array Oper)(m:Nat)(L:List Nat)(t:Tmp):Prop:=(∃q∈L,∃o,ops[q]?=some o∧o.dst=some t)∨∀j,j<m→dstIs ops j t=false
structure StepX(X:Nat→Prop)(O:List Nat→List (Option AObj))(m:Nat)(ops:Array Oper)(envF:Env)(L:List Nat)(j:Nat)(π:List Value)(w:World)(π':List Value)(w2:World):Prop where
 mem:Mem X π' (O (j::L)) w2
 hist:Hist π (O L) w π' (O (j::L)) w2
 keep:∀t a v,look envF t=some a→LiveT ops m L t→RelV w (okOf X π (O L)) π a v→RelV w2 (okOf X π' (O (j::L))) π' a v
def HeadX(P:Program)[Globals P](n:Nat)(X:Nat→Prop)(O:List Nat→List (Option AObj))(m:Nat)(ops:Array Oper)(envF:Env)(j:Nat)(o:Oper):Prop:=
 ∀L,(∀q∈L,q<m)→j∉L→(∀q,z1a ops j q=true→q∈L)→(∀q∈L,∀q',z1a ops q q'=true→q'∈L)→∀π w tmps,tmps.size=n→Mem X π (O L) w→GOk P π (O L) w→(∀t∈o.looksAt ops,∀a,look envF t=some a→RelV w (okOf X π (O L)) π a (tmps.getD t undef)) →
  (Region.wanted o (yielded ops tmps)=false∧∃π',StepX X O m ops envF L j π w π' w∧PutOk n w (okOf X π' (O (j::L))) π' envF o undef) ∨
  (Region.wanted o (yielded ops tmps)=true ∧
   ((∃v w2 π',(execOp (Act.eval ⟨tmps,[]⟩) o).run P w=.ok (.value v) w2∧StepX X O m ops envF L j π w π' w2∧PutOk n w2 (okOf X π' (O (j::L))) π' envF o v) ∨
    (∃w2 π',(execOp (Act.eval ⟨tmps,[]⟩) o).run P w=.ok .skip w2∧StepX X O m ops envF L j π w π' w2∧PutOk n w2 (okOf X π' (O (j::L))) π' envF o undef) ∨
    (∃g args,(execOp (Act.eval ⟨tmps,[]⟩) o).run P w=.ok (.enter g args) w∧Calls P g args w fun e w2=>∃v π',e=.returned v∧StepX X O m ops envF L j π w π' w2∧PutOk n w2 (okOf X π' (O (j::L))) π' envF o v)))
theorem z9r{O:List Nat→List (Option AObj)}{objsF:List (Option AObj)}(hmx:P.follows .mixedOrders=true)(hB:drawB ops m=true)(hops:∀j o,j<m→ops[j]?=some o→HeadX P n C.X O m ops envF j o)
  (hO0:O []=objs) (hOF:∀L,(∀i,i<m→i∈L)→O L=objsF)
  (henv:∀t,(∀j,j<m→dstIs ops j t=false)→∀a,look envF t=some a→∃b,look env0 t=some b∧VLe b a)
  (hK:ASat P f n C (.inRegion ops (List.range' m (ops.size-m))::k) envF objsF R) {id:Nat} (hGk:GOk P C.π C.objs C.w:=by with_reducible assumption):ASat P f n C (.code (.region id ops true)::k) env0 objs R:=by
 simp only [drawB,Bool.and_eq_true,decide_eq_true_eq]at hB;obtain⟨⟨⟨⟨hms,hback⟩,hsink⟩,hchain⟩,hap⟩:=hB;have hap:∀j o,j<m→ops[j]?=some o→(∀k,k<m→k≠j→∀d,o.dst=some d→dstIs ops k d=false)∧∀k,k<m→∀t∈o.looksAt ops,dstIs ops k t=true→z1a ops j k=true:=by
  intro j o hj ho;have h1:=List.all_eq_true.1 hap j (List.mem_range.2 hj);rw [ho]at h1;have h2:∀k,k<m→((decide (k=j)||z55 ops o k)=true∧(o.looksAt ops).all (fun t=>!dstIs ops k t||z1a ops j k)=true):=fun k hk=>by
   have:=List.all_eq_true.1 h1 k (List.mem_range.2 hk);simpa only [Bool.and_eq_true]using this
  refine⟨fun k hk hne d hd=>?_,fun k hk t ht hd=>?_⟩
  ·have:=(h2 k hk).1;unfold z55 at this;rw [hd]at this;simpa [hne]using this
  ·have:=List.all_eq_true.1 (h2 k hk).2 t ht;simpa [hd]using this
 intro π w tmps0 hn hm hh he;have hl1:Later w { w with drawn:=w.drawn+1 }:=⟨rfl,rfl,⟨rfl,z18 (Nat.le_succ _)⟩,Nat.le_refl _,fun _ _=>rfl⟩
 have htr1:=hl1.tr hm;have key:∀(fuel t:Nat) (listed:Array Bool) (L:List Nat) (tmps:Array Value) (w':World) (π:List Value),Lst ops m L listed→L.length+fuel=ops.size→Mem C.X π (O L) w'→Hist C.π C.objs C.w π (O L) w'→tmps.size=n →
   (∀j∈L,∀o,ops[j]?=some o→∀d,o.dst=some d→∃b,look envF d=some b∧RelV w' (okOf C.X π (O L)) π b (tmps.getD d undef)) →
   (∀t,(∀j,j<m→dstIs ops j t=false)→∀a,look envF t=some a→RelV w' (okOf C.X π (O L)) π a (tmps.getD t undef)) →
   Sat P f C.ds (.inRegion ops (Region.linearise.go .any ops fuel t listed [])::k) tmps w' (APost C R):=by
  intro fuel;induction fuel with
  | zero=>
   intro t listed L tmps w' π hL hlen _ _ _ _ _;have:=z29 hL.nd (b:=List.range m) fun y hy=>List.mem_range.2 (hL.lt y hy)
   rw [List.length_range]at this;omega
  | succ fuel ih=>
   intro t listed L tmps w' π hL hlen hm hh hsz hdone hrest;have hLm:=z29 hL.nd (b:=List.range m) fun y hy=>List.mem_range.2 (hL.lt y hy)
   rw [List.length_range]at hLm;by_cases hall:∀i,i<m→i∈L
   ·have hml:=z29 (List.nodup_range (n:=m)) (b:=L) fun y hy=>hall y (List.mem_range.1 hy)
    rw [List.length_range]at hml;have hfu:fuel+1=ops.size-m:=by omega
    rw [hfu];have hg:=z8r hback hchain (ops.size-m) t listed (.inl (by omega)) (by omega) hL.size (fun i hi=>by
     rw [hL.mem i hi,show ops.size-(ops.size-m)=m by omega];exact⟨fun h=>hL.lt i h,fun h=>hall i h⟩)
    rw [hg,show ops.size-(ops.size-m)=m by omega];rw [hOF L hall]at hm hh hdone hrest;refine hK π w' tmps hsz hm hh fun u a hu=>?_;by_cases hd:∃j,j<m∧dstIs ops j u=true
    ·obtain⟨j,hj,hd⟩:=hd;obtain⟨o,ho,hdo⟩:=zp.1 hd;obtain⟨b,hb,hr⟩:=hdone j (hall j hj) o ho u hdo;rw [hu]at hb;cases hb;exact hr
    ·have hd':∀j,j<m→dstIs ops j u=false:=fun j hj=>by
      cases hx:dstIs ops j u with
      | false=>rfl
      | true=>exact absurd ⟨j,hj,hx⟩ hd
     exact hrest u hd' a hu
   ·have hex:∃i,i∈Region.ready .any ops listed:=by
     have hmin:∀q i,i≤q→i<m→i∉L→∃j,j<m∧j∉L∧∀j',j'<j→j'∈L:=by
      intro q;induction q with
      | zero=>intro i hi hm hL;exact⟨i,hm,hL,by omega⟩
      | succ q ihq=>
       intro i hi him hiL;by_cases hx:∃j',j'<i∧j'∉L
       ·obtain⟨j',h1,h2⟩:=hx;exact ihq j' (by omega) (by omega) h2
       ·exact⟨i,him,hiL,fun j' hj'=>Decidable.byContradiction fun h2=>hx ⟨j',hj',h2⟩⟩
     obtain⟨i,hi⟩:=Classical.not_forall.1 hall;have hi1:i<m:=Classical.byContradiction fun h=>hi fun h2=>absurd h2 h
     have hi2:i∉L:=fun h=>hi fun _=>h
     obtain⟨j,h1,h2,h3⟩:=hmin i i (Nat.le_refl _) hi1 hi2;refine⟨j,(z2m (by omega) hL).2 ⟨by omega,h2,ops[j],Array.getElem?_eq_getElem (by omega),fun e hee hb=>?_⟩⟩;have hlt:=z2v hback (Array.getElem?_eq_getElem (by omega:j<ops.size)) hee hb;exact(hL.mem e.on (by omega)).2 (h3 e.on hlt)
    rw [zby];have hlen2:0<(Region.ready .any ops listed).length:=List.length_pos_of_mem hex.choose_spec;have hmod:t%(Region.ready .any ops listed).length<(Region.ready .any ops listed).length:=Nat.mod_lt _ hlen2;rw [List.getElem?_eq_getElem hmod];simp only;have hir:(Region.ready .any ops listed)[t%(Region.ready .any ops listed).length]∈Region.ready .any ops listed:=List.getElem_mem hmod;generalize (Region.ready .any ops listed)[t%(Region.ready .any ops listed).length]=i at hir;have him:i<m:=by
     apply Classical.byContradiction;intro hge;exact hall (z7m (by omega) hsink hback hL (by omega) hchain hir).2
    obtain⟨his,hiL,o,ho,hdeps⟩:=(z2m (by omega) hL).1 hir;obtain⟨ha1,ha2⟩:=hap i o him ho;have hlooks:∀u∈o.looksAt ops,∀a,look envF u=some a→RelV w' (okOf C.X π (O L)) π a (tmps.getD u undef):=by
     intro u hu a hua;by_cases hd:∃j,j<m∧dstIs ops j u=true
     ·obtain⟨j,hj,hd⟩:=hd;have hw:=ha2 j hj u hu hd;obtain⟨o2,ho2,e,hee,hb,heq⟩:=z19 hw;rw [ho]at ho2;cases ho2;have hjL:=z1v hL (hdeps e hee hb);rw [heq]at hjL;obtain⟨oj,hoj,hdj⟩:=zp.1 hd;obtain⟨b,hb2,hr⟩:=hdone j hjL oj hoj u hdj;rw [hua]at hb2;cases hb2;exact hr
     ·have hd':∀j,j<m→dstIs ops j u=false:=fun j hj=>by
       cases hx:dstIs ops j u with
       | false=>rfl
       | true=>exact absurd ⟨j,hj,hx⟩ hd
      exact hrest u hd' a hua
    have hL':Lst ops m (i::L) (listed.setIfInBounds i true):=by
     refine⟨by simpa using hL.size,fun j hj=>?_,List.nodup_cons.2 ⟨hiL,hL.nd⟩,fun j hj=>?_,fun j hj oj hoj e hee hb=>?_⟩
     ·by_cases e:i=j
      ·subst e;rw [show(listed.setIfInBounds i true).getD i false=true by simp [hL.size,hj]];simp
      ·rw [show(listed.setIfInBounds i true).getD j false=listed.getD j false by simp [Array.getElem?_setIfInBounds,e]];rw [hL.mem j hj,List.mem_cons];exact⟨.inr,fun h=>h.resolve_left fun h2=>e h2.symm⟩
     ·rcases List.mem_cons.1 hj with rfl|hj
      ·exact him
      ·exact hL.lt j hj
     ·rcases List.mem_cons.1 hj with rfl|hj
      ·rw [ho]at hoj;cases hoj;exact List.mem_cons_of_mem _ (z1v hL (hdeps e hee hb))
      ·exact List.mem_cons_of_mem _ (hL.cl j hj oj hoj e hee hb)
    have hdeps2:∀q,z1a ops i q=true→q∈L:=by
     intro q hq;obtain⟨o2,ho2,e,hee,hb,heq⟩:=z19 hq;rw [ho]at ho2;cases ho2;rw [←heq];exact z1v hL (hdeps e hee hb)
    have hcl2:∀q∈L,∀q',z1a ops q q'=true→q'∈L:=by
     intro q hqL q' hq;obtain⟨o2,ho2,e,hee,hb,heq⟩:=z19 hq;rw [←heq];exact hL.cl q hqL o2 ho2 e hee hb
    have next:∀(v:Value) (w2:World) (π':List Value),StepX C.X O m ops envF L i π w' π' w2→PutOk n w2 (okOf C.X π' (O (i::L))) π' envF o v→Sat P f C.ds (.inRegion ops (Region.linearise.go .any ops fuel (t / (Region.ready .any ops listed).length) (listed.setIfInBounds i true) [])::k) (putT o.dst v tmps) w2 (APost C R):=by
     intro v w2 π' hst hput;refine ih _ _ (i::L) _ w2 π' hL' (by simp only [List.length_cons];omega) hst.mem (hh.trans hst.hist) ?_ ?_ ?_
     ·cases hd:o.dst with
      | none=>exact hsz
      | some d=>simpa [putT]using hsz
     ·intro j hj0 oj hoj d hd;rcases List.mem_cons.1 hj0 with e|hj
      ·subst e;rw [ho]at hoj;cases hoj;obtain⟨h1,b,h2,h3⟩:=hput d hd;refine⟨b,h2,?_⟩;rw [hd,z26,if_pos ⟨rfl,by rw [hsz];exact h1⟩];exact h3
      ·obtain⟨b,h2,h3⟩:=hdone j hj oj hoj d hd;refine⟨b,h2,?_⟩;have hne:∀d',o.dst=some d'→d'≠d:=by
        rintro d' hd' rfl;have:=ha1 j (hL.lt j hj) (fun e=>hiL (e▸hj)) d' hd';rw [zp.2 ⟨oj,hoj,hd⟩]at this;cases this
       cases hdo:o.dst with
       | none=>exact hst.keep _ _ _ h2 (.inl ⟨j,hj,oj,hoj,hd⟩) h3
       | some d'=>
        rw [z26,if_neg fun hh=>hne d' hdo hh.1];exact hst.keep _ _ _ h2 (.inl ⟨j,hj,oj,hoj,hd⟩) h3
     ·intro u hu a hua;have h3:=hst.keep _ _ _ hua (.inr hu) (hrest u hu a hua);cases hdo:o.dst with
      | none=>exact h3
      | some d'=>
       rw [z26,if_neg fun hh=>?_]
       ·exact h3
       ·have:=hu i him;rw [zp.2 ⟨o,ho,by rw [hdo,hh.1]⟩]at this;cases this
    rcases hops i o him ho L (fun q hq=>hL.lt q hq) hiL hdeps2 hcl2 π w' tmps hsz hm (hGk.hist hh) hlooks with⟨hw,hput⟩|⟨hw,⟨v,w2,π',hrun,hst,hput⟩|⟨w2,π',hrun,hst,hput⟩|⟨g,args,hrun,hcall⟩⟩
    ·obtain⟨π',hst,hput⟩:=hput;exact .opSkip ho hw (next undef w' π' hst hput)
    ·exact .opVal ho hw hrun (next v w2 π' hst hput)
    ·exact .opUnit ho hw hrun (next undef w2 π' hst hput)
    ·exact .opCall ho hw hrun (hcall.mono fun e w2 ⟨v,π',h1,h2,h3⟩=>⟨v,h1,next v w2 π' h2 h3⟩)
 refine .step (fun kd cs=>z8d) ?_;simp only [Region.schedule,hmx,Bool.true_or,if_true];subst hO0;refine key ops.size _ _ [] tmps0 _ π ⟨by simp,fun i hi=>?_,List.nodup_nil,by simp,by simp⟩ (by simp) htr1.mem (z1w hh htr1) hn (by simp) (fun u hu a hua=>?_)
 ·simp [hi]
 ·obtain⟨b,hb,hle⟩:=henv u hu a hua;exact z2l hl1 (hle _ _ _ _ (he u b hb))
end
end Ab
namespace Ab
open Go
variable [Draws]
section
variable {P:Program}[Globals P]{T:Tab}{f:FuncId}{fn:Func}{n m:Nat}{C:Cx}{R:AV→List (Option AObj)→Prop}{todo todo' k:List Item}{env env0 env' envF:Env}{objs objs' objs1 objs2:List (Option AObj)}{nd:Prop}{ops:Array Oper}{l:List Oper}{K:Env→Prop}{X:Nat→Prop}{O:List Nat→List (Option AObj)}
theorem z2q{L:List Nat}{j:Nat}(hO:O (j::L)=O L){π:List Value}{w w2:World}(hm:Mem X π (O L) w)(l:Later w w2):StepX X O m ops envF L j π w π w2:=by
 have htr:=l.tr hm;refine⟨by rw [hO];exact htr.mem,by rw [hO];exact htr.hist,fun t a v _ _ h=>?_⟩;rw [hO];exact z2l l h
theorem zqo{j:Nat}{o:Oper}(hO:∀L,O (j::L)=O L)(h:∀L,z3g P n X (O L) ops envF o):HeadX P n X O m ops envF j o:=by
 intro L _ _ _ _ π w tmps hs hm hgk hl;rcases h L π w tmps hs hm hgk hl with⟨hw,hp⟩|⟨hw,⟨v,w2,hr,hlt,hp⟩|⟨g,args,hr,hc⟩⟩
 ·exact .inl ⟨hw,π,z2q (hO L) hm (.refl w),by rw [hO];exact hp⟩
 ·exact .inr ⟨hw,.inl ⟨v,w2,π,hr,z2q (hO L) hm hlt,by rw [hO];exact hp⟩⟩
 ·refine .inr ⟨hw,.inr (.inr ⟨g,args,hr,hc.mono fun e w2 ⟨v,h1,h2,h3⟩=>⟨v,π,h1,z2q (hO L) hm h2,by rw [hO];exact h3⟩⟩)⟩
theorem zgd{j:Nat}{o:Oper}{E:Env}{a:AV}{c:Option Prop}{d:Nat}(hT:TabOk P T)(hw:wantE ops (restr E (o.looksAt ops)) o=.yes)(hE:∀t∈o.looksAt ops,∀b,look E t=some b→look envF t=some b)
  (hs:∀L,estep T o (restr E (o.looksAt ops)) (O L)=some ⟨c,false,a,none,O L⟩) (hO:∀L,O (j::L)=O L) (hc:cond c) (hdst:o.dst=some d) (hdn:Nat.blt d n=true) (hlook:look envF d=some a):HeadX P n X O m ops envF j o:=by
 intro L _ hjL _ _ π w tmps hsz hm hgk hlk;have he:z17 w (okOf X π (O L)) π (restr E (o.looksAt ops)) tmps:=fun t b ht=>by
  obtain⟨h1,h2⟩:=z1c ht;exact hlk t h1 b (hE t h1 b h2)
 have hst:=z4z (ds:=[]) hT hm he o;rw [hs L]at hst;obtain⟨v,w',π',h1,h2,h3⟩:=hst hc;refine .inr ⟨(zt he).1 hw,.inl ⟨v,w',π',h1,⟨by rw [hO];exact h2.mem,by rw [hO];exact h2.hist,fun t a u _ _ hu=>by rw [hO];exact h2.keep _ _ hu⟩,fun d' hd=>?_⟩⟩;rw [hdst]at hd;cases hd;refine⟨by simpa [Nat.blt_eq]using hdn,a,hlook,by rw [hO];exact h3 rfl⟩
theorem zhu{π:List Value}{objs:List (Option AObj)}{w:World}(hm:Mem X π objs w){p i:Nat}{vh:Value}(hh:nth objs p=some (some (.hold (.gs i) vh))):RelV w (okOf X π objs) π (.gs i) vh:=by
 obtain⟨h,hp,hr⟩:=hm.obj p _ hh;cases hr with|hold h=>exact h
theorem zns{w:World}{ok:Nat→Prop}{π:List Value}{i:Nat}{v u:Value}(h:RelV w ok π (.gs i) v)(k:RelV w ok π (.gs i) u):v=u:=by
 cases h with
 | gs h=>cases k with
  | gs k=>
   rw [h]at k;cases k;rfl
theorem zes{j q p i:Nat}{o:Oper}{E:Env}{d:Nat}{vh:Value}(hT:TabOk P T)(hw:wantE ops (restr E (o.looksAt ops)) o=.yes)(hE:∀t∈o.looksAt ops,∀b,look E t=some b→look envF t=some b)
  (hq:z1a ops q j=true) (hp:∀L,q∉L→pstep T o (restr E (o.looksAt ops)) (O L)=.ok (.gs i)) (hh:∀L,q∉L→nth (O L) p=some (some (.hold (.gs i) vh))) (hfl:flat vh=true) (hO:∀L,O (j::L)=O L)
  (hdst:o.dst=some d) (hdn:Nat.blt d n=true) (hlook:look envF d=some (.d (.v vh))):HeadX P n X O m ops envF j o:=by
 intro L _ hjL _ hcl π w tmps hsz hm hgk hlk;have hqL:q∉L:=fun h=>hjL (hcl q h j hq)
 have he:z17 w (okOf X π (O L)) π (restr E (o.looksAt ops)) tmps:=fun t b ht=>by
  obtain⟨h1,h2⟩:=z1c ht;exact hlk t h1 b (hE t h1 b h2)
 have hdo:=z47 (ds:=[]) hT hm he o;rw [hp L hqL]at hdo;obtain⟨v,d1,d2⟩:=hdo;obtain rfl:=zns d1 (zhu hm (hh L hqL));refine .inr ⟨(zt he).1 hw,.inl ⟨v,w,π,d2 w (.refl w),z2q (hO L) hm (.refl w),fun d' hd=>?_⟩⟩;rw [hdst]at hd;cases hd;exact⟨by simpa [Nat.blt_eq]using hdn,_,hlook,.d (.v hfl)⟩
theorem zkn{e q1 q2 late:Nat}{aL:AV}{envR E:Env}(ι:List Nat){oe:Oper}{d:Tmp}{g:FuncId}{az bs:List AV}{objs0:List (Option AObj)}{R':AV→List (Option AObj)→Prop}{r0:AV}
  (hE:∀t∈oe.looksAt ops,∀b,look E t=some b→look envF t=some b) (hF:envF=(late,aL)::envR) (hdr:z41 (memN ι) envR=envR) (hq1:z1a ops q1 q2=true) (hq2:z1a ops q2 e=true) (hq1m:q1<m)
  (hlate:dstIs ops q1 late=true) (honly:((List.range ops.size).all fun q=>q==q1||!dstIs ops q late)=true)
  (hO0:∀L,e∉L→q1∉L→O L=objs') (hO1:∀L,e∉L→q1∉L→O (e::L)=objs1)
  (hdst:oe.dst=some d) (hdn:Nat.blt d n=true) (hlook:look envF d=some r0) (hw:wantE ops (restr E (oe.looksAt ops)) oe=.yes) (hco:z5k (restr E (oe.looksAt ops)) oe=some (g,az)) (hen:∀args w,(callFunc g args).run P w=.ok (.enter g args) w)
  (hc:ACall P g bs objs0 R') (hs:subR (rho ι objs'.length) objs' ι objs0) (hv:VLs az (AV.rens (rho ι objs'.length) bs)) (hnd:z3y ι=true) (hd:refsBs ι.length bs=true) (hro:refsO ι.length objs0=true)
  (hr:∀r o,R' r o→r.ren (rho ι objs'.length)=r0∧z3d ι o objs'=objs1):HeadX P n X O m ops envF e oe:=by
 intro L hLm heL hdeps hcl π w tmps hsz hm hgk hlk;have hq1L:q1∉L:=fun h=>heL (hcl q2 (hcl q1 h q2 hq1) e hq2)
 have hOL:=hO0 L heL hq1L;have hOj:=hO1 L heL hq1L;rw [hOL]at hm hgk hlk;have he:z17 w (okOf X π objs') π (restr E (oe.looksAt ops)) tmps:=fun t b ht=>by
  obtain⟨h1,h2⟩:=z1c ht;exact hlk t h1 b (hE t h1 b h2)
 obtain⟨vs,c1,c2⟩:=z3k he hco;refine .inr ⟨(zt he).1 hw,.inr (.inr ⟨g,vs.toArray,by rw [c2,hen],?_⟩)⟩;have hargs:RelVs w (okOf (lendX X π objs' ι) (lendP π ι) objs0) (lendP π ι) bs vs:=by
  refine RelVs.unren (m:=ι.length) (z4e hm hs) ?_ bs hd (hv.rel c1);intro j' h' hj' hh';obtain⟨i',hi'⟩:∃i',nth ι j'=some i':=by
   rw [z1p];exact⟨ι[j'],List.getElem?_eq_getElem hj'⟩
  rw [z9i hi']at hh';rw [z2c hi' (z1t hh')];exact hh'
 rcases hc _ _ w vs (z8o hgk hm hs) (z8n hm hs hnd hro) hargs with⟨_,hcl2⟩|⟨v,w',hcl2,_⟩
 ·refine hcl2.mono ?_;rintro e2 w2 ⟨v,r,o,π',rfl,hR,hm',hrel,hhist⟩;have L2:=lended hm hs hnd hm' hhist;obtain⟨e3,e4⟩:=hr r o hR;have hmem:=L2.mem;have hhst:=L2.hist;have hkp:=L2.keep;have hbk:=L2.back _ _ hrel;rw [e4]at hmem hhst hkp hbk;rw [e3]at hbk;refine⟨v,z2b ι π' π,rfl,⟨by rw [hOj];exact hmem,by rw [hOL,hOj];exact hhst,fun t a u ht hlv hau=>?_⟩,fun d' hd'=>?_⟩
  ·rw [hOL]at hau;have htl:late≠t:=by
    rintro rfl;rcases hlv with⟨q,hqL,o',ho',hd'⟩|hfree
    ·have hqs:=(Array.getElem?_eq_some_iff.1 ho').1;have h1:=List.all_eq_true.1 honly q (List.mem_range.2 hqs);rw [zp.2 ⟨o',ho',hd'⟩]at h1;simp only [Bool.not_true,Bool.or_false,beq_iff_eq]at h1;exact hq1L (h1▸hqL)
    ·rw [hfree q1 hq1m]at hlate;cases hlate
   rw [hF,zx,if_neg htl]at ht;have:=hkp a u hau;rw [z65 hdr ht]at this;rw [hOj];exact this
  ·rw [hdst]at hd';cases hd';exact⟨by simpa [Nat.blt_eq]using hdn,r0,hlook,by rw [hOj];exact hbk⟩
 ·rw [hen]at hcl2;cases hcl2
theorem z6w{i:Nat}{env:Env}(h:z56 i env=env){t:Tmp}{a:AV}(ht:look env t=some a):a.drop i=a:=by
 have:=z6r i env t;rw [h,ht]at this;simpa using this.symm
theorem zno{j p i late tv:Nat}{o:Oper}{E' envR:Env}{c:Option Prop}{vh:Value}(hT:TabOk P T)(hw:wantE ops E' o=.yes)(hE:∀t b,look E' t=some b→t∈o.looksAt ops∧((t=tv∧b=.gs i)∨look envF t=some b))(htv:look envF tv=some (.d (.v vh)))
  (hF:envF=(late,.gs i)::envR) (hdr:z56 i envR=envR) (hjm:j<m) (hoj:ops[j]?=some o) (honly:((List.range ops.size).all fun q=>q==j||!dstIs ops q late)=true)
  (hO1:∀L,j∉L→(∀q,z1a ops j q=true→q∈L)→(∀q∈L,∀q',z1a ops q q'=true→q'∈L)→O L=objs1) (hO2:∀L,O (j::L)=objs2) (hh:nth objs1 p=some (some (.hold (.gs i) vh)))
  (hs:estep T o E' objs1=some ⟨c,false,.gs i,some i,objs2⟩) (hc:cond c) (hdst:o.dst=some late) (hdn:Nat.blt late n=true):HeadX P n X O m ops envF j o:=by
 intro L _ hjL hdeps hcl π w tmps hsz hm hgk hlk;have hOL:=hO1 L hjL hdeps hcl;have hOj:=hO2 L;rw [hOL]at hm hgk hlk;have hheld:=zhu hm hh;have he:z17 w (okOf X π objs1) π E' tmps:=fun t b ht=>by
  obtain⟨h1,h2⟩:=hE t b ht;rcases h2 with⟨rfl,rfl⟩|h2
  ·have:=hlk t h1 _ htv;cases this with
   | d h=>cases h with|v _=>exact hheld
  ·exact hlk t h1 b h2
 have hst:=z4z (ds:=[]) hT hm he o;rw [hs]at hst;obtain⟨v,w',π',h1,h2,h3⟩:=hst hc;refine .inr ⟨(zt he).1 hw,.inl ⟨v,w',π',h1,⟨by rw [hOj];exact h2.mem,by rw [hOL,hOj];exact h2.hist,fun t a u ht hlv hu=>?_⟩,fun d' hd=>?_⟩⟩
 ·rw [hOL]at hu;have htl:late≠t:=by
   rintro rfl;rcases hlv with⟨q,hqL,o',ho',hd'⟩|hfree
   ·have hqs:=(Array.getElem?_eq_some_iff.1 ho').1;have h4:=List.all_eq_true.1 honly q (List.mem_range.2 hqs);rw [zp.2 ⟨o',ho',hd'⟩]at h4;simp only [Bool.not_true,Bool.or_false,beq_iff_eq]at h4;exact hjL (h4▸hqL)
   ·have:=hfree j hjm;rw [zp.2 ⟨o,hoj,hdst⟩]at this;cases this
  rw [hF,zx,if_neg htl]at ht;have:=h2.keep _ _ hu;rw [keepQ,z6w hdr ht]at this;rw [hOj];exact this
 ·rw [hdst]at hd;cases hd;exact⟨by simpa [Nat.blt_eq]using hdn,.gs i,by rw [hF,zx,if_pos rfl],by rw [hOj];exact h3 rfl⟩
theorem zaw(m:Nat)(A:Acts)(O:List Nat→List (Option AObj))(E:Env){id:Nat}{objsF:List (Option AObj)}(hT:TabOk P T)(hf:P.funcs[f]?=some fn)(hmx:P.follows .mixedOrders=true)(h:srun T n fn.results.toList 2000 True todo env objs=.draw nd id ops k env' objs')(hn:nd)
  (hB:drawB ops m=true) (hsee:seeB ops m A=true) (hO0:O []=objs') (hOF:∀L,(∀i,i<m→i∈L)→O L=objsF) (hOj:∀j L,actB A j=false→O (j::L)=O L)
  (hAm:(A.all fun x=>Nat.blt x.1 m)=true) (hD:∀L,DSat P n C.X (O L) ops (fun x=>x=E) (z15 ops m A) env')
  (hA:∀x∈A,∃oe,ops[x.1]?=some oe∧oe.dst=x.2.map (·.1)∧HeadX P n C.X O m ops (actE A++E) x.1 oe)
  (hk:ASat P f n C (.inRegion ops (List.range' m (ops.size-m))::k) (actE A++E) objsF R) (hGk:GOk P C.π C.objs C.w:=by with_reducible assumption):ASat P f n C todo env objs R:=by
 have hq:∀{j:Nat} {o:Oper},j<m→actB A j=false→ops[j]?=some o→o∈z15 ops m A:=by
  intro j o hj hb ho;unfold z15;rw [List.mem_filterMap];exact⟨j,List.mem_filter.2 ⟨List.mem_range.2 hj,by rw [hb];rfl⟩,ho⟩
 have hns:∀{j:Nat} {o:Oper},j<m→actB A j=false→ops[j]?=some o→∀x∈actE A,x.1∉o.looksAt ops∧o.dst≠some x.1:=by
  intro j o hj hb ho x hx;have h1:=List.all_eq_true.1 hsee j (List.mem_range.2 hj);rw [hb,ho]at h1;have h1':((actE A).all fun x=>!(o.looksAt ops).contains x.1&&o.dst !=some x.1)=true:=by simpa only [Bool.false_or]using h1
  have h2:=List.all_eq_true.1 h1' x hx;simpa using h2
 suffices hcc:Cont P f n C R (.draw nd id ops k env' objs')from(z1o hT hf 2000 True todo env objs (by rw [h];exact hcc)).2
 refine⟨hn,z9r hmx hB (envF:=actE A++E) ?_ hO0 hOF ?_ hk⟩
 ·intro j o hj ho;cases hb:actB A j with
  | false=>
   refine zqo (fun L=>hOj j L hb) fun L=>?_;obtain⟨E0,a1,a2,a3,rfl⟩:=hD L;have hn2:=hns hj hb ho;refine zdd (fun t ht=>z4o fun x hx e=>(hn2 x hx).1 (e▸ht)) (fun d hd=>z4o fun x hx e=>(hn2 x hx).2 (e▸hd)) (a3 o (hq hj hb ho))
  | true=>
   obtain⟨x,hx,hxe⟩:=List.any_eq_true.1 hb;obtain rfl:x.1=j:=Nat.eq_of_beq_eq_true hxe;obtain⟨oe,h1,_,h3⟩:=hA x hx;rw [ho]at h1;cases h1;exact h3
 ·intro t ht a ha;have hne:∀x∈actE A,x.1≠t:=by
   rintro x hx rfl;obtain⟨y,hy,hyx⟩:=List.mem_filterMap.1 hx;obtain⟨oe,h1,h2,_⟩:=hA y hy;rw [hyx]at h2;have hym:=List.all_eq_true.1 hAm y hy;have:=ht y.1 (by simpa [Nat.blt_eq]using hym);rw [zp.2 ⟨oe,h1,by simpa using h2⟩]at this;cases this
  rw [z4o hne]at ha;obtain⟨E0,a1,a2,a3,rfl⟩:=hD [];refine a1 t (fun o ho hd=>?_) a ha;unfold z15 at ho;rw [List.mem_filterMap]at ho;obtain⟨j,hj,ho⟩:=ho;have hj:=List.mem_range.1 (List.mem_filter.1 hj).1;have:=ht j hj;rw [zp.2 ⟨o,ho,hd⟩]at this;cases this
def twoO(e9 e7:Nat)(o0 o1 o2:List (Option AObj))(L:List Nat):List (Option AObj):=if e9∈L then o2 else if e7∈L then o1 else o0
theorem zrq{p:List (Option AObj)→Prop}{e9 e7:Nat}{o0 o1 o2:List (Option AObj)}{L:List Nat}(h0:p o0)(h1:p o1)(h:e9∉L):p (twoO e9 e7 o0 o1 o2 L):=by
 rw [twoO,if_neg h];split
 ·exact h1
 ·exact h0
theorem zrp{p:List (Option AObj)→Prop}{e9 e7:Nat}{o0 o1 o2:List (Option AObj)}{L:List Nat}(h0:p o0)(h1:p o1)(h2:p o2):p (twoO e9 e7 o0 o1 o2 L):=by
 rw [twoO];split
 ·exact h2
 ·split
  ·exact h1
  ·exact h0
theorem zdz{e9 e7 j:Nat}{o0 o1 o2:List (Option AObj)}{L:List Nat}(h9:j≠e9)(h7:j≠e7):twoO e9 e7 o0 o1 o2 (j::L)=twoO e9 e7 o0 o1 o2 L:=by
 simp only [twoO,List.mem_cons,Ne.symm h9,Ne.symm h7,false_or]
theorem zk5(m e9 e7:Nat)(A:Acts)(objs1 objs2:List (Option AObj))(E:Env){id:Nat}(hT:TabOk P T)(hf:P.funcs[f]?=some fn)(hmx:P.follows .mixedOrders=true)(h:srun T n fn.results.toList 2000 True todo env objs=.draw nd id ops k env' objs')(hn:nd)
  (hB:drawB ops m=true) (hsee:seeB ops m A=true) (h9m:Nat.blt e9 m=true) (h9:actB A e9=true) (h7:actB A e7=true)
  (hAm:(A.all fun x=>Nat.blt x.1 m)=true) (hD0:DSat P n C.X objs' ops (fun x=>x=E) (z15 ops m A) env') (hD1:DSat P n C.X objs1 ops (fun x=>x=E) (z15 ops m A) env') (hD2:DSat P n C.X objs2 ops (fun x=>x=E) (z15 ops m A) env')
  (hA:∀x∈A,∃oe,ops[x.1]?=some oe∧oe.dst=x.2.map (·.1)∧HeadX P n C.X (twoO e9 e7 objs' objs1 objs2) m ops (actE A++E) x.1 oe)
  (hk:ASat P f n C (.inRegion ops (List.range' m (ops.size-m))::k) (actE A++E) objs2 R) (hGk:GOk P C.π C.objs C.w:=by with_reducible assumption):ASat P f n C todo env objs R:=by
 refine zaw m A (twoO e9 e7 objs' objs1 objs2) E hT hf hmx h hn hB hsee (by simp [twoO]) (fun L hL=>by rw [twoO,if_pos (hL e9 (by simpa [Nat.blt_eq]using h9m))]) (fun j L hj=>?_) hAm (fun L=>?_) hA hk
 ·refine zdz ?_ ?_
  ·rintro rfl;rw [h9]at hj;cases hj
  ·rintro rfl;rw [h7]at hj;cases hj
 ·exact zrp (p:=fun o=>DSat P n C.X o ops (fun x=>x=E) (z15 ops m A) env') hD0 hD1 hD2
theorem znn{j e9 e7 p i:Nat}{o:Oper}{E:Env}{d:Nat}{vh:Value}{objs0:List (Option AObj)}(hT:TabOk P T)(hw:wantE ops (restr E (o.looksAt ops)) o=.yes)(hE:∀t∈o.looksAt ops,∀b,look E t=some b→look envF t=some b)
  (hq:z1a ops e9 j=true) (hp0:pstep T o (restr E (o.looksAt ops)) objs0=.ok (.gs i)) (hp1:pstep T o (restr E (o.looksAt ops)) objs1=.ok (.gs i)) (hh0:nth objs0 p=some (some (.hold (.gs i) vh))) (hh1:nth objs1 p=some (some (.hold (.gs i) vh))) (hfl:flat vh=true) (hj9:j≠e9) (hj7:j≠e7)
  (hdst:o.dst=some d) (hdn:Nat.blt d n=true) (hlook:look envF d=some (.d (.v vh))):HeadX P n X (twoO e9 e7 objs0 objs1 objs2) m ops envF j o:=
 zes hT hw hE hq (fun L hL=>zrq (p:=fun ob=>pstep T o (restr E (o.looksAt ops)) ob=.ok (.gs i)) hp0 hp1 hL) (fun L hL=>zrq (p:=fun ob=>nth ob p=some (some (.hold (.gs i) vh))) hh0 hh1 hL) hfl (fun L=>zdz hj9 hj7) hdst hdn hlook
theorem zkm{j e9 e7:Nat}{o:Oper}{E:Env}{a:AV}{c:Option Prop}{d:Nat}{objs0:List (Option AObj)}(hT:TabOk P T)(hw:wantE ops (restr E (o.looksAt ops)) o=.yes)(hE:∀t∈o.looksAt ops,∀b,look E t=some b→look envF t=some b)
  (hs0:estep T o (restr E (o.looksAt ops)) objs0=some ⟨c,false,a,none,objs0⟩) (hs1:estep T o (restr E (o.looksAt ops)) objs1=some ⟨c,false,a,none,objs1⟩) (hs2:estep T o (restr E (o.looksAt ops)) objs2=some ⟨c,false,a,none,objs2⟩) (hj9:j≠e9) (hj7:j≠e7) (hc:cond c) (hdst:o.dst=some d) (hdn:Nat.blt d n=true) (hlook:look envF d=some a):HeadX P n X (twoO e9 e7 objs0 objs1 objs2) m ops envF j o:=
 zgd hT hw hE (fun L=>zrp (p:=fun ob=>estep T o (restr E (o.looksAt ops)) ob=some ⟨c,false,a,none,ob⟩) hs0 hs1 hs2) (fun L=>zdz hj9 hj7) hc hdst hdn hlook
theorem zko{j e8 e7 p i late tv:Nat}{o:Oper}{E' envR:Env}{c:Option Prop}{vh:Value}{objs0:List (Option AObj)}(hT:TabOk P T)(hw:wantE ops E' o=.yes)(hE:∀t b,look E' t=some b→t∈o.looksAt ops∧((t=tv∧b=.gs i)∨look envF t=some b))(htv:look envF tv=some (.d (.v vh)))
  (hF:envF=(late,.gs i)::envR) (hdr:z56 i envR=envR) (hjm:Nat.blt j m=true) (hoj:ops[j]?=some o) (honly:((List.range ops.size).all fun q=>q==j||!dstIs ops q late)=true)
  (h98:z1a ops j e8=true) (h87:z1a ops e8 e7=true) (hh:nth objs1 p=some (some (.hold (.gs i) vh)))
  (hs:estep T o E' objs1=some ⟨c,false,.gs i,some i,objs2⟩) (hc:cond c) (hdst:o.dst=some late) (hdn:Nat.blt late n=true):HeadX P n X (twoO j e7 objs0 objs1 objs2) m ops envF j o:=
 zno hT hw hE htv hF hdr (by simpa [Nat.blt_eq]using hjm) hoj honly (fun L h1 h2 h3=>by rw [twoO,if_neg h1,if_pos (h3 e8 (h2 e8 h98) e7 h87)]) (fun L=>by rw [twoO,if_pos (List.mem_cons_self ..)]) hh hs hc hdst hdn
theorem zhw{e e9 e8 late:Nat}{aL:AV}{envR E:Env}(ι:List Nat){oe:Oper}{d:Tmp}{g:FuncId}{az bs:List AV}{objs0:List (Option AObj)}{R':AV→List (Option AObj)→Prop}{r0:AV}
  (hE:∀t∈oe.looksAt ops,∀b,look E t=some b→look envF t=some b) (hF:envF=(late,aL)::envR) (hdr:z41 (memN ι) envR=envR) (h98:z1a ops e9 e8=true) (h87:z1a ops e8 e=true) (h9m:Nat.blt e9 m=true)
  (hlate:dstIs ops e9 late=true) (honly:((List.range ops.size).all fun q=>q==e9||!dstIs ops q late)=true) (hne:e≠e9)
  (hdst:oe.dst=some d) (hdn:Nat.blt d n=true) (hlook:look envF d=some r0) (hw:wantE ops (restr E (oe.looksAt ops)) oe=.yes) (hco:z5k (restr E (oe.looksAt ops)) oe=some (g,az)) (hen:∀args w,(callFunc g args).run P w=.ok (.enter g args) w)
  (hc:ACall P g bs objs0 R') (hs:subR (rho ι objs'.length) objs' ι objs0) (hv:VLs az (AV.rens (rho ι objs'.length) bs)) (hnd:z3y ι=true) (hd:refsBs ι.length bs=true) (hro:refsO ι.length objs0=true)
  (hr:∀r o,R' r o→r.ren (rho ι objs'.length)=r0∧z3d ι o objs'=objs1):HeadX P n X (twoO e9 e objs' objs1 objs2) m ops envF e oe:=
 zkn ι hE hF hdr h98 h87 (by simpa [Nat.blt_eq]using h9m) hlate honly (fun L h1 h2=>by rw [twoO,if_neg h2,if_neg h1]) (fun L h1 h2=>by rw [twoO,if_neg (by rw [List.mem_cons];exact fun h=>h.elim (fun h=>hne h.symm) h2),if_pos (List.mem_cons_self ..)]) hdst hdn hlook hw hco hen hc hs hv hnd hd hro hr
theorem zav(i:Nat){e:TypeId}{s:Nat}{xs:List D}{rd:Nat→D}(ho:nth objs i=some (some (.grow e s xs rd)))(k:∀v,flat v=true→ASat P f n C todo env (objs++[some (.hold (.gs i) v)]) R):ASat P f n C todo env objs R:=by
 intro π w tmps hn hm hh he;obtain⟨v,hp,hrel⟩:=hm.obj i _ ho;have hv:RelV w (okOf C.X π objs) π (.gs i) v:=by
  cases hrel with
  | gnil=>exact .gs hp
  | grow _ _ _ _ _ _ _ _=>exact .gs hp
 have hfl:flat v=true:=by cases hrel<;>rfl
 have htr:Tr C.X π objs w none (π++[.tuple #[]]) (objs++[some (.hold (.gs i) v)]) w:=
  z4j hm rfl rfl ⟨rfl,z18 (Nat.le_refl _)⟩ (Nat.le_refl _) (fun _ _=>rfl) _ _ (by intro b e;cases e)
   (.hold (hv.mono (z5g (fun _ _=>rfl) _ _ hm.len (by intro b e;cases e)) (za3 _)))
 exact k v hfl _ w tmps hn htr.mem (z1w hh htr) (z4r he htr)
end
end Ab
