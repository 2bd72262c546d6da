/- A part of the proof. -/
import Derived.Test.YtbodbhpdelgpnaaGreatDoorP7
import Derived.Orders
set_option linter.unusedVariables false
set_option linter.unusedSimpArgs false
set_option linter.unusedSectionVars false
set_option maxRecDepth 100000
set_option maxHeartbeats 8000000
namespace Ab
open Go
variable [Draws]
def znf(o:Oper)(i:Nat):Bool:=o.after.any fun e=>Region.binds .any e&&e.on==i
def zv(ops:Array Oper)(j i:Nat):Bool:=match ops[j]? with|some o=>znf o i|none=>false
def backB(ops:Array Oper):Bool:=(List.range ops.size).all fun j=>match ops[j]? with|some o=>o.after.all (fun e=>!Region.binds .any e||decide (e.on<j))|none=>true
def zhq(ops:Array Oper)(n:Nat):Bool:=(List.range n).all fun i=>(List.range (n+1)).any fun j=>decide (i<j)&&zv ops j i
def zbg(ops:Array Oper)(n:Nat):Bool:=(List.range ops.size).all fun t=>decide (t≤n)||zv ops t (t-1)
def dstIs(ops:Array Oper)(k:Nat)(t:Tmp):Bool:=match ops[k]? with|some o=>(match o.dst with|some d=>d==t|none=>false)|none=>false
def z3l(ops:Array Oper)(o:Oper)(k:Nat):Bool:=match o.dst with|some d=>!dstIs ops k d|none=>true
def ziw(ops:Array Oper)(n:Nat):Bool:=(List.range n).all fun j=>match ops[j]? with
 | some o=>(List.range n).all fun k=>(decide (k=j)||z3l ops o k)&&(o.looksAt ops).all fun t=>!dstIs ops k t||zv ops j k
 | none=>true
def drawB(ops:Array Oper)(n:Nat):Bool:=decide (n<ops.size)&&backB ops&&zhq ops n&&zbg ops n&&ziw ops n
theorem zfx{o:Oper}{i:Nat}(h:znf o i=true):∃e∈o.after,Region.binds .any e=true∧e.on=i:=by
 obtain⟨e,he,hb⟩:=Array.any_eq_true'.1 h;simp only [Bool.and_eq_true,beq_iff_eq]at hb;exact⟨e,he,hb⟩
theorem zz{ops:Array Oper}{j i:Nat}(h:zv ops j i=true):∃o,ops[j]?=some o∧∃e∈o.after,Region.binds .any e=true∧e.on=i:=by
 unfold zv at h;split at h
 ·rename_i o ho;exact⟨o,ho,zfx h⟩
 ·cases h
structure Lst(ops:Array Oper)(n:Nat)(L:List Nat)(listed:Array Bool):Prop where
 size:listed.size=ops.size
 mem:∀i,i<ops.size→(listed.getD i false=true↔i∈L)
 nd:L.Nodup
 lt:∀i∈L,i<n
 cl:∀i∈L,∀o,ops[i]?=some o→∀e∈o.after,Region.binds .any e=true→e.on∈L
theorem ze0{l:Array Bool}{i:Nat}(h:i<l.size):l.getD i true=l.getD i false:=by simp [h]
theorem z1v{ops:Array Oper}{n:Nat}{L:List Nat}{listed:Array Bool}(hn:n≤ops.size)(h:Lst ops n L listed){i:Nat}:i∈Region.ready .any ops listed↔i<ops.size∧i∉L∧∃o,ops[i]?=some o∧∀e∈o.after,Region.binds .any e=true→listed.getD e.on false=true:=by
 rw [mem_ready];constructor
 ·rintro⟨h1,o,h2,h3⟩;have hi:i<ops.size:=(Array.getElem?_eq_some_iff.1 h2).1;refine⟨hi,fun hL=>?_,o,h2,h3⟩;rw [ze0 (by rw [h.size];exact hi)]at h1;rw [(h.mem i hi).2 hL]at h1;cases h1
 ·rintro⟨hi,hL,o,h2,h3⟩;refine⟨?_,o,h2,h3⟩;rw [ze0 (by rw [h.size];exact hi)];cases hb:listed.getD i false with
  | false=>rfl
  | true=>exact absurd ((h.mem i hi).1 hb) hL
theorem z2g{ops:Array Oper}(h:backB ops=true){j:Nat}{o:Oper}(ho:ops[j]?=some o){e:Edge}(he:e∈o.after)(hb:Region.binds .any e=true):e.on<j:=by
 have hj:j<ops.size:=(Array.getElem?_eq_some_iff.1 ho).1;have:=List.all_eq_true.1 h j (List.mem_range.2 hj);rw [ho]at this;have:=Array.all_eq_true'.1 this e he;simpa [hb]using this
theorem z1f{ops:Array Oper}{n:Nat}{L:List Nat}{listed:Array Bool}(h:Lst ops n L listed){i:Nat}(hi:listed.getD i false=true):i∈L:=by
 rcases Nat.lt_or_ge i ops.size with hlt|hge
 ·exact(h.mem i hlt).1 hi
 ·have:listed.getD i false=false:=by simp [h.size,hge]
  rw [this]at hi;cases hi
theorem z5f{ops:Array Oper}{n:Nat}{L:List Nat}{listed:Array Bool}(hn:n≤ops.size)(hs:zhq ops n=true)(hb:backB ops=true)(h:Lst ops n L listed){j:Nat}(hj:n≤j)(hc:zbg ops n=true)(hr:j∈Region.ready .any ops listed):j=n∧∀i,i<n→i∈L:=by
 obtain⟨hjs,hjL,o,ho,hall⟩:=(z1v hn h).1 hr;have hjn:j=n:=by
  apply Decidable.byContradiction;intro hne;have:=List.all_eq_true.1 hc j (List.mem_range.2 hjs);simp only [Bool.or_eq_true,decide_eq_true_eq]at this;obtain⟨o',ho',e,he,hbe,heq⟩:=zz (this.resolve_left (by omega));rw [ho]at ho';cases ho';have h1:=z1f h (hall e he hbe);have:=h.lt _ h1;omega
 subst hjn;refine⟨rfl,?_⟩;have key:∀m i,i<j→j-i≤m→i∈L:=by
  intro m;induction m with
  | zero=>intro i hi hm;omega
  | succ m ih=>
   intro i hi hm;have:=List.all_eq_true.1 hs i (List.mem_range.2 hi);obtain⟨k,hk,hk2⟩:=List.any_eq_true.1 this;simp only [Bool.and_eq_true,decide_eq_true_eq]at hk2;obtain⟨o',ho',e,he,hbe,heq⟩:=zz hk2.2;have hkr:=List.mem_range.1 hk;by_cases e1:k=j
   ·subst e1;rw [ho]at ho';cases ho';rw [←heq];exact z1f h (hall e he hbe)
   ·have:=h.cl k (ih k (by omega) (by omega)) o' ho' e he hbe;rwa [heq]at this
 exact fun i hi=>key (j-i) i hi (Nat.le_refl _)
theorem zjr{l:List Nat}(hn:l.Nodup){p:Nat→Bool}{x:Nat}(h:∀y,y∈l.filter p↔y=x):l.filter p=[x]:=by
 have hnd:(l.filter p).Nodup:=hn.sublist List.filter_sublist;cases hl:l.filter p with
 | nil=>have:=(h x).2 rfl;rw [hl]at this;simp at this
 | cons y r=>
  rw [hl]at hnd h;have hy:y=x:=(h y).1 List.mem_cons_self;subst hy;rw [List.nodup_cons]at hnd;cases r with
  | nil=>rfl
  | cons z r=>
   have hz:z=y:=(h z).1 (by simp);exact absurd (by rw [hz];simp) hnd.1
theorem z8x(md:Region.Mode)(ops:Array Oper)(g t:Nat)(listed:Array Bool):Region.linearise.go md ops (g+1) t listed []=match (Region.ready md ops listed)[t%(Region.ready md ops listed).length]? with
  | some i=>i::Region.linearise.go md ops g (t / (Region.ready md ops listed).length) (listed.setIfInBounds i true) []
  | none=>[]:=by
 simp only [Region.linearise.go]
 change (match (Region.ready md ops listed)[t%(Region.ready md ops listed).length]? with
   | some i=>Region.linearise.go md ops g (t / (Region.ready md ops listed).length) (listed.setIfInBounds i true) [i]
   | none=>[].reverse)=_
 split
 ·rw [linearise_go_acc,List.reverse_singleton,List.singleton_append]
 ·rfl
theorem z73{ops:Array Oper}{n:Nat}(hb:backB ops=true)(hc:zbg ops n=true):∀(g t:Nat) (listed:Array Bool),n+g=ops.size∨(n≤ops.size-g∧g≤ops.size)→g≤ops.size→listed.size=ops.size→(∀i,i<ops.size→(listed.getD i false=true↔i<ops.size-g)) →
  Region.linearise.go .any ops g t listed []=List.range' (ops.size-g) g
 | 0,t,listed,_,_,_,_=>by simp [Region.linearise.go]
 | g+1,t,listed,hng,hg,hsz,hl=>by
  have hn:n≤ops.size-(g+1):=by omega
  have hr:Region.ready .any ops listed=[ops.size-(g+1)]:=by
   unfold Region.ready;refine zjr List.nodup_range fun y=>?_;have:=mem_ready (md:=.any) (ops:=ops) (j:=y) (listed:=listed);unfold Region.ready at this;rw [this];constructor
   ·rintro⟨h1,o,h2,h3⟩;have hy:y<ops.size:=(Array.getElem?_eq_some_iff.1 h2).1;rw [ze0 (by rw [hsz];exact hy)]at h1;have hge:¬y<ops.size-(g+1):=fun hh=>by rw [(hl y hy).2 hh]at h1;cases h1
    apply Decidable.byContradiction;intro hne;have hcc:=List.all_eq_true.1 hc y (List.mem_range.2 hy);simp only [Bool.or_eq_true,decide_eq_true_eq]at hcc;obtain⟨o',ho',e,he,hbe,heq⟩:=zz (hcc.resolve_left (by omega));rw [h2]at ho';cases ho';have h4:=h3 e he hbe;have:=(hl e.on (by omega)).1 h4;omega
   ·rintro rfl;have hlt:ops.size-(g+1)<ops.size:=by omega
    refine⟨?_,ops[ops.size-(g+1)],Array.getElem?_eq_getElem hlt,fun e he hbe=>?_⟩
    ·rw [ze0 (by rw [hsz];exact hlt)];cases hb2:listed.getD (ops.size-(g+1)) false with
     | false=>rfl
     | true=>have:=(hl _ hlt).1 hb2;omega
    ·have:=z2g hb (Array.getElem?_eq_getElem hlt) he hbe;exact(hl e.on (by omega)).2 this
  rw [z8x];simp only [hr,List.length_singleton,Nat.mod_one,List.getElem?_cons_zero];rw [List.range'_succ];congr 1;have:=z73 hb hc g (t / 1) (listed.setIfInBounds (ops.size-(g+1)) true) (by omega) (by omega) (by simpa using hsz) (fun i hi=>by
   by_cases e:ops.size-(g+1)=i
   ·subst e;rw [show(listed.setIfInBounds (ops.size-(g+1)) true).getD (ops.size-(g+1)) false=true by simp [hsz,hi]];simp;omega
   ·rw [show(listed.setIfInBounds (ops.size-(g+1)) true).getD i false=listed.getD i false by simp [Array.getElem?_setIfInBounds,e]];rw [hl i hi];omega)
  rw [this];congr 1;omega
end Ab
namespace Ab
open Go
variable [Draws]
theorem z1m:∀{a b:List Nat},a.Nodup→(∀y∈a,y∈b)→a.length≤b.length
 | [],_,_,_=>Nat.zero_le _
 | y::r,b,hn,hm=>by
  rw [List.nodup_cons]at hn;have hy:=hm y List.mem_cons_self;have:=z1m (b:=b.erase y) hn.2 fun z hz=>(List.mem_erase_of_ne (by rintro rfl;exact hn.1 hz)).2 (hm z (List.mem_cons_of_mem _ hz))
  rw [List.length_erase_of_mem hy]at this;have:=List.length_pos_of_mem hy;simp only [List.length_cons];omega
def restr(env:Env):List Tmp→Env
 | []=>[]
 | t::r=>match look env t with|some a=>(t,a)::restr env r|none=>restr env r
theorem z12{env:Env}:∀{ts:List Tmp} {t:Tmp} {a:AV},look (restr env ts) t=some a→t∈ts∧look env t=some a
 | [],_,_,h=>by simp [restr,look]at h
 | u::r,t,a,h=>by
  simp only [restr]at h;cases hu:look env u with
  | none=>rw [hu]at h;obtain⟨h1,h2⟩:=z12 h;exact⟨List.mem_cons_of_mem _ h1,h2⟩
  | some b=>
   rw [hu]at h;simp only [look]at h;split at h
   ·rename_i e;have e':u=t:=by simpa using e
    cases h;subst e';exact⟨List.mem_cons_self,hu⟩
   ·obtain⟨h1,h2⟩:=z12 h;exact⟨List.mem_cons_of_mem _ h1,h2⟩
def PutOk(n:Nat)(w:World)(ok:Nat→Prop)(π:List Value)(envF:Env)(o:Oper)(v:Value):Prop:=∀d,o.dst=some d→d<n∧∃b,look envF d=some b∧RelV w ok π b v
def z36(P:Program)[Globals P](n:Nat)(X:Nat→Prop)(objs:List (Option AObj))(ops:Array Oper)(envF:Env)(o:Oper):Prop:=
 ∀π w tmps,tmps.size=n→Mem X π objs w→GOk P π objs w→(∀t∈o.looksAt ops,∀a,look envF t=some a→RelV w (okOf X π objs) π a (tmps.getD t undef)) →
  (Region.wanted o (yielded ops tmps)=false∧PutOk n w (okOf X π objs) π envF o undef) ∨
  (Region.wanted o (yielded ops tmps)=true ∧
   ((∃v w2,(execOp (Act.eval ⟨tmps,[]⟩) o).run P w=.ok (.value v) w2∧Later w w2∧PutOk n w2 (okOf X π objs) π envF o v) ∨
    (∃g args,(execOp (Act.eval ⟨tmps,[]⟩) o).run P w=.ok (.enter g args) w∧Calls P g args w fun e w2=>∃v,e=.returned v∧Later w w2∧PutOk n w2 (okOf X π objs) π envF o v)))
theorem z2a{w w':World}{ok:Nat→Prop}{π:List Value}{a:AV}{v:Value}(l:Later w w')(h:RelV w ok π a v):RelV w' ok π a v:=
 h.mono (fun b o u h1 h2=>⟨h1,by
  have hb:=z32 h2;unfold World.cell? at h2 ⊢;rw [l.ext b hb];exact h2⟩) (fun _ _ h=>h)
section
variable {P:Program}[Globals P]{T:Tab}{f:FuncId}{fn:Func}{n m:Nat}{C:Cx}{R:AV→List (Option AObj)→Prop}{todo todo' k:List Item}{env env0 env' envF:Env}{objs objs':List (Option AObj)}{nd:Prop}{ops:Array Oper}{l:List Oper}{K:Env→Prop}{X:Nat→Prop}
theorem z1l{tmps:Array Value}{d t:Tmp}{v:Value}:(putT (some d) v tmps).getD t undef=if d=t∧d<tmps.size then v else tmps.getD t undef:=by
 simp only [putT,Array.getD_eq_getD_getElem?,Array.getElem?_setIfInBounds];by_cases h:d=t
 ·subst h;by_cases h2:d<tmps.size
  ·simp [h2]
  ·simp [h2]
 ·simp [h]
theorem zh{k:Nat}{t:Tmp}:dstIs ops k t=true↔∃o,ops[k]?=some o∧o.dst=some t:=by
 unfold dstIs;constructor
 ·intro h;split at h
  ·rename_i o ho;split at h
   ·rename_i d hd;exact⟨o,ho,by rw [hd];simpa using h⟩
   ·cases h
  ·cases h
 ·rintro⟨o,ho,hd⟩;rw [ho];simp [hd]
theorem zh6(hmx:P.follows .mixedOrders=true)(hB:drawB ops m=true)(hops:∀j o,j<m→ops[j]?=some o→z36 P n C.X objs ops envF o)
  (henv:∀t,(∀j,j<m→dstIs ops j t=false)→∀a,look envF t=some a→∃b,look env0 t=some b∧VLe b a)
  (hK:ASat P f n C (.inRegion ops (List.range' m (ops.size-m))::k) envF objs R) {id:Nat} (hG:GOk P C.π C.objs C.w:=by with_reducible assumption):ASat P f n C (.code (.region id ops true)::k) env0 objs R:=by
 simp only [drawB,Bool.and_eq_true,decide_eq_true_eq]at hB;obtain⟨⟨⟨⟨hms,hback⟩,hsink⟩,hchain⟩,hap⟩:=hB;have hap:∀j o,j<m→ops[j]?=some o→(∀k,k<m→k≠j→∀d,o.dst=some d→dstIs ops k d=false)∧∀k,k<m→∀t∈o.looksAt ops,dstIs ops k t=true→zv ops j k=true:=by
  intro j o hj ho;have h1:=List.all_eq_true.1 hap j (List.mem_range.2 hj);rw [ho]at h1;have h2:∀k,k<m→((decide (k=j)||z3l ops o k)=true∧(o.looksAt ops).all (fun t=>!dstIs ops k t||zv ops j k)=true):=fun k hk=>by
   have:=List.all_eq_true.1 h1 k (List.mem_range.2 hk);simpa only [Bool.and_eq_true]using this
  refine⟨fun k hk hne d hd=>?_,fun k hk t ht hd=>?_⟩
  ·have:=(h2 k hk).1;unfold z3l at this;rw [hd]at this;simpa [hne]using this
  ·have:=List.all_eq_true.1 (h2 k hk).2 t ht;simpa [hd]using this
 intro π w tmps0 hn hm hh he;have hl1:Later w { w with drawn:=w.drawn+1 }:=⟨rfl,rfl,⟨rfl,z17 (Nat.le_succ _)⟩,Nat.le_refl _,fun _ _=>rfl⟩
 have key:∀(fuel t:Nat) (listed:Array Bool) (L:List Nat) (tmps:Array Value) (w':World),Lst ops m L listed→L.length+fuel=ops.size→Later w w'→tmps.size=n →
   (∀j∈L,∀o,ops[j]?=some o→∀d,o.dst=some d→∃b,look envF d=some b∧RelV w' (okOf C.X π objs) π b (tmps.getD d undef)) →
   (∀t,(∀j∈L,dstIs ops j t=false)→tmps.getD t undef=tmps0.getD t undef) →
   Sat P f C.ds (.inRegion ops (Region.linearise.go .any ops fuel t listed [])::k) tmps w' (APost C R):=by
  intro fuel;induction fuel with
  | zero=>
   intro t listed L tmps w' hL hlen _ _ _ _;have:=z1m hL.nd (b:=List.range m) fun y hy=>List.mem_range.2 (hL.lt y hy)
   rw [List.length_range]at this;omega
  | succ fuel ih=>
   intro t listed L tmps w' hL hlen hlat hsz hdone hrest;have hLm:=z1m hL.nd (b:=List.range m) fun y hy=>List.mem_range.2 (hL.lt y hy)
   rw [List.length_range]at hLm;have htr:=hlat.tr hm;by_cases hall:∀i,i<m→i∈L
   ·have hml:=z1m (List.nodup_range (n:=m)) (b:=L) fun y hy=>hall y (List.mem_range.1 hy)
    rw [List.length_range]at hml;have hfu:fuel+1=ops.size-m:=by omega
    rw [hfu];have hg:=z73 hback hchain (ops.size-m) t listed (.inl (by omega)) (by omega) hL.size (fun i hi=>by
     rw [hL.mem i hi,show ops.size-(ops.size-m)=m by omega];exact⟨fun h=>hL.lt i h,fun h=>hall i h⟩)
    rw [hg,show ops.size-(ops.size-m)=m by omega];refine hK π w' tmps hsz htr.mem (z22 hh htr) fun u a hu=>?_;by_cases hd:∃j,j<m∧dstIs ops j u=true
    ·obtain⟨j,hj,hd⟩:=hd;obtain⟨o,ho,hdo⟩:=zh.1 hd;obtain⟨b,hb,hr⟩:=hdone j (hall j hj) o ho u hdo;rw [hu]at hb;cases hb;exact hr
    ·have hd':∀j,j<m→dstIs ops j u=false:=fun j hj=>by
      cases hx:dstIs ops j u with
      | false=>rfl
      | true=>exact absurd ⟨j,hj,hx⟩ hd
     obtain⟨b,hb,hle⟩:=henv u hd' a hu;rw [hrest u fun j hj=>hd' j (hL.lt j hj)];exact z2a hlat (hle _ _ _ _ (he u b hb))
   ·have hex:∃i,i∈Region.ready .any ops listed:=by
     have hmin:∀q i,i≤q→i<m→i∉L→∃j,j<m∧j∉L∧∀j',j'<j→j'∈L:=by
      intro q;induction q with
      | zero=>intro i hi hm hL;exact⟨i,hm,hL,by omega⟩
      | succ q ihq=>
       intro i hi him hiL;by_cases hx:∃j',j'<i∧j'∉L
       ·obtain⟨j',h1,h2⟩:=hx;exact ihq j' (by omega) (by omega) h2
       ·exact⟨i,him,hiL,fun j' hj'=>Decidable.byContradiction fun h2=>hx ⟨j',hj',h2⟩⟩
     obtain⟨i,hi⟩:=Classical.not_forall.1 hall;have hi1:i<m:=Classical.byContradiction fun h=>hi fun h2=>absurd h2 h
     have hi2:i∉L:=fun h=>hi fun _=>h
     obtain⟨j,h1,h2,h3⟩:=hmin i i (Nat.le_refl _) hi1 hi2;refine⟨j,(z1v (by omega) hL).2 ⟨by omega,h2,ops[j],Array.getElem?_eq_getElem (by omega),fun e hee hb=>?_⟩⟩;have hlt:=z2g hback (Array.getElem?_eq_getElem (by omega:j<ops.size)) hee hb;exact(hL.mem e.on (by omega)).2 (h3 e.on hlt)
    rw [z8x];have hlen2:0<(Region.ready .any ops listed).length:=List.length_pos_of_mem hex.choose_spec;have hmod:t%(Region.ready .any ops listed).length<(Region.ready .any ops listed).length:=Nat.mod_lt _ hlen2;rw [List.getElem?_eq_getElem hmod];simp only;have hir:(Region.ready .any ops listed)[t%(Region.ready .any ops listed).length]∈Region.ready .any ops listed:=List.getElem_mem hmod;generalize (Region.ready .any ops listed)[t%(Region.ready .any ops listed).length]=i at hir;have him:i<m:=by
     apply Classical.byContradiction;intro hge;exact hall (z5f (by omega) hsink hback hL (by omega) hchain hir).2
    obtain⟨his,hiL,o,ho,hdeps⟩:=(z1v (by omega) hL).1 hir;obtain⟨ha1,ha2⟩:=hap i o him ho;have hlooks:∀u∈o.looksAt ops,∀a,look envF u=some a→RelV w' (okOf C.X π objs) π a (tmps.getD u undef):=by
     intro u hu a hua;by_cases hd:∃j,j<m∧dstIs ops j u=true
     ·obtain⟨j,hj,hd⟩:=hd;have hw:=ha2 j hj u hu hd;obtain⟨o2,ho2,e,hee,hb,heq⟩:=zz hw;rw [ho]at ho2;cases ho2;have hjL:=z1f hL (hdeps e hee hb);rw [heq]at hjL;obtain⟨oj,hoj,hdj⟩:=zh.1 hd;obtain⟨b,hb2,hr⟩:=hdone j hjL oj hoj u hdj;rw [hua]at hb2;cases hb2;exact hr
     ·have hd':∀j,j<m→dstIs ops j u=false:=fun j hj=>by
       cases hx:dstIs ops j u with
       | false=>rfl
       | true=>exact absurd ⟨j,hj,hx⟩ hd
      obtain⟨b,hb,hle⟩:=henv u hd' a hua;rw [hrest u fun j hj=>hd' j (hL.lt j hj)];exact z2a hlat (hle _ _ _ _ (he u b hb))
    have hL':Lst ops m (i::L) (listed.setIfInBounds i true):=by
     refine⟨by simpa using hL.size,fun j hj=>?_,List.nodup_cons.2 ⟨hiL,hL.nd⟩,fun j hj=>?_,fun j hj oj hoj e hee hb=>?_⟩
     ·by_cases e:i=j
      ·subst e;rw [show(listed.setIfInBounds i true).getD i false=true by simp [hL.size,hj]];simp
      ·rw [show(listed.setIfInBounds i true).getD j false=listed.getD j false by simp [Array.getElem?_setIfInBounds,e]];rw [hL.mem j hj,List.mem_cons];exact⟨.inr,fun h=>h.resolve_left fun h2=>e h2.symm⟩
     ·rcases List.mem_cons.1 hj with rfl|hj
      ·exact him
      ·exact hL.lt j hj
     ·rcases List.mem_cons.1 hj with rfl|hj
      ·rw [ho]at hoj;cases hoj;exact List.mem_cons_of_mem _ (z1f hL (hdeps e hee hb))
      ·exact List.mem_cons_of_mem _ (hL.cl j hj oj hoj e hee hb)
    have next:∀(v:Value) (w2:World),Later w' w2→PutOk n w2 (okOf C.X π objs) π envF o v→Sat P f C.ds (.inRegion ops (Region.linearise.go .any ops fuel (t / (Region.ready .any ops listed).length) (listed.setIfInBounds i true) [])::k) (putT o.dst v tmps) w2 (APost C R):=by
     intro v w2 hl2 hput;refine ih _ _ (i::L) _ w2 hL' (by simp only [List.length_cons];omega) (zgs hlat hl2) ?_ ?_ ?_
     ·cases hd:o.dst with
      | none=>exact hsz
      | some d=>simpa [putT]using hsz
     ·intro j hj0 oj hoj d hd;rcases List.mem_cons.1 hj0 with e|hj
      ·subst e;rw [ho]at hoj;cases hoj;obtain⟨h1,b,h2,h3⟩:=hput d hd;refine⟨b,h2,?_⟩;rw [hd,z1l,if_pos ⟨rfl,by rw [hsz];exact h1⟩];exact h3
      ·obtain⟨b,h2,h3⟩:=hdone j hj oj hoj d hd;refine⟨b,h2,?_⟩;have hne:∀d',o.dst=some d'→d'≠d:=by
        rintro d' hd' rfl;have:=ha1 j (hL.lt j hj) (fun e=>hiL (e▸hj)) d' hd';rw [zh.2 ⟨oj,hoj,hd⟩]at this;cases this
       cases hdo:o.dst with
       | none=>exact z2a hl2 h3
       | some d'=>
        rw [z1l,if_neg fun hh=>hne d' hdo hh.1];exact z2a hl2 h3
     ·intro u hu;rw [←hrest u fun j hj=>hu j (List.mem_cons_of_mem _ hj)];cases hdo:o.dst with
      | none=>rfl
      | some d'=>
       rw [z1l,if_neg fun hh=>?_];have:=hu i List.mem_cons_self;rw [zh.2 ⟨o,ho,by rw [hdo,hh.1]⟩]at this;cases this
    have hlw:Later w' w':=Later.refl w';rcases hops i o him ho π w' tmps hsz htr.mem ((hG.hist hh).hist htr.hist) hlooks with⟨hw,hput⟩|⟨hw,⟨v,w2,hrun,hlt2,hput⟩|⟨g,args,hrun,hcall⟩⟩
    ·exact .opSkip ho hw (next undef w' hlw hput)
    ·exact .opVal ho hw hrun (next v w2 hlt2 hput)
    ·exact .opCall ho hw hrun (hcall.mono fun e w2 ⟨v,h1,h2,h3⟩=>⟨v,h1,next v w2 h2 h3⟩)
 refine .step (fun kd cs=>z60) ?_;simp only [Region.schedule,hmx,Bool.true_or,if_true];refine key ops.size _ _ [] tmps0 _ ⟨by simp,fun i hi=>?_,List.nodup_nil,by simp,by simp⟩ (by simp) hl1 hn (by simp) (fun _ _=>rfl);simp [hi]
end
end Ab
namespace Ab
open Go
variable [Draws]
theorem VLe.toLit(c:Bool):VLe (.d (.v (.bool c))) (.lit c):=by
 intro w ok π v h;cases h with|d h=>cases h;exact .lit
def z4a(o:Oper)(r:List Oper)(ts:List Tmp):Bool:=ts.all fun t=>(match o.dst with|some d=>!(d==t)|none=>true)&&r.all fun o'=>match o'.dst with|some d=>!(d==t)|none=>true
def z2i(o:Oper)(r:List Oper):Bool:=match o.dst with|some t=>r.all (fun o'=>match o'.dst with|some d=>!(d==t)|none=>true)|none=>true
def dpre(T:Tab)(n:Nat)(ops:Array Oper):List Oper→Prop→Env→List (Option AObj)→QRes
 | [],nd,env,_=>.done nd env
 | o::r,nd,env,objs=>
  match z4a o r (o.looksAt ops)&&z2i o r with
  | false=>.stuck
  | true=>match wantE ops (restr env (o.looksAt ops)) o with
   | .yes=>match pstep T o (restr env (o.looksAt ops)) objs with
    | .ok a=>match putE n o.dst a env with|some e=>dpre T n ops r nd e objs|none=>.stuck
    | .iff c a=>match putE n o.dst a env with|some e=>dpre T n ops r (c∧nd) e objs|none=>.stuck
    | .no=>match z4p (restr env (o.looksAt ops)) o with
     | some (g,az)=>.call nd g az o.dst r env
     | none=>.stuck
   | .no=>match putE n o.dst .und env with|some e=>dpre T n ops r nd e objs|none=>.stuck
   | .ask t b=>.ask nd t b (o::r) env
   | .dunno=>.stuck
section
variable {P:Program}[Globals P]{T:Tab}{f:FuncId}{fn:Func}{n m:Nat}{C:Cx}{R:AV→List (Option AObj)→Prop}{todo todo' k:List Item}{env env0 env' envF:Env}{objs objs':List (Option AObj)}{nd:Prop}{ops:Array Oper}{l:List Oper}{K:Env→Prop}{X:Nat→Prop}
def NoDst(l:List Oper)(t:Tmp):Prop:=∀o∈l,o.dst≠some t
def DSat(P:Program)[Globals P](n:Nat)(X:Nat→Prop)(objs:List (Option AObj))(ops:Array Oper)(K:Env→Prop)(l:List Oper)(env:Env):Prop:=
 ∃envF,(∀t,NoDst l t→∀a,look envF t=some a→∃b,look env t=some b∧VLe b a)∧(∀t,NoDst l t→∀b,look env t=some b→∃a,look envF t=some a∧VLe a b)∧(∀o∈l,z36 P n X objs ops envF o)∧K envF
theorem z3y{o:Oper}{r:List Oper}{t:Tmp}:NoDst (o::r) t↔o.dst≠some t∧NoDst r t:=by simp [NoDst]
theorem zh1{o:Oper}{r:List Oper}{ts:List Tmp}(h:z4a o r ts=true){t:Tmp}(ht:t∈ts):NoDst (o::r) t:=by
 have:=List.all_eq_true.1 h t ht;simp only [Bool.and_eq_true]at this;rw [z3y];refine⟨fun hd=>?_,fun o' ho' hd=>?_⟩
 ·have h1:=this.1;rw [hd]at h1;simp at h1
 ·have h1:=List.all_eq_true.1 this.2 o' ho';rw [hd]at h1;simp at h1
theorem zfy{o:Oper}{r:List Oper}(h:z2i o r=true){d:Tmp}(hd:o.dst=some d):NoDst r d:=by
 unfold z2i at h;rw [hd]at h;intro o' ho' hd';have h1:=List.all_eq_true.1 h o' ho';rw [hd']at h1;simp at h1
theorem zu{t u:Tmp}{a:AV}{env:Env}:look ((t,a)::env) u=if t=u then some a else look env u:=by
 simp only [look];by_cases h:t=u
 ·subst h;simp
 ·rw [if_neg h];split
  ·rename_i e;exact absurd (by simpa using e) h
  ·rfl
theorem z6j{o:Oper}{r:List Oper}{a:AV}{e:Env}(hfree:z4a o r (o.looksAt ops)=true)(halone:z2i o r=true)(hput:putE n o.dst a env=some e)
  (hop:∀envF:Env,(∀t∈o.looksAt ops,∀b,look env t=some b→∃a,look envF t=some a∧VLe a b)→(∀d,o.dst=some d→d<n∧∃b,look envF d=some b∧VLe a b)→z36 P n X objs ops envF o)
  (h:DSat P n X objs ops K r e):DSat P n X objs ops K (o::r) env:=by
 obtain⟨envF,h1,h2,h3,h4⟩:=h;have hlook:∀t,o.dst≠some t→look e t=look env t:=by
  intro t ht;cases hd:o.dst with
  | none=>rw [hd]at hput;simp only [putE,Option.some.injEq]at hput;rw [←hput]
  | some d=>
   rw [hd]at hput;simp only [putE]at hput;split at hput
   ·simp only [Option.some.injEq]at hput;rw [←hput,zu,if_neg (fun hh=>ht (by rw [hd,hh]))]
   ·cases hput
 refine⟨envF,fun t ht b hb=>?_,fun t ht b hb=>?_,fun o' ho'=>?_,h4⟩
 ·obtain⟨c,hc,hle⟩:=h1 t (z3y.1 ht).2 b hb;rw [hlook t (z3y.1 ht).1]at hc;exact⟨c,hc,hle⟩
 ·rw [←hlook t (z3y.1 ht).1]at hb;exact h2 t (z3y.1 ht).2 b hb
 ·rcases List.mem_cons.1 ho' with rfl|ho'
  ·refine hop envF (fun t ht b hb=>?_) (fun d hd=>?_)
   ·have hn:=z3y.1 (zh1 hfree ht);rw [←hlook t hn.1]at hb;exact h2 t hn.2 b hb
   ·have hn:=zfy halone hd;rw [hd]at hput;simp only [putE]at hput;split at hput
    ·rename_i hlt;simp only [Option.some.injEq]at hput;obtain⟨a',ha',_⟩:=h2 d hn a (by rw [←hput,zu,if_pos rfl]);obtain⟨b,hb,hle⟩:=h1 d hn a' ha';rw [←hput,zu,if_pos rfl]at hb;cases hb;exact⟨by simpa [Nat.blt_eq]using hlt,a',ha',hle⟩
    ·cases hput
  ·exact h3 o' ho'
theorem z3i{w:World}{ok:Nat→Prop}{π:List Value}{tmps:Array Value}{o:Oper}(h1:∀t∈o.looksAt ops,∀b,look env t=some b→∃a,look envF t=some a∧VLe a b)(h2:∀t∈o.looksAt ops,∀a,look envF t=some a→RelV w ok π a (tmps.getD t undef)):z13 w ok π (restr env (o.looksAt ops)) tmps:=by
 intro t a ht;obtain⟨hm,hl⟩:=z12 ht;obtain⟨a',ha',hle⟩:=h1 t hm a hl;exact hle _ _ _ _ (h2 t hm a' ha')
theorem ds_op{o:Oper}{r:List Oper}{a:AV}{e:Env}(hfree:z4a o r (o.looksAt ops)=true)(halone:z2i o r=true)(hput:putE n o.dst a env=some e)
  (hw:wantE ops (restr env (o.looksAt ops)) o=.yes)
  (hop:∀π w tmps,Mem X π objs w→z13 w (okOf X π objs) π (restr env (o.looksAt ops)) tmps→∃v w2,(execOp (Act.eval ⟨tmps,[]⟩) o).run P w=.ok (.value v) w2∧Later w w2∧RelV w2 (okOf X π objs) π a v)
  (h:DSat P n X objs ops K r e):DSat P n X objs ops K (o::r) env:=by
 refine z6j hfree halone hput (fun envF g1 g2=>?_) h;intro π w tmps hn hm hg hlk;have he:=z3i g1 hlk;obtain⟨v,w2,h1,h2,h3⟩:=hop π w tmps hm he;exact .inr ⟨(zm he).1 hw,.inl ⟨v,w2,h1,h2,fun d hd=>by obtain⟨q1,b,q2,q3⟩:=g2 d hd;exact⟨q1,b,q2,q3 _ _ _ _ h3⟩⟩⟩
def DCont(P:Program)[Globals P](n:Nat)(X:Nat→Prop)(objs:List (Option AObj))(ops:Array Oper)(K:Env→Prop):QRes→Prop
 | .done nd env=>nd∧K env
 | .ask nd t b l env=>nd∧(b=true→DSat P n X objs ops K l ((t,.lit true)::env))∧(b=false→DSat P n X objs ops K l ((t,.lit false)::env))
 | .call nd g az dst l env=>nd∧∃r:AV,(∃e,putE n dst .dead env=some e) ∧
   (∀π w vs,Mem X π objs w→GOk P π objs w→RelVs w (okOf X π objs) π az vs→(callFunc g vs.toArray).run P w=.ok (.enter g vs.toArray) w∧Calls P g vs.toArray w fun e w2=>∃v,e=.returned v∧Later w w2∧RelV w2 (okOf X π objs) π r v)∧DSat P n X objs ops K l (putD dst r env)
 | .stuck=>False
theorem z41(hT:TabOk P T):∀(l:List Oper) (nd:Prop) (env:Env),DCont P n X objs ops K (dpre T n ops l nd env objs)→nd∧DSat P n X objs ops K l env
 | [],nd,env,h=>⟨h.1,env,fun t _ a ha=>⟨a,ha,.refl a⟩,fun t _ a ha=>⟨a,ha,.refl a⟩,by simp,h.2⟩
 | o::r,nd,env,h=>by
  simp only [dpre]at h;cases hf:z4a o r (o.looksAt ops)&&z2i o r with
  | false=>rw [hf]at h;exact h.elim
  | true=>
  rw [hf]at h;simp only at h;simp only [Bool.and_eq_true]at hf;obtain⟨hf1,hf2⟩:=hf;have quiet:∀{a:AV} {e:Env} {c:Prop},c→wantE ops (restr env (o.looksAt ops)) o=.yes→(pstep T o (restr env (o.looksAt ops)) objs=.ok a∨pstep T o (restr env (o.looksAt ops)) objs=.iff c a)→putE n o.dst a env=some e→DSat P n X objs ops K r e→DSat P n X objs ops K (o::r) env:=by
   intro a e c hc hw hp hput hr;refine z6j hf1 hf2 hput (fun envF g1 g2=>?_) hr;intro π w tmps hn hm hg hlk;have he:=z3i g1 hlk;refine .inr ⟨(zm he).1 hw,.inl ?_⟩;have hdo:=z3c (ds:=[]) hT hm he o;have hy:Yields P w (okOf X π objs) π a (do match ←execOp (Act.eval ⟨tmps,[]⟩) o with | .value v=>pure v|_=>pure undef)∨True:=.inr trivial;rcases hp with hp|hp
   ·rw [hp]at hdo;obtain⟨v,d1,d2⟩:=hdo;exact⟨v,w,d2 w (.refl w),.refl w,fun d hd=>by obtain⟨q1,b,q2,q3⟩:=g2 d hd;exact⟨q1,b,q2,q3 _ _ _ _ d1⟩⟩
   ·rw [hp]at hdo;obtain⟨v,d1,d2⟩:=hdo hc;exact⟨v,w,d2 w (.refl w),.refl w,fun d hd=>by obtain⟨q1,b,q2,q3⟩:=g2 d hd;exact⟨q1,b,q2,q3 _ _ _ _ d1⟩⟩
  cases hw:wantE ops (restr env (o.looksAt ops)) o with
  | yes=>
   rw [hw]at h;simp only at h;cases hp:pstep T o (restr env (o.looksAt ops)) objs with
   | ok a=>
    rw [hp]at h;simp only at h;cases hput:putE n o.dst a env with
    | none=>rw [hput]at h;exact h.elim
    | some e=>
     rw [hput]at h;obtain⟨r1,r2⟩:=z41 hT r nd e h;exact⟨r1,quiet trivial hw (.inl hp) hput r2⟩
   | iff c a=>
    rw [hp]at h;simp only at h;cases hput:putE n o.dst a env with
    | none=>rw [hput]at h;exact h.elim
    | some e=>
     rw [hput]at h;obtain⟨r1,r2⟩:=z41 hT r (c∧nd) e h;exact⟨r1.2,quiet r1.1 hw (.inr hp) hput r2⟩
   | no=>
    rw [hp]at h;simp only at h;cases hco:z4p (restr env (o.looksAt ops)) o with
    | none=>rw [hco]at h;exact h.elim
    | some ga=>
     obtain⟨g,az⟩:=ga;rw [hco]at h;obtain⟨h1,x,⟨e,hput⟩,hq,h2⟩:=h;refine⟨h1,z6j hf1 hf2 (zgk hput) (fun envF g1 g2=>?_) h2⟩;intro π w tmps hn hm hg hlk;have he:=z3i g1 hlk;obtain⟨vs,c1,c2⟩:=z2t he hco;obtain⟨q1,q2⟩:=hq π w vs hm hg c1;refine .inr ⟨(zm he).1 hw,.inr ⟨g,vs.toArray,by rw [c2,q1],q2.mono fun e w2 ⟨v,a1,a2,a3⟩=>⟨v,a1,a2,fun d hd=>?_⟩⟩⟩;obtain⟨p1,b,p2,p3⟩:=g2 d hd;exact⟨p1,b,p2,p3 _ _ _ _ a3⟩
  | no=>
   rw [hw]at h;simp only at h;cases hput:putE n o.dst .und env with
   | none=>rw [hput]at h;exact h.elim
   | some e=>
    rw [hput]at h;obtain⟨r1,r2⟩:=z41 hT r nd e h;refine⟨r1,z6j hf1 hf2 hput (fun envF g1 g2=>?_) r2⟩;intro π w tmps hn hm hg hlk;have he:=z3i g1 hlk;exact .inl ⟨(zm he).2 hw,fun d hd=>by obtain⟨q1,b,q2,q3⟩:=g2 d hd;exact⟨q1,b,q2,q3 _ _ _ _ .und⟩⟩
  | ask t b=>
   rw [hw]at h;obtain⟨h1,h2,h3⟩:=h;refine⟨h1,?_⟩;have hl:=(z12 (zbz hw)).2;have fin:∀c:Bool,b=c→DSat P n X objs ops K (o::r) ((t,.lit c)::env)→DSat P n X objs ops K (o::r) env:=by
    rintro c rfl ⟨envF,k1,k2,k3,k4⟩;refine⟨envF,fun u hu a ha=>?_,fun u hu a ha=>?_,k3,k4⟩
    ·obtain⟨c,hc,hle⟩:=k1 u hu a ha;rw [zu]at hc;split at hc
     ·rename_i e;subst e;cases hc;exact⟨_,hl,(VLe.toLit b).trans hle⟩
     ·exact⟨c,hc,hle⟩
    ·by_cases e:t=u
     ·subst e;rw [hl]at ha;cases ha;obtain⟨a,h5,h6⟩:=k2 t hu (.lit b) (by rw [zu,if_pos rfl]);exact⟨a,h5,h6.trans VLe.lit⟩
     ·exact k2 u hu a (by rw [zu,if_neg e];exact ha)
   cases b with
   | true=>exact fin true rfl (h2 rfl)
   | false=>exact fin false rfl (h3 rfl)
  | dunno=>rw [hw]at h;exact h.elim
theorem zsl(hT:TabOk P T)(h:dpre T n ops l True env objs=.done nd env')(hn:nd)(hK:K env'):DSat P n X objs ops K l env:=
 (z41 hT l True env (by rw [h];exact⟨hn,hK⟩)).2
theorem zn2{t:Tmp}{b:Bool}{l':List Oper}(hT:TabOk P T)(h:dpre T n ops l True env objs=.ask nd t b l' env')(hn:nd)
  (k1:b=true→DSat P n X objs ops K l' ((t,.lit true)::env')) (k2:b=false→DSat P n X objs ops K l' ((t,.lit false)::env')):DSat P n X objs ops K l env:=
 (z41 hT l True env (by rw [h];exact⟨hn,k1,k2⟩)).2
theorem z5t{g:FuncId}{az bs:List AV}{dst:Option Tmp}{l':List Oper}{R':AV→List (Option AObj)→Prop}{r0:AV}(hT:TabOk P T)(h:dpre T n ops l True env objs=.call nd g az dst l' env')(hn:nd)
  (hc:ACall P g bs [] R') (hen:∀args w,(callFunc g args).run P w=.ok (.enter g args) w) (hr:∀r o,R' r o→r=r0) (hv:VLs az bs) (hd:refsBs 0 bs=true) (hr0:refsB 0 r0=true) (hdst:∃e,putE n dst .dead env'=some e)
  (k:DSat P n X objs ops K l' (putD dst r0 env')):DSat P n X objs ops K l env:=by
 suffices hq:∀π w vs,Mem X π objs w→GOk P π objs w→RelVs w (okOf X π objs) π az vs→Calls P g vs.toArray w fun e w2=>∃v,e=.returned v∧Later w w2∧RelV w2 (okOf X π objs) π r0 v from
  (z41 hT l True env (by rw [h];exact⟨hn,r0,hdst,fun π w vs hm hg hvs=>⟨hen _ _,hq π w vs hm hg hvs⟩,k⟩)).2
 intro π w vs hm hg hvs;have h1:RelVs w (okOf (Xof X π objs) [] []) [] bs vs:=(hv.rel hvs).cut (m:=0) (fun b o u a1 a2=>⟨z8o.2 a1,a2⟩) (fun j _ hj=>absurd hj (Nat.not_lt_zero j)) hd;rcases hc _ _ w vs hg.nil (zay hm) h1 with⟨_,hcl⟩|⟨v,w',hcl,_⟩
 ·refine Calls.mono hcl ?_;rintro e w' ⟨v,r,o,π',rfl,hR,hm',hrel,hhist⟩;have:=hr r o hR;subst this;refine⟨v,rfl,z59 hhist,?_⟩;refine hrel.cut (m:=0) (fun b o u a1 a2=>⟨?_,a2⟩) (fun j _ hj=>absurd hj (Nat.not_lt_zero j)) hr0;exact z8o.1 ⟨a1.1,fun i o h h1=>by simp [nth]at h1⟩
 ·rw [hen]at hcl;cases hcl
theorem zkt(m:Nat){id:Nat}{ops:Array Oper}{k:List Item}(hT:TabOk P T)(hf:P.funcs[f]?=some fn)(hmx:P.follows .mixedOrders=true)(h:srun T n fn.results.toList 2000 True todo env objs=.draw nd id ops k env' objs')(hn:nd)
  (hB:drawB ops m=true) (hq:DSat P n C.X objs' ops (fun env2=>ASat P f n C (.inRegion ops (List.range' m (ops.size-m))::k) env2 objs' R) (ops.toList.take m) env') (hG:GOk P C.π C.objs C.w:=by with_reducible assumption):ASat P f n C todo env objs R:=by
 suffices hc:Cont P f n C R (.draw nd id ops k env' objs')from(z1j hT hf 2000 True todo env objs (by rw [h];exact hc)).2
 obtain⟨envF,h1,h2,h3,h4⟩:=hq;have hop:∀j o,j<m→ops[j]?=some o→o∈ops.toList.take m:=by
  intro j o hj ho;rw [List.mem_take_iff_getElem];have hjs:=(Array.getElem?_eq_some_iff.1 ho).1;refine⟨j,by simp;omega,?_⟩;rw [Array.getElem?_eq_getElem hjs]at ho;simpa using ho
 refine⟨hn,zh6 hmx hB (envF:=envF) (fun j o hj ho=>h3 o (hop j o hj ho)) (fun t ht a ha=>h1 t (fun o ho hd=>?_) a ha) h4⟩;rw [List.mem_take_iff_getElem]at ho;obtain⟨j,hj,rfl⟩:=ho;have hjs:j<ops.size:=by simp at hj;omega
 have:=ht j (by simp at hj;omega);rw [zh.2 ⟨_,Array.getElem?_eq_getElem hjs,by simpa using hd⟩]at this;cases this
end
end Ab
namespace Go.Proofs.YtbodbhpdelgpnaaGreatDoor
open Go Ab
section
variable {f g:FuncId}{fn gn:Func}{c gc:Code}{n:Nat}{C:Cx}{R R':AV→List (Option AObj)→Prop}{todo todo':List Item}{env env':Env}{objs objs' o0 o2 objs0:List (Option AObj)}{nd:Prop}{az bs:List AV}{dst:Option Tmp}{t:Tmp}{b:Bool}{r r2 x:AV}{y:List (Option AObj)}
theorem yN(hf:Tryz.prog.funcs[f]?=some fn)(h:∀C:Cx,C.objs=objs→C.π.length=C.objs.length→C.ds=[]→GOk Tryz.prog C.π C.objs C.w→ASat Tryz.prog f fn.ntmps C [.code c] (envOf 0 az) objs R)(hb:fn.body=some c:=by rfl) (hnm:(fn.name == "runtime.NumGoroutine")=false:=by rfl) (hn:az.length≤fn.ntmps:=by exact Nat.le_of_ble_eq_true rfl):ACall Tryz.prog f az objs R:=zhb hf hb hnm hn h
theorem yB(hf:Tryz.prog.funcs[f]?=some fn)(h:srun tab n fn.results.toList 2000 True todo env objs=.branch nd t b todo' env' objs')(hn:nd)(k1:b=true→ASat Tryz.prog f n C todo' ((t,.lit true)::env') objs' R)(k2:b=false→ASat Tryz.prog f n C todo' ((t,.lit false)::env') objs' R):ASat Tryz.prog f n C todo env objs R:=z8r tabOk hf h hn k1 k2
theorem yT(hf:Tryz.prog.funcs[f]?=some fn)(h:srun tab n fn.results.toList 2000 True todo env objs=.branch nd t b todo' env' objs')(hn:nd)(k1:ASat Tryz.prog f n C todo' ((t,.lit true)::env') objs' R)(hb:b=true:=by rfl):ASat Tryz.prog f n C todo env objs R:=z8r tabOk hf h hn (fun _=>k1) (fun e=>by rw [hb]at e;cases e)
theorem yF(hf:Tryz.prog.funcs[f]?=some fn)(h:srun tab n fn.results.toList 2000 True todo env objs=.branch nd t b todo' env' objs')(hn:nd)(k2:ASat Tryz.prog f n C todo' ((t,.lit false)::env') objs' R)(hb:b=false:=by rfl):ASat Tryz.prog f n C todo env objs R:=z8r tabOk hf h hn (fun e=>by rw [hb]at e;cases e) (fun _=>k2)
theorem yS(hf:Tryz.prog.funcs[f]?=some fn)(h:srun tab n fn.results.toList 2000 True todo env objs=.loop nd todo' env' objs')(hn:nd)(k:ASat Tryz.prog f n C todo' env' objs' R):ASat Tryz.prog f n C todo env objs R:=zog tabOk hf h hn k
theorem yX(m:Nat)(hf:Tryz.prog.funcs[f]?=some fn)(h:srun tab n fn.results.toList m True todo env objs=.goto nd todo' env' objs')(hn:nd)(k:ASat Tryz.prog f n C todo' env' objs' R):ASat Tryz.prog f n C todo env objs R:=zkp m tabOk hf h hn k
theorem yR(hf:Tryz.prog.funcs[f]?=some fn)(h:srun tab n fn.results.toList 2000 True todo env objs=.ret nd r objs')(hn:nd)(hR:R r objs')(hds:C.ds=[]:=by with_reducible assumption):ASat Tryz.prog f n C todo env objs R:=zkq tabOk hf h hn hR hds
theorem yL(hf:Tryz.prog.funcs[f]?=some fn)(h:srun tab n fn.results.toList 2000 True todo env objs=.ret nd r objs')(hn:nd)(hr:VLe r r2)(hO:subO o2 objs')(hR:R r2 o2)(hC:C.objs=o0:=by with_reducible assumption)(hCl:C.π.length=C.objs.length:=by with_reducible assumption)(hb:refsB o2.length r2=true:=by rfl)(hro:refsO o2.length o2=true:=by rfl)(hl:o0.length≤o2.length:=by exact Nat.le_of_ble_eq_true rfl)(hds:C.ds=[]:=by with_reducible assumption):ASat Tryz.prog f n C todo env objs R:=zoh tabOk hf h hn hC hCl hr hO hb hro hl hR hds
theorem yE(k:ASat Tryz.prog f n C todo env' objs' R)(hE:subE env' env)(hO:subO objs' objs)(hC:C.objs=o0:=by with_reducible assumption)(hCl:C.π.length=C.objs.length:=by with_reducible assumption)(hr:refsE objs'.length env'=true:=by rfl)(hro:refsO objs'.length objs'=true:=by rfl)(hl:o0.length≤objs'.length:=by exact Nat.le_of_ble_eq_true rfl):ASat Tryz.prog f n C todo env objs R:=zt k hC hCl hE hO hr hro hl
theorem yC(hf:Tryz.prog.funcs[f]?=some fn)(h:srun tab n fn.results.toList 2000 True todo env objs=.call nd g az dst todo' env' objs')(hn:nd)(hc:ACall Tryz.prog g bs [] R')(hv:VLs az bs)(k:∀r o,R' r o→ASat Tryz.prog f n C todo' (putD dst r env') objs' R)(hd:refsBs 0 bs=true:=by rfl)(hdst:∃e,putE n dst .dead env'=some e:=by exact⟨_,rfl⟩)(hr:∀r o,R' r o→refsB 0 r=true:=by rintro r o rfl;rfl)(hG:GOk Tryz.prog C.π C.objs C.w:=by with_reducible assumption):ASat Tryz.prog f n C todo env objs R:=zd9 tabOk hf h hn hc hv hd hdst hr k hG
theorem yV(hf:Tryz.prog.funcs[f]?=some fn)(h:srun tab n fn.results.toList 2000 True todo env objs=.call nd g az dst todo' env' objs')(hn:nd)(hc:ACall Tryz.prog g bs [] fun r o=>r=x)(hv:VLs az bs)(k:ASat Tryz.prog f n C todo' (putD dst x env') objs' R)(hd:refsBs 0 bs=true:=by rfl)(hdst:∃e,putE n dst .dead env'=some e:=by exact⟨_,rfl⟩)(hr:refsB 0 x=true:=by rfl)(hG:GOk Tryz.prog C.π C.objs C.w:=by with_reducible assumption):ASat Tryz.prog f n C todo env objs R:=zd9 tabOk hf h hn hc hv hd hdst (fun r o e=>by subst e;exact hr) (fun r o e=>by subst e;exact k) hG
theorem yG(ι:List Nat)(hf:Tryz.prog.funcs[f]?=some fn)(h:srun tab n fn.results.toList 2000 True todo env objs=.call nd g az dst todo' env' objs')(hn:nd)(hc:ACall Tryz.prog g bs objs0 R')(hs:subR (rho ι objs'.length) objs' ι objs0)(hv:VLs az (AV.rens (rho ι objs'.length) bs))(k:∀r o,R' r o→ASat Tryz.prog f n C todo' (putD dst (r.ren (rho ι objs'.length)) (z3p (memN ι) env')) (z35 ι o objs') R)(hnd:z3m ι=true:=by rfl)(hd:refsBs ι.length bs=true:=by rfl)(hro:refsO ι.length objs0=true:=by rfl)(hdst:∃e,putE n dst .dead env'=some e:=by exact⟨_,rfl⟩)(hG:GOk Tryz.prog C.π C.objs C.w:=by with_reducible assumption):ASat Tryz.prog f n C todo env objs R:=zet ι tabOk hf h hn hc hs hv hnd hd hro hdst k hG
theorem yW(ι:List Nat)(hf:Tryz.prog.funcs[f]?=some fn)(h:srun tab n fn.results.toList 2000 True todo env objs=.call nd g az dst todo' env' objs')(hn:nd)(hc:ACall Tryz.prog g bs objs0 fun r o=>r=x∧o=y)(hs:subR (rho ι objs'.length) objs' ι objs0)(hv:VLs az (AV.rens (rho ι objs'.length) bs))(k:ASat Tryz.prog f n C todo' (putD dst (x.ren (rho ι objs'.length)) (z3p (memN ι) env')) (z35 ι y objs') R)(hnd:z3m ι=true:=by rfl)(hd:refsBs ι.length bs=true:=by rfl)(hro:refsO ι.length objs0=true:=by rfl)(hdst:∃e,putE n dst .dead env'=some e:=by exact⟨_,rfl⟩)(hG:GOk Tryz.prog C.π C.objs C.w:=by with_reducible assumption):ASat Tryz.prog f n C todo env objs R:=zet ι tabOk hf h hn hc hs hv hnd hd hro hdst (fun r o e=>by obtain⟨rfl,rfl⟩:=e;exact k) hG
theorem yO(m:Nat){id:Nat}{ops:Array Oper}{k:List Item}(hf:Tryz.prog.funcs[f]?=some fn)(h:srun tab n fn.results.toList 2000 True todo env objs=.draw nd id ops k env' objs')(hn:nd)(hq:DSat Tryz.prog n C.X objs' ops (fun env2=>ASat Tryz.prog f n C (.inRegion ops (List.range' m (ops.size-m))::k) env2 objs' R) (ops.toList.take m) env')(hmx:Tryz.prog.follows .mixedOrders=true:=by rfl)(hB:drawB ops m=true:=by kernel_rfl)(hG:GOk Tryz.prog C.π C.objs C.w:=by with_reducible assumption):ASat Tryz.prog f n C todo env objs R:=zkt m tabOk hf hmx h hn hB hq hG
theorem erl{a:AV}(h:Ab.look env t=some a):∃b,Ab.look env t=some b∧VLe b a:=⟨a,h,.refl _⟩
theorem erw{u v:Int}(h:Ab.look env t=some (vI .i64 (IntKind.i64.wrap u)))(e:u=v:=by rfl)(h0:-9223372036854775808≤u:=by omega)(h1:u≤9223372036854775807:=by omega):∃b,Ab.look env t=some b∧VLe b (vI .i64 v):=⟨_,h,.of (by rw [z7 h0 h1,e])⟩
def lookE(env:Env):Env→List (Option AV)
 | []=>[]
 | (t,_)::r=>Ab.look env t::lookE env r
def someE:Env→List (Option AV)
 | []=>[]
 | (_,a)::r=>some a::someE r
theorem eAl:∀{env':Env},lookE env env'=someE env'→subE env' env
 | [],_=>trivial
 | (t,a)::r,h=>by
  simp only [lookE,someE,List.cons.injEq]at h;exact⟨⟨a,h.1,.refl _⟩,eAl h.2⟩
def cutO:List (Option AObj)→List (Option AObj)→List (Option AObj)
 | none::r,_::s=>none::cutO r s
 | some _::r,x::s=>x::cutO r s
 | _,_=>[]
theorem oAl:∀{objs' objs:List (Option AObj)},cutO objs' objs=objs'→subO objs' objs
 | [],_,_=>trivial
 | none::r,[],h=>by cases h
 | some o::r,[],h=>by cases h
 | none::r,x::s,h=>by
  simp only [cutO,List.cons.injEq]at h;exact oAl (objs':=r) h.2
 | some o::r,none::s,h=>by
  simp only [cutO,List.cons.injEq]at h;cases h.1
 | some o::r,some x::s,h=>by
  simp only [cutO,List.cons.injEq,Option.some.injEq]at h;exact⟨h.1▸.refl _,oAl h.2⟩
end
section
variable {g:FuncId}{gn:Func}{gc:Code}{n:Nat}{env env':Env}{objs:List (Option AObj)}{nd:Prop}{az bs:List AV}{dst:Option Tmp}{t:Tmp}{b:Bool}{x:AV}{ops:Array Oper}{l l':List Oper}{K:Env→Prop}{X:Nat→Prop}
theorem yQ(hf:Tryz.prog.funcs[g]?=some gn)(h:dpre tab n ops l True env objs=.call nd g az dst l' env')(hn:nd)(hc:ACall Tryz.prog g bs [] fun r o=>r=x)(hv:VLs az bs)(k:DSat Tryz.prog n X objs ops K l' (putD dst x env'))(hb:gn.body=some gc:=by rfl) (hm:(gn.name == "runtime.NumGoroutine")=false:=by rfl) (hd:refsBs 0 bs=true:=by rfl) (hr0:refsB 0 x=true:=by rfl) (hdst:∃e,putE n dst .dead env'=some e:=by exact⟨_,rfl⟩):DSat Tryz.prog n X objs ops K l env:=z5t tabOk h hn hc (zb hf hb hm) (fun r o e=>e) hv hd hr0 hdst k
theorem yq(h:dpre tab n ops l True env objs=.done nd env')(hn:nd)(hK:K env'):DSat Tryz.prog n X objs ops K l env:=zsl tabOk h hn hK
theorem yb(h:dpre tab n ops l True env objs=.ask nd t b l' env')(hn:nd)(k1:b=true→DSat Tryz.prog n X objs ops K l' ((t,.lit true)::env'))(k2:b=false→DSat Tryz.prog n X objs ops K l' ((t,.lit false)::env')):DSat Tryz.prog n X objs ops K l env:=zn2 tabOk h hn k1 k2
end
end Go.Proofs.YtbodbhpdelgpnaaGreatDoor
namespace Ab
open Go
variable [Draws]
section
variable {P:Program}[Globals P]{T:Tab}{f:FuncId}{fn:Func}{n m:Nat}{C:Cx}{R:AV→List (Option AObj)→Prop}{todo todo' k:List Item}{env env0 env' envF:Env}{objs objs':List (Option AObj)}{nd:Prop}{ops:Array Oper}{l:List Oper}{K:Env→Prop}{X:Nat→Prop}
structure StepG(X:Nat→Prop)(O:List Nat→List (Option AObj))(G:AV→Prop)(L:List Nat)(j:Nat)(π:List Value)(w:World)(π':List Value)(w2:World):Prop where
 mem:Mem X π' (O (j::L)) w2
 hist:Hist π (O L) w π' (O (j::L)) w2
 keep:∀a v,G a→RelV w (okOf X π (O L)) π a v→RelV w2 (okOf X π' (O (j::L))) π' a v
def HeadG(P:Program)[Globals P](n:Nat)(X:Nat→Prop)(O:List Nat→List (Option AObj))(G:AV→Prop)(m:Nat)(ops:Array Oper)(envF:Env)(j:Nat)(o:Oper):Prop:=
 ∀L,(∀q∈L,q<m)→j∉L→(∀q,zv ops j q=true→q∈L)→∀π w tmps,tmps.size=n→Mem X π (O L) w→GOk P π (O L) w→(∀t∈o.looksAt ops,∀a,look envF t=some a→RelV w (okOf X π (O L)) π a (tmps.getD t undef)) →
  (Region.wanted o (yielded ops tmps)=false∧∃π',StepG X O G L j π w π' w∧PutOk n w (okOf X π' (O (j::L))) π' envF o undef) ∨
  (Region.wanted o (yielded ops tmps)=true ∧
   ((∃v w2 π',(execOp (Act.eval ⟨tmps,[]⟩) o).run P w=.ok (.value v) w2∧StepG X O G L j π w π' w2∧PutOk n w2 (okOf X π' (O (j::L))) π' envF o v) ∨
    (∃w2 π',(execOp (Act.eval ⟨tmps,[]⟩) o).run P w=.ok .skip w2∧StepG X O G L j π w π' w2∧PutOk n w2 (okOf X π' (O (j::L))) π' envF o undef) ∨
    (∃g args,(execOp (Act.eval ⟨tmps,[]⟩) o).run P w=.ok (.enter g args) w∧Calls P g args w fun e w2=>∃v π',e=.returned v∧StepG X O G L j π w π' w2∧PutOk n w2 (okOf X π' (O (j::L))) π' envF o v)))
theorem z9g{O:List Nat→List (Option AObj)}{G:AV→Prop}{objsF:List (Option AObj)}(hmx:P.follows .mixedOrders=true)(hB:drawB ops m=true)(hops:∀j o,j<m→ops[j]?=some o→HeadG P n C.X O G m ops envF j o)
  (hG:∀t a,look envF t=some a→G a) (hO0:O []=objs) (hOF:∀L,(∀i,i<m→i∈L)→O L=objsF)
  (henv:∀t,(∀j,j<m→dstIs ops j t=false)→∀a,look envF t=some a→∃b,look env0 t=some b∧VLe b a)
  (hK:ASat P f n C (.inRegion ops (List.range' m (ops.size-m))::k) envF objsF R) {id:Nat} (hGk:GOk P C.π C.objs C.w:=by with_reducible assumption):ASat P f n C (.code (.region id ops true)::k) env0 objs R:=by
 simp only [drawB,Bool.and_eq_true,decide_eq_true_eq]at hB;obtain⟨⟨⟨⟨hms,hback⟩,hsink⟩,hchain⟩,hap⟩:=hB;have hap:∀j o,j<m→ops[j]?=some o→(∀k,k<m→k≠j→∀d,o.dst=some d→dstIs ops k d=false)∧∀k,k<m→∀t∈o.looksAt ops,dstIs ops k t=true→zv ops j k=true:=by
  intro j o hj ho;have h1:=List.all_eq_true.1 hap j (List.mem_range.2 hj);rw [ho]at h1;have h2:∀k,k<m→((decide (k=j)||z3l ops o k)=true∧(o.looksAt ops).all (fun t=>!dstIs ops k t||zv ops j k)=true):=fun k hk=>by
   have:=List.all_eq_true.1 h1 k (List.mem_range.2 hk);simpa only [Bool.and_eq_true]using this
  refine⟨fun k hk hne d hd=>?_,fun k hk t ht hd=>?_⟩
  ·have:=(h2 k hk).1;unfold z3l at this;rw [hd]at this;simpa [hne]using this
  ·have:=List.all_eq_true.1 (h2 k hk).2 t ht;simpa [hd]using this
 intro π w tmps0 hn hm hh he;have hl1:Later w { w with drawn:=w.drawn+1 }:=⟨rfl,rfl,⟨rfl,z17 (Nat.le_succ _)⟩,Nat.le_refl _,fun _ _=>rfl⟩
 have htr1:=hl1.tr hm;have key:∀(fuel t:Nat) (listed:Array Bool) (L:List Nat) (tmps:Array Value) (w':World) (π:List Value),Lst ops m L listed→L.length+fuel=ops.size→Mem C.X π (O L) w'→Hist C.π C.objs C.w π (O L) w'→tmps.size=n →
   (∀j∈L,∀o,ops[j]?=some o→∀d,o.dst=some d→∃b,look envF d=some b∧RelV w' (okOf C.X π (O L)) π b (tmps.getD d undef)) →
   (∀t,(∀j,j<m→dstIs ops j t=false)→∀a,look envF t=some a→RelV w' (okOf C.X π (O L)) π a (tmps.getD t undef)) →
   Sat P f C.ds (.inRegion ops (Region.linearise.go .any ops fuel t listed [])::k) tmps w' (APost C R):=by
  intro fuel;induction fuel with
  | zero=>
   intro t listed L tmps w' π hL hlen _ _ _ _ _;have:=z1m hL.nd (b:=List.range m) fun y hy=>List.mem_range.2 (hL.lt y hy)
   rw [List.length_range]at this;omega
  | succ fuel ih=>
   intro t listed L tmps w' π hL hlen hm hh hsz hdone hrest;have hLm:=z1m hL.nd (b:=List.range m) fun y hy=>List.mem_range.2 (hL.lt y hy)
   rw [List.length_range]at hLm;by_cases hall:∀i,i<m→i∈L
   ·have hml:=z1m (List.nodup_range (n:=m)) (b:=L) fun y hy=>hall y (List.mem_range.1 hy)
    rw [List.length_range]at hml;have hfu:fuel+1=ops.size-m:=by omega
    rw [hfu];have hg:=z73 hback hchain (ops.size-m) t listed (.inl (by omega)) (by omega) hL.size (fun i hi=>by
     rw [hL.mem i hi,show ops.size-(ops.size-m)=m by omega];exact⟨fun h=>hL.lt i h,fun h=>hall i h⟩)
    rw [hg,show ops.size-(ops.size-m)=m by omega];rw [hOF L hall]at hm hh hdone hrest;refine hK π w' tmps hsz hm hh fun u a hu=>?_;by_cases hd:∃j,j<m∧dstIs ops j u=true
    ·obtain⟨j,hj,hd⟩:=hd;obtain⟨o,ho,hdo⟩:=zh.1 hd;obtain⟨b,hb,hr⟩:=hdone j (hall j hj) o ho u hdo;rw [hu]at hb;cases hb;exact hr
    ·have hd':∀j,j<m→dstIs ops j u=false:=fun j hj=>by
      cases hx:dstIs ops j u with
      | false=>rfl
      | true=>exact absurd ⟨j,hj,hx⟩ hd
     exact hrest u hd' a hu
   ·have hex:∃i,i∈Region.ready .any ops listed:=by
     have hmin:∀q i,i≤q→i<m→i∉L→∃j,j<m∧j∉L∧∀j',j'<j→j'∈L:=by
      intro q;induction q with
      | zero=>intro i hi hm hL;exact⟨i,hm,hL,by omega⟩
      | succ q ihq=>
       intro i hi him hiL;by_cases hx:∃j',j'<i∧j'∉L
       ·obtain⟨j',h1,h2⟩:=hx;exact ihq j' (by omega) (by omega) h2
       ·exact⟨i,him,hiL,fun j' hj'=>Decidable.byContradiction fun h2=>hx ⟨j',hj',h2⟩⟩
     obtain⟨i,hi⟩:=Classical.not_forall.1 hall;have hi1:i<m:=Classical.byContradiction fun h=>hi fun h2=>absurd h2 h
     have hi2:i∉L:=fun h=>hi fun _=>h
     obtain⟨j,h1,h2,h3⟩:=hmin i i (Nat.le_refl _) hi1 hi2;refine⟨j,(z1v (by omega) hL).2 ⟨by omega,h2,ops[j],Array.getElem?_eq_getElem (by omega),fun e hee hb=>?_⟩⟩;have hlt:=z2g hback (Array.getElem?_eq_getElem (by omega:j<ops.size)) hee hb;exact(hL.mem e.on (by omega)).2 (h3 e.on hlt)
    rw [z8x];have hlen2:0<(Region.ready .any ops listed).length:=List.length_pos_of_mem hex.choose_spec;have hmod:t%(Region.ready .any ops listed).length<(Region.ready .any ops listed).length:=Nat.mod_lt _ hlen2;rw [List.getElem?_eq_getElem hmod];simp only;have hir:(Region.ready .any ops listed)[t%(Region.ready .any ops listed).length]∈Region.ready .any ops listed:=List.getElem_mem hmod;generalize (Region.ready .any ops listed)[t%(Region.ready .any ops listed).length]=i at hir;have him:i<m:=by
     apply Classical.byContradiction;intro hge;exact hall (z5f (by omega) hsink hback hL (by omega) hchain hir).2
    obtain⟨his,hiL,o,ho,hdeps⟩:=(z1v (by omega) hL).1 hir;obtain⟨ha1,ha2⟩:=hap i o him ho;have hlooks:∀u∈o.looksAt ops,∀a,look envF u=some a→RelV w' (okOf C.X π (O L)) π a (tmps.getD u undef):=by
     intro u hu a hua;by_cases hd:∃j,j<m∧dstIs ops j u=true
     ·obtain⟨j,hj,hd⟩:=hd;have hw:=ha2 j hj u hu hd;obtain⟨o2,ho2,e,hee,hb,heq⟩:=zz hw;rw [ho]at ho2;cases ho2;have hjL:=z1f hL (hdeps e hee hb);rw [heq]at hjL;obtain⟨oj,hoj,hdj⟩:=zh.1 hd;obtain⟨b,hb2,hr⟩:=hdone j hjL oj hoj u hdj;rw [hua]at hb2;cases hb2;exact hr
     ·have hd':∀j,j<m→dstIs ops j u=false:=fun j hj=>by
       cases hx:dstIs ops j u with
       | false=>rfl
       | true=>exact absurd ⟨j,hj,hx⟩ hd
      exact hrest u hd' a hua
    have hL':Lst ops m (i::L) (listed.setIfInBounds i true):=by
     refine⟨by simpa using hL.size,fun j hj=>?_,List.nodup_cons.2 ⟨hiL,hL.nd⟩,fun j hj=>?_,fun j hj oj hoj e hee hb=>?_⟩
     ·by_cases e:i=j
      ·subst e;rw [show(listed.setIfInBounds i true).getD i false=true by simp [hL.size,hj]];simp
      ·rw [show(listed.setIfInBounds i true).getD j false=listed.getD j false by simp [Array.getElem?_setIfInBounds,e]];rw [hL.mem j hj,List.mem_cons];exact⟨.inr,fun h=>h.resolve_left fun h2=>e h2.symm⟩
     ·rcases List.mem_cons.1 hj with rfl|hj
      ·exact him
      ·exact hL.lt j hj
     ·rcases List.mem_cons.1 hj with rfl|hj
      ·rw [ho]at hoj;cases hoj;exact List.mem_cons_of_mem _ (z1f hL (hdeps e hee hb))
      ·exact List.mem_cons_of_mem _ (hL.cl j hj oj hoj e hee hb)
    have hdeps2:∀q,zv ops i q=true→q∈L:=by
     intro q hq;obtain⟨o2,ho2,e,hee,hb,heq⟩:=zz hq;rw [ho]at ho2;cases ho2;rw [←heq];exact z1f hL (hdeps e hee hb)
    have next:∀(v:Value) (w2:World) (π':List Value),StepG C.X O G L i π w' π' w2→PutOk n w2 (okOf C.X π' (O (i::L))) π' envF o v→Sat P f C.ds (.inRegion ops (Region.linearise.go .any ops fuel (t / (Region.ready .any ops listed).length) (listed.setIfInBounds i true) [])::k) (putT o.dst v tmps) w2 (APost C R):=by
     intro v w2 π' hst hput;refine ih _ _ (i::L) _ w2 π' hL' (by simp only [List.length_cons];omega) hst.mem (hh.trans hst.hist) ?_ ?_ ?_
     ·cases hd:o.dst with
      | none=>exact hsz
      | some d=>simpa [putT]using hsz
     ·intro j hj0 oj hoj d hd;rcases List.mem_cons.1 hj0 with e|hj
      ·subst e;rw [ho]at hoj;cases hoj;obtain⟨h1,b,h2,h3⟩:=hput d hd;refine⟨b,h2,?_⟩;rw [hd,z1l,if_pos ⟨rfl,by rw [hsz];exact h1⟩];exact h3
      ·obtain⟨b,h2,h3⟩:=hdone j hj oj hoj d hd;refine⟨b,h2,?_⟩;have hne:∀d',o.dst=some d'→d'≠d:=by
        rintro d' hd' rfl;have:=ha1 j (hL.lt j hj) (fun e=>hiL (e▸hj)) d' hd';rw [zh.2 ⟨oj,hoj,hd⟩]at this;cases this
       cases hdo:o.dst with
       | none=>exact hst.keep _ _ (hG _ _ h2) h3
       | some d'=>
        rw [z1l,if_neg fun hh=>hne d' hdo hh.1];exact hst.keep _ _ (hG _ _ h2) h3
     ·intro u hu a hua;have h3:=hst.keep _ _ (hG _ _ hua) (hrest u hu a hua);cases hdo:o.dst with
      | none=>exact h3
      | some d'=>
       rw [z1l,if_neg fun hh=>?_]
       ·exact h3
       ·have:=hu i him;rw [zh.2 ⟨o,ho,by rw [hdo,hh.1]⟩]at this;cases this
    rcases hops i o him ho L (fun q hq=>hL.lt q hq) hiL hdeps2 π w' tmps hsz hm (hGk.hist hh) hlooks with⟨hw,hput⟩|⟨hw,⟨v,w2,π',hrun,hst,hput⟩|⟨w2,π',hrun,hst,hput⟩|⟨g,args,hrun,hcall⟩⟩
    ·obtain⟨π',hst,hput⟩:=hput;exact .opSkip ho hw (next undef w' π' hst hput)
    ·exact .opVal ho hw hrun (next v w2 π' hst hput)
    ·exact .opUnit ho hw hrun (next undef w2 π' hst hput)
    ·exact .opCall ho hw hrun (hcall.mono fun e w2 ⟨v,π',h1,h2,h3⟩=>⟨v,h1,next v w2 π' h2 h3⟩)
 refine .step (fun kd cs=>z60) ?_;simp only [Region.schedule,hmx,Bool.true_or,if_true];subst hO0;refine key ops.size _ _ [] tmps0 _ π ⟨by simp,fun i hi=>?_,List.nodup_nil,by simp,by simp⟩ (by simp) htr1.mem (z22 hh htr1) hn (by simp) (fun u hu a hua=>?_)
 ·simp [hi]
 ·obtain⟨b,hb,hle⟩:=henv u hu a hua;exact z2a hl1 (hle _ _ _ _ (he u b hb))
theorem z7e{O:List Nat→List (Option AObj)}{G:AV→Prop}{L:List Nat}{j:Nat}(hO:O (j::L)=O L){π:List Value}{w w2:World}(hm:Mem X π (O L) w)(l:Later w w2):StepG X O G L j π w π w2:=by
 have htr:=l.tr hm;refine⟨by rw [hO];exact htr.mem,by rw [hO];exact htr.hist,fun a v _ h=>?_⟩;rw [hO];exact z2a l h
theorem zie{O:List Nat→List (Option AObj)}{G:AV→Prop}{j:Nat}{o:Oper}(hO:∀L,O (j::L)=O L)(h:∀L,z36 P n X (O L) ops envF o):HeadG P n X O G m ops envF j o:=by
 intro L _ _ _ π w tmps hs hm hgk hl;rcases h L π w tmps hs hm hgk hl with⟨hw,hp⟩|⟨hw,⟨v,w2,hr,hlt,hp⟩|⟨g,args,hr,hc⟩⟩
 ·exact .inl ⟨hw,π,z7e (hO L) hm (.refl w),by rw [hO];exact hp⟩
 ·exact .inr ⟨hw,.inl ⟨v,w2,π,hr,z7e (hO L) hm hlt,by rw [hO];exact hp⟩⟩
 ·refine .inr ⟨hw,.inr (.inr ⟨g,args,hr,hc.mono fun e w2 ⟨v,h1,h2,h3⟩=>⟨v,π,h1,z7e (hO L) hm h2,by rw [hO];exact h3⟩⟩)⟩
end
end Ab
namespace Ab
open Go
variable [Draws]
section
variable {P:Program}[Globals P]{T:Tab}{f:FuncId}{fn:Func}{n m:Nat}{C:Cx}{R:AV→List (Option AObj)→Prop}{todo todo' k:List Item}{env env0 env' envF E:Env}{objs objs' objs1:List (Option AObj)}{nd:Prop}{ops:Array Oper}{l:List Oper}{K:Env→Prop}{X:Nat→Prop}
theorem z71{o:Oper}{d:Tmp}{a:AV}(hl:d∉o.looksAt ops)(hd:o.dst≠some d)(h:z36 P n X objs ops E o):z36 P n X objs ops ((d,a)::E) o:=by
 intro π w tmps hs hm hgk hlk;have hlk':∀t∈o.looksAt ops,∀b,look E t=some b→RelV w (okOf X π objs) π b (tmps.getD t undef):=fun t ht b hb=>hlk t ht b (by rw [zu,if_neg (by rintro rfl;exact hl ht)];exact hb)
 have hp:∀{w:World} {v:Value},PutOk n w (okOf X π objs) π E o v→PutOk n w (okOf X π objs) π ((d,a)::E) o v:=fun hp u hu=>by
  obtain⟨h1,b,h2,h3⟩:=hp u hu;exact⟨h1,b,by rw [zu,if_neg (by rintro rfl;exact hd hu)];exact h2,h3⟩
 rcases h π w tmps hs hm hgk hlk' with⟨hw,h1⟩|⟨hw,⟨v,w2,hr,hlt,h1⟩|⟨g,args,hr,hc⟩⟩
 ·exact .inl ⟨hw,hp h1⟩
 ·exact .inr ⟨hw,.inl ⟨v,w2,hr,hlt,hp h1⟩⟩
 ·exact .inr ⟨hw,.inr ⟨g,args,hr,hc.mono fun e w2 ⟨v,a1,a2,a3⟩=>⟨v,a1,a2,hp a3⟩⟩⟩
theorem z5u{q:Nat→Bool}{env:Env}(h:z3p q env=env){t:Tmp}{a:AV}(ht:look env t=some a):a.dropS q=a:=by
 have:=z7q q env t;rw [h,ht]at this;simpa using this.symm
theorem zkx(e:Nat)(ι:List Nat){id:Nat}{oe:Oper}{d:Tmp}{g:FuncId}{az bs:List AV}{objs0:List (Option AObj)}{R':AV→List (Option AObj)→Prop}{r0:AV}(hT:TabOk P T)(hf:P.funcs[f]?=some fn)(hmx:P.follows .mixedOrders=true)(h:srun T n fn.results.toList 2000 True todo env objs=.draw nd id ops k env' objs')(hn:nd)
  (hB:drawB ops (e+1)=true) (hoe:ops[e]?=some oe) (hD0:DSat P n C.X objs' ops (fun x=>x=E) (ops.toList.take e) env') (hD1:DSat P n C.X objs1 ops (fun x=>x=E) (ops.toList.take e) env')
  (hdst:oe.dst=some d) (hdn:Nat.blt d n=true) (hw:wantE ops (restr E (oe.looksAt ops)) oe=.yes) (hco:z4p (restr E (oe.looksAt ops)) oe=some (g,az)) (hen:∀args w,(callFunc g args).run P w=.ok (.enter g args) w)
  (hc:ACall P g bs objs0 R') (hs:subR (rho ι objs'.length) objs' ι objs0) (hv:VLs az (AV.rens (rho ι objs'.length) bs)) (hnd:z3m ι=true) (hd:refsBs ι.length bs=true) (hro:refsO ι.length objs0=true)
  (hr:∀r o,R' r o→r.ren (rho ι objs'.length)=r0∧z35 ι o objs'=objs1) (hdrop:z3p (memN ι) ((d,r0)::E)=(d,r0)::E)
  (hk:ASat P f n C (.inRegion ops (List.range' (e+1) (ops.size-(e+1)))::k) ((d,r0)::E) objs1 R) (hGk:GOk P C.π C.objs C.w:=by with_reducible assumption):ASat P f n C todo env objs R:=by
 suffices hcc:Cont P f n C R (.draw nd id ops k env' objs')from(z1j hT hf 2000 True todo env objs (by rw [h];exact hcc)).2
 refine⟨hn,?_⟩;obtain⟨E0,a1,a2,a3,rfl⟩:=hD0;obtain⟨E1,b1,b2,b3,rfl⟩:=hD1;have hes:=(Array.getElem?_eq_some_iff.1 hoe).1;have hB2:=hB;simp only [drawB,Bool.and_eq_true,decide_eq_true_eq]at hB2;obtain⟨⟨⟨⟨hms,hback⟩,hsink⟩,hchain⟩,hap⟩:=hB2;have hde:dstIs ops e d=true:=zh.2 ⟨oe,hoe,hdst⟩;have hin:∀j o,j<e→ops[j]?=some o→o∈ops.toList.take e:=by
  intro j o hj ho;rw [List.mem_take_iff_getElem];have hjs:=(Array.getElem?_eq_some_iff.1 ho).1;refine⟨j,by simp;omega,?_⟩;rw [Array.getElem?_eq_getElem hjs]at ho;simpa using ho
 have hout:∀j o,j<e→ops[j]?=some o→d∉o.looksAt ops∧o.dst≠some d:=by
  intro j o hj ho;have h1:=List.all_eq_true.1 hap j (List.mem_range.2 (by omega));rw [ho]at h1;have h2:=List.all_eq_true.1 h1 e (List.mem_range.2 (by omega));simp only [Bool.and_eq_true]at h2;refine⟨fun hm=>?_,fun hm=>?_⟩
  ·have h3:=List.all_eq_true.1 h2.2 d hm;simp only [hde,Bool.not_true,Bool.false_or]at h3;obtain⟨o',ho',ee,hee,hb,heq⟩:=zz h3;rw [ho]at ho';cases ho';have:=z2g hback ho hee hb;omega
  ·have h3:=h2.1;unfold z3l at h3;rw [hm]at h3;simp only [hde,Bool.not_true,Bool.or_false,decide_eq_true_eq]at h3;omega
 let O:List Nat→List (Option AObj):=fun L=>if e∈L then objs1 else objs'
 refine z9g (O:=O) (G:=fun a=>a.dropS (memN ι)=a) (objsF:=objs1) (envF:=(d,r0)::E1) hmx hB ?_ (fun t a ht=>z5u hdrop ht) (by simp [O]) (fun L hL=>by simp [O,hL e (by omega)]) ?_ hk
 ·intro j o hj ho;by_cases hje:j=e
  ·subst hje;rw [hoe]at ho;cases ho;intro L hLm hjL hdeps π w tmps hsz hm hgk hlk;have hOL:O L=objs':=by simp [O,hjL]
   have hOj:O (j::L)=objs1:=by simp [O]
   rw [hOL]at hm hgk hlk;have hlk':∀t∈oe.looksAt ops,∀b,look E1 t=some b→RelV w (okOf C.X π objs') π b (tmps.getD t undef):=by
    intro t ht b hb;refine hlk t ht b ?_;rw [zu,if_neg ?_]
    ·exact hb
    ·rintro rfl;have h1:=List.all_eq_true.1 hap j (List.mem_range.2 (by omega));rw [hoe]at h1;have h2:=List.all_eq_true.1 h1 j (List.mem_range.2 (by omega));simp only [Bool.and_eq_true]at h2;have h3:=List.all_eq_true.1 h2.2 d ht;simp only [hde,Bool.not_true,Bool.false_or]at h3;obtain⟨o',ho',ee,hee,hb2,heq⟩:=zz h3;rw [hoe]at ho';cases ho';have:=z2g hback hoe hee hb2;omega
   have he:z13 w (okOf C.X π objs') π (restr E1 (oe.looksAt ops)) tmps:=fun t b ht=>by
    obtain⟨h1,h2⟩:=z12 ht;exact hlk' t h1 b h2
   obtain⟨vs,c1,c2⟩:=z2t he hco;refine .inr ⟨(zm he).1 hw,.inr (.inr ⟨g,vs.toArray,by rw [c2,hen],?_⟩)⟩;have hargs:RelVs w (okOf (lendX C.X π objs' ι) (lendP π ι) objs0) (lendP π ι) bs vs:=by
    refine RelVs.unren (m:=ι.length) (z3z hm hs) ?_ bs hd (hv.rel c1);intro j' h' hj' hh';obtain⟨i',hi'⟩:∃i',nth ι j'=some i':=by
     rw [z1k];exact⟨ι[j'],List.getElem?_eq_getElem hj'⟩
    rw [z9a hi']at hh';rw [z2d hi' (z1r hh')];exact hh'
   rcases hc _ _ w vs (z8b hgk hm hs) (z8a hm hs hnd hro) hargs with⟨_,hcl⟩|⟨v,w',hcl,_⟩
   ·refine hcl.mono ?_;rintro e2 w2 ⟨v,r,o,π',rfl,hR,hm',hrel,hhist⟩;have L2:=lended hm hs hnd hm' hhist;obtain⟨e3,e4⟩:=hr r o hR;have hmem:=L2.mem;have hhst:=L2.hist;have hkp:=L2.keep;have hbk:=L2.back _ _ hrel;rw [e4]at hmem hhst hkp hbk;rw [e3]at hbk;refine⟨v,z2c ι π' π,rfl,⟨by rw [hOj];exact hmem,by rw [hOL,hOj];exact hhst,fun a u hg hau=>?_⟩,fun d' hd'=>?_⟩
    ·rw [hOL]at hau;have:=hkp a u hau;rw [hg]at this;rw [hOj];exact this
    ·rw [hdst]at hd';cases hd';exact⟨by simpa [Nat.blt_eq]using hdn,r0,by rw [zu,if_pos rfl],by rw [hOj];exact hbk⟩
   ·rw [hen]at hcl;cases hcl
  ·have hje':j<e:=by omega
   obtain⟨h1,h2⟩:=hout j o hje' ho;refine zie (fun L=>?_) fun L=>?_
   ·have:e≠j:=fun h=>hje h.symm
    simp [O,this]
   ·by_cases hL:e∈L
    ·have:O L=objs1:=by simp [O,hL]
     rw [this];exact z71 h1 h2 (b3 o (hin j o hje' ho))
    ·have:O L=objs':=by simp [O,hL]
     rw [this];exact z71 h1 h2 (a3 o (hin j o hje' ho))
 ·intro t ht a ha;have hne:d≠t:=by
   rintro rfl;have:=ht e (by omega);rw [hde]at this;cases this
  rw [zu,if_neg hne]at ha;refine a1 t (fun o ho hd=>?_) a ha;rw [List.mem_take_iff_getElem]at ho;obtain⟨j,hj,rfl⟩:=ho;have hjs:j<ops.size:=by simp at hj;omega
  have:=ht j (by simp at hj;omega);rw [zh.2 ⟨_,Array.getElem?_eq_getElem hjs,by simpa using hd⟩]at this;cases this
end
end Ab
namespace Go.Proofs.YtbodbhpdelgpnaaGreatDoor
open Go Ab
@[reducible] def vU(x:Nat):AV:=vI .u64 (x:Int)
def eU(x:Nat):D:=.v (.int .u64 (x:Int))
@[reducible] def eUs(l:List Nat):D:=eL 1 eU 0 l
@[reducible] def gUs(l:List Nat):AObj:=gL 168 1 eU 0 l
@[reducible] def eV(w:Int)(l:List Nat):D:=.ag [eI w,eUs l]
@[reducible] def cV(w:Int)(j:Nat):AObj:=.cells 118 [vI .i64 w,.gs j]
theorem wrapU(n:Nat):IntKind.u64.wrap (n:Int)=((n%18446744073709551616:Nat):Int):=by
 simp only [IntKind.wrap,IntKind.bits,IntKind.signed,show(2:Int)^64=18446744073709551616 from rfl,Bool.false_and];simp
theorem z4h{n:Nat}(h:n<18446744073709551616):IntKind.u64.wrap (n:Int)=(n:Int):=by rw [wrapU,Nat.mod_eq_of_lt h]
theorem bitU(n:Nat):(bitI .u64 (n:Int)).toNat=n%18446744073709551616:=by
 simp [bitI,IntKind.bits]
theorem z6m{n:Nat}(h:n<18446744073709551616):(bitI .u64 (n:Int)).toNat=n:=by rw [bitU,Nat.mod_eq_of_lt h]
theorem andU{x y:Nat}(hx:x<18446744073709551616)(hy:y<18446744073709551616):IntKind.u64.wrap ((bitI .u64 (x:Int) &&& bitI .u64 (y:Int)).toNat:Nat)=((x &&& y:Nat):Int):=by
 rw [BitVec.toNat_and,z6m hx,z6m hy,z4h];exact Nat.lt_of_le_of_lt Nat.and_le_left hx
theorem orU{x y:Nat}(hx:x<18446744073709551616)(hy:y<18446744073709551616):IntKind.u64.wrap ((bitI .u64 (x:Int) ||| bitI .u64 (y:Int)).toNat:Nat)=((x ||| y:Nat):Int):=by
 rw [BitVec.toNat_or,z6m hx,z6m hy,z4h];exact Nat.or_lt_two_pow (n:=64) hx hy
theorem xorU{x y:Nat}(hx:x<18446744073709551616)(hy:y<18446744073709551616):IntKind.u64.wrap ((bitI .u64 (x:Int) ^^^ bitI .u64 (y:Int)).toNat:Nat)=((x ^^^ y:Nat):Int):=by
 rw [BitVec.toNat_xor,z6m hx,z6m hy,z4h];exact Nat.xor_lt_two_pow (n:=64) hx hy
theorem notU{x:Nat}(hx:x<18446744073709551616):IntKind.u64.wrap ((bitI .u64 (if IntKind.u64.signed then -1 else IntKind.u64.max) ^^^ bitI .u64 (x:Int)).toNat:Nat)=((18446744073709551615-x:Nat):Int):=by
 have h1:(if IntKind.u64.signed then(-1:Int)else IntKind.u64.max)=((18446744073709551615:Nat):Int):=rfl;have h:=BitVec.toNat_not (x:=BitVec.ofNat 64 x);rw [←BitVec.allOnes_xor,BitVec.toNat_xor,BitVec.toNat_allOnes,BitVec.toNat_ofNat,Nat.mod_eq_of_lt hx]at h;have h2:(18446744073709551615:Nat) ^^^ x=18446744073709551615-x:=h;rw [h1,BitVec.toNat_xor,z6m (by omega),z6m hx,h2,z4h (by omega)]
theorem shlU{x b:Nat}(hb:b<64):IntKind.u64.wrap ((x:Int)*2^(min (b:Int).toNat IntKind.u64.bits))=((x*2^b%18446744073709551616:Nat):Int):=by
 have:min (b:Int).toNat IntKind.u64.bits=b:=by simp [IntKind.bits];omega
 rw [this,show((x:Int)*2^b)=((x*2^b:Nat):Int)by push_cast;rfl,wrapU]
theorem shrU{x b:Nat}(hb:b<64):(x:Int).fdiv (2^(min (b:Int).toNat IntKind.u64.bits))=((x / 2^b:Nat):Int):=by
 have:min (b:Int).toNat IntKind.u64.bits=b:=by simp [IntKind.bits];omega
 rw [this,show((2:Int)^b)=((2^b:Nat):Int)by push_cast;rfl,Int.fdiv_eq_ediv_of_nonneg _ (Int.natCast_nonneg _)];rfl
theorem pow64{b:Nat}(hb:b<64):2^b<18446744073709551616:=Nat.pow_lt_pow_right (a:=2) (by omega) (show b<64 from hb)
def z6(w:Nat):Nat:=(w+63) / 64
theorem zcg(w:Nat)(hw:w≤1000000000):ACall Tryz.prog 136 [vI .i64 w] [] (fun r o=>r=vI .i64 (z6 w)):=by
 refine yN Tryz.func136 fun C hC hCl hDs hGk=>?_;refine yR Tryz.func136 rfl ⟨by decide,trivial⟩ ?_;show vI .i64 _=vI .i64 _;have e1:IntKind.i64.wrap ((w:Int)+64)=((w+64:Nat):Int):=z7 (by omega) (by omega);have e2:IntKind.i64.wrap (((w+64:Nat):Int)-1)=((w+63:Nat):Int):=by rw [z7 (by omega) (by omega)];omega
 rw [e1,e2,show((w+63:Nat):Int).tdiv 64=((z6 w:Nat):Int)from rfl,z7 (by omega) (by unfold z6;omega)]
theorem z2b(w:Nat)(hw:w≤1000000):ACall Tryz.prog 97 [vI .i64 w] [] (fun r o=>r=.ag [vI .i64 w,.gs 1]∧o=[none,some (gUs (List.replicate (z6 w) 0))]):=by
 refine yN Tryz.func97 fun C hC hCl hDs hGk=>?_;refine yV Tryz.func97 rfl trivial (zcg w (by omega)) (.refl _) ?_;have hl:z6 w≤1000000:=by unfold z6;omega
 refine yL Tryz.func97 rfl ?_ (.refl _) ⟨.gL (by rw [List.map_replicate];rfl),trivial⟩ ⟨rfl,rfl⟩ (o2:=[none,some (gUs (List.replicate (z6 w) 0))]);refine⟨⟨by omega,Int.le_refl _,?_⟩,trivial⟩;show(z6 w:Int)*(8:Int)≤_;omega
def setB(l:List Nat)(i:Nat):List Nat:=l.set (i / 64) (l.getD (i / 64) 0 ||| 2^(i%64))
def lims(l:List Nat):Prop:=∀x∈l,x<18446744073709551616
theorem z29{l:List Nat}(h:lims l)(i:Nat):l.getD i 0<18446744073709551616:=by
 rw [List.getD_eq_getElem?_getD];cases hx:l[i]? with
 | none=>simp
 | some x=>exact h x (List.mem_of_getElem? hx)
theorem zdu{l:List Nat}(h:lims l){i x:Nat}(hx:x<18446744073709551616):lims (l.set i x):=fun y hy=>by
 rcases List.mem_or_eq_of_mem_set hy with hy|rfl
 ·exact h y hy
 ·exact hx
theorem zeq{l:List Nat}(h:lims l)(i:Nat):lims (setB l i):=zdu h (Nat.or_lt_two_pow (n:=64) (z29 h _) (pow64 (Nat.mod_lt _ (by omega))))
theorem zhr(l:List Nat)(i:Nat):(setB l i).length=l.length:=by simp [setB]
theorem z5j(w i:Nat)(l:List Nat)(hl:lims l)(hi:i / 64<l.length)(hb:i≤1000000):ACall Tryz.prog 98 [.ag [vI .i64 w,.gs 1],vI .i64 i] [some (cV w 1),some (gUs l)] (fun r o=>r=.tp []∧o=[some (cV w 1),some (gUs (setB l i))]):=by
 refine yN Tryz.func98 fun C hC hCl hDs hGk=>?_;have e1:IntKind.i64.wrap ((i:Int).tdiv 64)=((i / 64:Nat):Int):=by rw [show(i:Int).tdiv 64=((i / 64:Nat):Int)from rfl,z7 (by omega) (by omega)]
 have e2:(i:Int).tmod 64=((i%64:Nat):Int):=rfl;have hm:i%64<64:=Nat.mod_lt _ (by omega);refine yO 9 Tryz.func98 rfl trivial ?_;refine yq rfl ?_ ?_
 ·simp only [e1,e2,Int.toNat_natCast,List.length_map];exact⟨by omega,by decide,hi,⟨by omega,by omega⟩,by decide,trivial⟩
 refine yL Tryz.func98 rfl ?_ (.refl _) ⟨.refl _,.gL ?_,trivial⟩ ⟨rfl,rfl⟩ (o2:=[some (cV w 1),some (gUs (setB l i))])
 ·simp only [andP,e1,Int.toNat_natCast,List.length_map];exact⟨hi,⟨by omega,by omega⟩,trivial⟩
 ·simp only [e1,e2,Int.toNat_natCast];rw [setB,List.map_set];congr 1;show D.v (.int .u64 _)=D.v (.int .u64 _);have e3:IntKind.u64.wrap ((1:Int)*2^(min ((i%64:Nat):Int).toNat IntKind.u64.bits))=((2^(i%64):Nat):Int):=by
   have:=shlU (x:=1) hm;rw [Nat.one_mul,Nat.mod_eq_of_lt (pow64 hm)]at this;exact this
  rw [Int.toNat_natCast]at e3;rw [e3,orU (z29 hl _) (pow64 hm)]
def cutL(w:Nat)(l:List Nat):List Nat:=if 0<w%64 then l.set (l.length-1) (l.getD (l.length-1) 0%2^(w%64))else l
theorem zn6{w:Nat}{l:List Nat}(h:lims l):lims (cutL w l):=by
 unfold cutL;split
 ·exact zdu h (Nat.lt_of_le_of_lt (Nat.mod_le _ _) (z29 h _))
 ·exact h
theorem zir(w:Nat)(l:List Nat)(hl:lims l)(hne:0<l.length)(hlm:l.length≤1000000)(hb:w≤1000000):ACall Tryz.prog 232 [.ag [vI .i64 w,.gs 1]] [some (cV w 1),some (gUs l)] (fun r o=>r=.ag [vI .i64 w,.gs 1]∧o=[some (cV w 1),some (gUs (cutL w l))]):=by
 refine yN Tryz.func232 fun C hC hCl hDs hGk=>?_;have hm:w%64<64:=Nat.mod_lt _ (by omega);have e1:(w:Int).tmod 64=((w%64:Nat):Int):=rfl;refine yB Tryz.func232 rfl ⟨by decide,trivial⟩ (fun h=>?_) (fun h=>?_)
 ·have h:0<w%64:=by simp only [e1,decide_eq_true_eq]at h;omega
  have e2:IntKind.i64.wrap ((l.length:Int)-1)=((l.length-1:Nat):Int):=by rw [z7 (by omega) (by omega)];omega
  have e3:IntKind.u64.wrap ((1:Int)*2^(min ((w%64:Nat):Int).toNat IntKind.u64.bits))=((2^(w%64):Nat):Int):=by
   have:=shlU (x:=1) hm;rw [Nat.one_mul,Nat.mod_eq_of_lt (pow64 hm)]at this;exact this
  have hp:0<2^(w%64):=Nat.two_pow_pos _;have hp2:=pow64 hm;have e4:IntKind.u64.wrap (((2^(w%64):Nat):Int)-1)=((2^(w%64)-1:Nat):Int):=by
   rw [show((2^(w%64):Nat):Int)-1=((2^(w%64)-1:Nat):Int)by omega,z4h (by omega)]
  rw [Int.toNat_natCast]at e3;refine yO 11 Tryz.func232 rfl trivial ?_;refine yq rfl ?_ ?_
  ·simp only [e1,e2,Int.toNat_natCast,List.length_map];refine⟨?_,?_,?_,trivial⟩<;>omega
  refine yL Tryz.func232 rfl ?_ (.refl _) ⟨.refl _,.gL ?_,trivial⟩ ⟨rfl,rfl⟩ (o2:=[some (cV w 1),some (gUs (cutL w l))])
  ·simp only [andP,e2,Int.toNat_natCast,List.length_map];refine⟨?_,?_,trivial⟩<;>omega
  ·simp only [e1,e2,e3,e4,Int.toNat_natCast,List.length_map];rw [cutL,if_pos h,List.map_set];congr 1;show D.v (.int .u64 _)=D.v (.int .u64 _);rw [andU (z29 hl _) (by omega),Nat.and_two_pow_sub_one_eq_mod]
 ·have h:¬0<w%64:=by simp only [e1,decide_eq_false_iff_not]at h;omega
  refine yL Tryz.func232 rfl trivial (.refl _) ⟨.refl _,.gL ?_,trivial⟩ ⟨rfl,rfl⟩ (o2:=[some (cV w 1),some (gUs (cutL w l))]);rw [cutL,if_neg h]
def bitN(l:List Nat)(i:Nat):Bool:=(l.getD (i / 64) 0 / 2^(i%64))%2==1
def bitV(w:Nat)(l:List Nat)(i:Int):Bool:=decide (0≤i)&&decide (i<w)&&bitN l i.toNat
theorem z1o{w i:Nat}(h:i<w):i / 64<z6 w:=by unfold z6;omega
theorem za1(w:Nat)(l:List Nat)(i:Int)(hl:lims l)(hw:z6 w≤l.length)(hb:w≤1000000):ACall Tryz.prog 101 [.d (eV w l),vI .i64 i] [] (fun r o=>r=vB (bitV w l i)):=by
 refine yN Tryz.func101 fun C hC hCl hDs hGk=>?_;refine yB Tryz.func101 rfl trivial (fun h=>?_) (fun h=>?_)
 ·have h:0≤i:=by simpa using h
  obtain⟨n,rfl⟩:∃n:Nat,i=n:=⟨i.toNat,by omega⟩
  refine yB Tryz.func101 rfl trivial (fun h2=>?_) (fun h2=>?_)
  ·have h2:n<w:=by simp at h2;omega
   have h3:=z1o h2;have hm:n%64<64:=Nat.mod_lt _ (by omega);have e1:IntKind.i64.wrap ((n:Int).tdiv 64)=((n / 64:Nat):Int):=by rw [show(n:Int).tdiv 64=((n / 64:Nat):Int)from rfl,z7 (by omega) (by omega)]
   have e2:(n:Int).tmod 64=((n%64:Nat):Int):=rfl;refine yR Tryz.func101 rfl ?_ ?_
   ·simp only [e1,e2,Int.toNat_natCast,List.length_map];refine⟨by omega,by decide,⟨by omega,by omega⟩,by decide,trivial⟩
   ·show vB _=vB _;simp only [e1,e2,Int.toNat_natCast];have e3:=shrU (x:=l.getD (n / 64) 0) hm;rw [Int.toNat_natCast]at e3;have hx:l.getD (n / 64) 0 / 2^(n%64)<18446744073709551616:=Nat.lt_of_le_of_lt (Nat.div_le_self _ _) (z29 hl _);rw [e3];have e4:=andU hx (show 1<18446744073709551616 by decide);rw [show((1:Nat):Int)=1 from rfl]at e4;rw [e4,Nat.and_one_is_mod];simp only [bitV,bitN,Int.toNat_natCast];rw [decide_eq_true (by omega:(0:Int)≤n),decide_eq_true (by omega:(n:Int)<w),Bool.true_and,Bool.true_and];rcases Nat.mod_two_eq_zero_or_one (l.getD (n / 64) 0 / 2^(n%64))with e|e<;>rw [e]<;>rfl
  ·have h2:¬(n:Int)<w:=by simpa using h2
   refine yR Tryz.func101 rfl trivial ?_;show vB false=vB _;simp [bitV,h2]
 ·have h:¬0≤i:=by simpa using h
  refine yF Tryz.func101 rfl trivial ?_;refine yR Tryz.func101 rfl trivial ?_;show vB false=vB _;simp [bitV,h]
def z83(w:Int)(l:List Nat):Bool:=decide (1≤w)&&decide (w≤128)&&decide (l.length=z6 w.toNat)&&(decide (w.toNat%64=0)||decide (l.getD (l.length-1) 0 / 2^(w.toNat%64)=0))
theorem zk5(w:Int)(l:List Nat)(hl:lims l)(hlen:l.length≤maxLen):ACall Tryz.prog 137 [.d (eV w l)] [] (fun r o=>r=vB (z83 w l)):=by
 have hml:maxLen=9223372036854775807:=rfl;refine yN Tryz.func137 fun C hC hCl hDs hGk=>?_;refine yO 15 Tryz.func137 rfl trivial ?_;refine yb rfl trivial (fun h1=>?_) (fun h1=>?_)
 ·have h1:w<1:=by simpa using h1
  refine yb rfl trivial (fun h=>?_) (fun h=>by cases h);refine yq rfl trivial ?_;refine yT Tryz.func137 rfl trivial ?_;refine yR Tryz.func137 rfl trivial ?_;show vB false=vB _;have:¬1≤w:=by omega
  simp [z83,this]
 have h1:1≤w:=by simpa using h1
 refine yb rfl trivial (fun h2=>?_) (fun h2=>?_)
 ·have h2:128<w:=by simpa using h2
  refine yq rfl trivial ?_;refine yT Tryz.func137 rfl trivial ?_;refine yR Tryz.func137 rfl trivial ?_;show vB false=vB _;have:¬w≤128:=by omega
  simp [z83,this]
 have h2:w≤128:=by simpa using h2
 obtain⟨n,rfl⟩:∃n:Nat,w=n:=⟨w.toNat,by omega⟩
 refine z5t tabOk rfl trivial (zcg n (by omega)) (zb Tryz.func136 rfl rfl) (fun r o h=>h) (.refl _) rfl rfl ⟨_,rfl⟩ ?_;refine yq rfl trivial ?_;refine yB Tryz.func137 rfl trivial (fun h3=>?_) (fun h3=>?_)
 ·have h3:l.length≠z6 n:=by simp at h3;omega
  refine yR Tryz.func137 rfl trivial ?_;show vB false=vB _;simp [z83,h3]
 have h3:l.length=z6 n:=by simp at h3;omega
 have hln:0<z6 n:=by unfold z6;omega
 have e1:(n:Int).tmod 64=((n%64:Nat):Int):=rfl;have hm:n%64<64:=Nat.mod_lt _ (by omega);have e2:IntKind.i64.wrap ((l.length:Int)-1)=((l.length-1:Nat):Int):=by rw [z7 (by omega) (by omega)];omega
 refine yB Tryz.func137 rfl ⟨by decide,trivial⟩ (fun h4=>?_) (fun h4=>?_)
 ·have h4:n%64=0:=by simp only [e1,beq_iff_eq]at h4;omega
  refine yR Tryz.func137 rfl trivial ?_;show vB true=vB _;have a1:(1:Int)≤n:=by omega
  simp [z83,h4,h3,h2,a1]
 ·have h4:n%64≠0:=by simp only [e1,beq_eq_false_iff_ne]at h4;omega
  refine yR Tryz.func137 rfl ?_ ?_
  ·simp only [e1,e2,Int.toNat_natCast,List.length_map];refine⟨?_,?_,trivial⟩<;>omega
  ·show vB _=vB _;simp only [e1,e2,Int.toNat_natCast,List.length_map];have e3:=shrU (x:=l.getD (l.length-1) 0) hm;rw [Int.toNat_natCast]at e3;rw [e3];have a1:(1:Int)≤n:=by omega
   have a2:(((l.getD (l.length-1) 0 / 2^(n%64):Nat):Int)==0)=decide (l.getD (l.length-1) 0 / 2^(n%64)=0):=by
    rw [Bool.eq_iff_iff];simp only [beq_iff_eq,decide_eq_true_eq];omega
   rw [a2];simp only [z83,Int.toNat_natCast,decide_eq_true a1,decide_eq_true h2,decide_eq_true h3,decide_eq_false h4,Bool.true_and,Bool.false_or]
theorem zq8(a b:List Nat):ACall Tryz.prog 262 [.d (eUs a),.d (eUs b)] [] (fun r o=>r=vB (decide (a=b))):=by
 refine yN Tryz.func262 fun C hC hCl hDs hGk=>?_;refine z7h (t:=0) rfl fun hlen=>?_;rw [List.length_map]at hlen;refine yB Tryz.func262 rfl trivial (fun h=>?_) (fun h=>?_)
 ·refine yR Tryz.func262 rfl trivial ?_;show vB false=vB _;have:a≠b:=by rintro rfl;simp at h
  simp [this]
 have hl:a.length=b.length:=by simp at h;omega
 refine yS Tryz.func262 rfl trivial ?_;refine z8 (α:=Nat) (fun i=>[(0,.d (eUs a)),(1,.d (eUs b)),(12,vI .i64 a.length),(13,vI .i64 i)]) (fun _=>[]) (fun i=>i≤a.length∧a.take i=b.take i) (fun i=>a.length-i) 0 ⟨Nat.zero_le _,rfl⟩ ?_ ?_
 ·exact fun h=>yE h ⟨erl rfl,erl rfl,⟨_,rfl,.of (by rw [List.length_map])⟩,erl rfl,trivial⟩ trivial
 rintro i ⟨hi,hc⟩ ih;refine yB Tryz.func262 rfl trivial (fun hb=>?_) (fun hb=>?_)<;>simp only [decide_eq_true_eq,decide_eq_false_iff_not,List.length_map]at hb
 ·have hlt:i<a.length:=by omega
  have hlb:i<b.length:=by omega
  have ea:a.getD i 0=a[i]:=by simp [hlt]
  have eb:b.getD i 0=b[i]:=by simp [hlb]
  refine yO 8 Tryz.func262 rfl trivial ?_;refine yq rfl ?_ ?_
  ·exact(by simp [andP]<;>omega)
  refine yB Tryz.func262 rfl trivial (fun hb2=>?_) (fun hb2=>?_)
  ·simp only [Int.toNat_natCast,bne_iff_ne,ne_eq,Int.natCast_inj]at hb2;refine yR Tryz.func262 rfl trivial ?_;show vB false=vB _;have:a≠b:=by rintro rfl;exact hb2 rfl
   simp [this]
  ·simp only [Int.toNat_natCast,bne_eq_false_iff_eq,Int.natCast_inj]at hb2;rw [ea,eb]at hb2;refine yS Tryz.func262 rfl trivial ?_;refine yE (ih (i+1) ⟨by omega,?_⟩ (by omega)) ⟨erl rfl,erl rfl,erl rfl,erw rfl,trivial⟩ trivial;rw [List.take_add_one,List.take_add_one,hc,List.getElem?_eq_getElem hlt,List.getElem?_eq_getElem hlb,hb2]
 ·obtain rfl:i=a.length:=by omega
  rw [List.take_length,hl,List.take_length]at hc;refine yR Tryz.func262 rfl trivial ?_;show vB true=vB _;simp [hc]
def sameV(w:Int)(l:List Nat)(v:Int)(k:List Nat):Bool:=decide (w=v)&&decide (l=k)
theorem zns(w v:Int)(l k:List Nat):ACall Tryz.prog 258 [.d (eV w l),.d (eV v k)] [] (fun r o=>r=vB (sameV w l v k)):=by
 refine yN Tryz.func258 fun C hC hCl hDs hGk=>?_;refine yB Tryz.func258 rfl trivial (fun h=>?_) (fun h=>?_)
 ·have h:w=v:=by simpa using h
  refine yV Tryz.func258 rfl trivial (zq8 l k) (.refl _) ?_;refine yR Tryz.func258 rfl trivial ?_;show vB _=vB _;simp [sameV,h]
 ·have h:w≠v:=by simpa using h
  refine yR Tryz.func258 rfl trivial ?_;show vB _=vB _;simp [sameV,h]
theorem zim{α:Type}(pre:List α)(z:α)(i:Nat)(hi:i<pre.length):(pre.take i++List.replicate (pre.length-i) z).set i pre[i]=pre.take (i+1)++List.replicate (pre.length-(i+1)) z:=by
 apply List.ext_getElem?;intro j;have hl:(pre.take i).length=i:=by simp;omega
 have hl1:(pre.take (i+1)).length=i+1:=by simp;omega
 rw [List.getElem?_set];by_cases e:i=j
 ·subst e;rw [if_pos rfl,if_pos (by simp;omega),List.getElem?_append_left (by omega)];simp [hi]
 ·rw [if_neg e];rcases Nat.lt_or_ge j i with h|h
  ·rw [List.getElem?_append_left (by omega),List.getElem?_append_left (by omega)];simp [List.getElem?_take,h,Nat.lt_succ_of_lt h]
  ·rw [List.getElem?_append_right (by omega),List.getElem?_append_right (by omega),hl,hl1];rw [List.getElem?_replicate,List.getElem?_replicate];by_cases h2:j<pre.length
   ·rw [if_pos (by omega),if_pos (by omega)]
   ·rw [if_neg (by omega),if_neg (by omega)]
@[reducible] def bV(w:Int)(l:List Nat):AObj:=.cells 118 [.d (eI w),.d (eUs l)]
@[reducible] def zV:AObj:=.cells 118 [.d (.v (.int .i64 0)),.d (.v (.slice none 0 0))]
@[reducible] def fnV(g:FuncId):AV:=.d (.v (.func (.func g) ⟨[]⟩ ⟨[]⟩))
theorem zhh{F:Nat→Nat→Nat}{a b:List Nat}(ha:lims a)(hb:lims b)(hF:∀x y,x<18446744073709551616→y<18446744073709551616→F x y<18446744073709551616):lims (List.zipWith F a b):=by
 intro x hx;obtain⟨i,hi,rfl⟩:=List.mem_iff_getElem.1 hx;rw [List.getElem_zipWith];simp only [List.length_zipWith]at hi;exact hF _ _ (ha _ (List.getElem_mem (by omega))) (hb _ (List.getElem_mem (by omega)))
theorem z8h(w:Nat)(v:Int)(a b:List Nat)(g:FuncId)(F:Nat→Nat→Nat)(ha:lims a)(hb:lims b)(hla:a.length=z6 w)(hlb:b.length=z6 w)(hw:0<w)(hwb:w≤1000000)
  (hen:∀args w,(callFunc g args).run Tryz.prog w=.ok (.enter g args) w) (hF:∀x y,x<18446744073709551616→y<18446744073709551616→F x y<18446744073709551616)
  (hg:∀x y,x<18446744073709551616→y<18446744073709551616→ACall Tryz.prog g [vU x,vU y] [] (fun r o=>r=vU (F x y))) :
  ACall Tryz.prog 227 [.d (eV w a),.d (eV v b),fnV g] [] (fun r o=>r=.d (eV w (cutL w (List.zipWith F a b)))):=by
 refine yN Tryz.func227 fun C hC hCl hDs hGk=>?_;have hln:0<z6 w∧z6 w≤1000000:=by unfold z6;omega
 have hzl:(List.zipWith F a b).length=z6 w:=by simp;omega
 refine yW [] Tryz.func227 rfl trivial (z2b w hwb) trivial (.refl _) ?_;refine yS Tryz.func227 rfl trivial ?_;refine z8 (α:=Nat) (fun i=>[(2,fnV g),(3,.ptr 0 0),(4,.ptr 1 0),(6,.ptr 2 0),(7,.ptr 5 0),(14,vI .i64 (z6 w)),(15,vI .i64 i)]) (fun i=>[some (bV w a),some (bV v b),some zV,none,some (gUs ((List.zipWith F a b).take i++List.replicate (z6 w-i) 0)),some (cV w 4)]) (fun i=>i≤z6 w) (fun i=>z6 w-i) 0 (Nat.zero_le _) ?_ ?_
 ·refine fun h=>yE h ⟨erl rfl,erl rfl,erl rfl,erl rfl,erl rfl,⟨_,rfl,.of ?_⟩,erl rfl,trivial⟩ ⟨.refl _,.refl _,.refl _,.gL (by simp),.refl _,trivial⟩;show vI .i64 ((List.map eU (List.replicate (z6 w) 0)).length:Int)=_;rw [List.length_map,List.length_replicate]
 rintro i hi ih;refine yB Tryz.func227 rfl trivial (fun hb2=>?_) (fun hb2=>?_)<;>simp only [decide_eq_true_eq,decide_eq_false_iff_not,List.length_map]at hb2
 ·have hlt:i<z6 w:=by omega
  have ea:a.getD i 0=a[i]:=by simp [show i<a.length by omega]
  have eb:b.getD i 0=b[i]:=by simp [show i<b.length by omega]
  have hx:=z29 ha i;have hy:=z29 hb i;have hzi:(List.zipWith F a b)[i]'(by omega)=F (a.getD i 0) (b.getD i 0):=by rw [List.getElem_zipWith,ea,eb]
  have hset:=zim (List.zipWith F a b) 0 i (by omega);rw [hzi,hzl]at hset;refine yO 15 Tryz.func227 rfl trivial ?_;refine z5t tabOk rfl ?_ (hg _ _ hx hy) hen (fun r o h=>h) (.refl _) rfl rfl ⟨_,rfl⟩ ?_
  ·exact(by simp [andP]<;>omega)
  refine yq rfl trivial ?_;refine yS Tryz.func227 rfl ?_ ?_
  ·exact(by simp [andP,List.length_take,hzl]<;>omega)
  refine yE (ih (i+1) (by omega) (by omega)) ⟨erl rfl,erl rfl,erl rfl,erl rfl,erl rfl,erl rfl,erw rfl,trivial⟩ ⟨.refl _,.refl _,.refl _,.gL ?_,.refl _,trivial⟩;rw [←hset,List.map_set];rfl
 ·obtain rfl:i=z6 w:=by omega
  have e1:(List.zipWith F a b).take (z6 w)++List.replicate (z6 w-z6 w) 0=List.zipWith F a b:=by
   rw [Nat.sub_self,List.replicate_zero,List.append_nil,List.take_of_length_le (by omega)]
  rw [e1];refine yW [5,4] Tryz.func227 rfl trivial (zir w (List.zipWith F a b) (zhh ha hb hF) (by omega) (by omega) hwb) ⟨⟨_,rfl,.refl _⟩,⟨_,rfl,.refl _⟩,trivial⟩ (.refl _) ?_;refine zj 4 rfl ?_;refine yR Tryz.func227 rfl trivial ?_;rfl
end Go.Proofs.YtbodbhpdelgpnaaGreatDoor
