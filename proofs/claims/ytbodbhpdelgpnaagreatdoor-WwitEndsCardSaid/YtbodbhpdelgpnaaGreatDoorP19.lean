/- A part of the proof. -/
import Derived.Test.YtbodbhpdelgpnaaGreatDoorP18
set_option linter.unusedVariables false
set_option linter.unusedSimpArgs false
set_option linter.unusedSectionVars false
set_option maxRecDepth 100000
set_option maxHeartbeats 8000000
namespace Go.Proofs.YtbodbhpdelgpnaaGreatDoor
open Go Ab Go.RowKit Go.Lib
structure Wt where
 bad:Int
 init:List (List UInt8)
 ins:List (List (List UInt8))
structure Sh where
 bads:Int
 st:List (Int×List UInt8)
 inw:List (Int×List UInt8)
def isB(c:UInt8):Bool:=c==48||c==49||c==120
def rowB(s:List UInt8)(w:Int):Bool:=decide ((s.length:Int)=w)&&s.all isB
def rowsB:List (List UInt8)→List (Int×List UInt8)→Bool
 | [],[]=>true
 | s::l,w::ws=>rowB s w.1&&rowsB l ws
 | _,_=>false
def z4n:List (List UInt8)→List (Int×List UInt8)→Bool
 | s::l,w::ws=>(w.2.isEmpty||s==w.2)&&z4n l ws
 | _,_=>true
def z28(h:Sh)(t:Wt):Bool:=decide (0≤t.bad∧t.bad<h.bads∧1≤t.ins.length∧t.ins.length≤200)&&rowsB t.init h.st&&z4n t.init h.st&&t.ins.all fun l=>rowsB l h.inw
def rowT(i:Nat)(s:List UInt8):List UInt8:=tItoa (i:Int)++[32]++(s++[10])
def z1i:Nat→List (List UInt8)→List UInt8
 | _,[]=>[]
 | i,s::l=>rowT i s++z1i (i+1) l
def z78(k:Nat)(l:List (List UInt8)):List UInt8:=[64]++tItoa (k:Int)++[10]++z1i 0 l
def z2e:Nat→List (List (List UInt8))→List UInt8
 | _,[]=>[]
 | k,l::r=>z78 k l++z2e (k+1) r
def kSat:List UInt8:=[115,97,116,10,98]
def z58:List UInt8:=[10,35,48,10]
def kEnd:List UInt8:=[46,10]
def wtT(t:Wt):List UInt8:=kSat++tItoa t.bad++z58++z1i 0 t.init++z2e 0 t.ins++kEnd
def bitsP(b:List UInt8):Nat→Int→List UInt8→PR (List UInt8)
 | 0,at_,out=>.inr (out,at_)
 | k+1,at_,out=>if at_<b.length∧isB (b.getD at_.toNat 0)=true then bitsP b k (at_+1) (out++[b.getD at_.toNat 0])else .inl (at_,2)
def rowP(b:List UInt8)(i:Nat)(w:Int×List UInt8)(at_:Int):PR (List UInt8):=
 bnd (wordP b (tItoa (i:Int)++[32]) at_) fun _ p=>bnd (if w.2.isEmpty=true then bitsP b w.1.toNat p []else bnd (wordP b w.2 p) fun _ q=>.inr (w.2,q)) fun s q=>bnd (wordP b [10] q) fun _ r=>.inr (s,r)
def rowsP(b:List UInt8):Nat→List (Int×List UInt8)→Int→List (List UInt8)→PR (List (List UInt8))
 | _,[],at_,out=>.inr (out,at_)
 | i,w::ws,at_,out=>bnd (rowP b i w at_) fun s p=>rowsP b (i+1) ws p (out++[s])
def z4b(b:List UInt8)(k:Nat)(ws:List (Int×List UInt8))(at_:Int):PR (List (List UInt8)):=bnd (wordP b ([64]++tItoa (k:Int)++[10]) at_) fun _ p=>rowsP b 0 ws p []
def z2y(b:List UInt8)(ws:List (Int×List UInt8)):Nat→Int→List (List (List UInt8))→PR (List (List (List UInt8)))
 | 0,at_,out=>.inl (at_,2)
 | f+1,at_,out=>if isAt b at_ kEnd=true∧out≠[]then .inr (out,isTo b at_ kEnd)else if isAt b at_ [64]=true∧out.length=200 then .inl (at_,3)else bnd (z4b b out.length ws at_) fun l p=>z2y b ws f p (out++[l])
def wtP(h:Sh)(b:List UInt8):PR Wt:=if 100000<b.length then .inl (0,3)else
 bnd (wordP b kSat 0) fun _ p=>bnd (numP b (h.bads-1) p) fun bad q=>bnd (wordP b z58 q) fun _ r=>bnd (rowsP b 0 h.st r []) fun init s=>bnd (z2y b h.inw 201 s []) fun ins e=>if e<b.length then .inl (e,2)else .inr (⟨bad,init,ins⟩,e)
theorem ziu{b:List UInt8}:∀(s out:List UInt8) (p:Nat) (r:List UInt8),At b p (s++r)→s.all isB=true→bitsP b s.length (p:Int) out=.inr (out++s,((p+s.length:Nat):Int))
 | [],out,p,r,h,_=>by simp [bitsP]
 | c::s,out,p,r,h,hs=>by
  rw [List.all_cons,Bool.and_eq_true]at hs;have hl:=h.len;rw [List.length_append,List.length_cons]at hl;have hc:b.getD p 0=c:=by
   have:=congrArg (fun l:List UInt8=>l.getD 0 0) h.2;simpa [List.getD_eq_getElem?_getD]using this
  rw [List.length_cons,bitsP,Int.toNat_natCast,hc,if_pos ⟨by omega,hs.1⟩];have a1:At b (p+[c].length) (s++r):=At.step (s:=[c]) h;have:=ziu s (out++[c]) (p+1) r a1 hs.2;rw [show((p:Int)+1)=((p+1:Nat):Int)by omega,this,List.append_assoc];congr 3;omega
theorem zri{b:List UInt8}{i p:Nat}{w:Int×List UInt8}{s r:List UInt8}(h:At b p (rowT i s++r))(hs:rowB s w.1=true)(hf:w.2.isEmpty=true∨s=w.2):rowP b i w (p:Int)=.inr (s,((p+(rowT i s).length:Nat):Int)):=by
 unfold rowB at hs;rw [Bool.and_eq_true,decide_eq_true_eq]at hs;unfold rowT at h ⊢;have a1:=h.assoc;have a2:=a1.step.assoc;have a3:=a2.step;unfold rowP;rw [z6q a1,z16];have key:∀q:PR (List UInt8),q=.inr (s,((p+(tItoa (i:Int)++[32]).length+s.length:Nat):Int))→(bnd q fun s q=>bnd (wordP b [10] q) fun _ r=>(.inr (s,r):PR (List UInt8)))=.inr (s,((p+(tItoa (i:Int)++[32]++(s++[10])).length:Nat):Int)):=by
  rintro _ rfl;rw [z16,z6q a3,z16];simp only [List.length_append];congr 3;omega
 apply key;cases he:w.2.isEmpty with
 | true=>
  rw [if_pos rfl];have:=ziu s [] _ _ a2 hs.2;rw [show w.1.toNat=s.length by omega,this,List.nil_append]
 | false=>
  rw [if_neg (by decide)];obtain rfl:s=w.2:=hf.resolve_left (by rw [he];decide);rw [z6q a2,z16]
theorem zdb{b:List UInt8}:∀(l:List (List UInt8)) (ws:List (Int×List UInt8)) (i p:Nat) (out:List (List UInt8)) (r:List UInt8),At b p (z1i i l++r)→rowsB l ws=true→z4n l ws=true→rowsP b i ws (p:Int) out=.inr (out++l,((p+(z1i i l).length:Nat):Int))
 | [],[],i,p,out,r,_,_,_=>by simp [rowsP,z1i]
 | [],w::ws,_,_,_,_,_,h,_=>by cases h
 | s::l,[],_,_,_,_,_,h,_=>by cases h
 | s::l,w::ws,i,p,out,r,h,h1,h2=>by
  rw [rowsB,Bool.and_eq_true]at h1;rw [z4n,Bool.and_eq_true,Bool.or_eq_true,beq_iff_eq]at h2;rw [z1i]at h ⊢;have a1:=h.assoc;rw [rowsP,zri a1 h1.1 h2.1,z16,zdb l ws (i+1) _ (out++[s]) r a1.step h1.2 h2.2,List.append_assoc,List.length_append];congr 3;omega
theorem zbc:∀(l:List (List UInt8)) (ws:List (Int×List UInt8)),(∀w∈ws,w.2=[])→z4n l ws=true
 | [],_,_=>by cases ‹List (Int×List UInt8)›<;>rfl
 | _::_,[],_=>rfl
 | s::l,w::ws,h=>by
  rw [z4n,h w List.mem_cons_self,zbc l ws fun x hx=>h x (List.mem_cons_of_mem _ hx)];rfl
theorem zmn{b:List UInt8}{k p:Nat}{l:List (List UInt8)}{ws:List (Int×List UInt8)}{r:List UInt8}(h:At b p (z78 k l++r))(hw:∀w∈ws,w.2=[])(hr:rowsB l ws=true):z4b b k ws (p:Int)=.inr (l,((p+(z78 k l).length:Nat):Int)):=by
 unfold z78 at h ⊢;have a1:=h.assoc;unfold z4b;rw [z6q a1,z16,zdb l ws 0 _ [] r a1.step hr (zbc l ws hw),List.nil_append];simp only [List.length_append];congr 3;omega
theorem zs8{b r:List UInt8}{p:Nat}{c d:UInt8}{s:List UInt8}(h:At b p (c::r))(hc:c≠d):isAt b (p:Int) (d::s)=false:=by
 obtain⟨h1,h2⟩:=h.split;have:=zib (b.take p) (c::r) 0 (Nat.zero_le _) (d::s);rw [←h1,h2,Nat.add_zero]at this;rw [this];exact zs7 hc
theorem At.is{b s r:List UInt8}{p:Nat}(h:At b p (s++r)):isAt b (p:Int) s=true∧isTo b (p:Int) s=((p+s.length:Nat):Int):=by
 obtain⟨h1,h2⟩:=h.split;have h3:=zb4 (b.take p) s r;have h4:=zfg (b.take p) s r;rw [←h1,h2]at h3 h4;exact⟨h3,by rw [h4];omega⟩
theorem zcl{b:List UInt8}{ws:List (Int×List UInt8)}(hw:∀w∈ws,w.2=[]):∀(l out:List (List (List UInt8))) (f p:Nat) (r:List UInt8),At b p (z2e out.length l++(kEnd++r))→(∀x∈l,rowsB x ws=true)→out.length+l.length≤200→1≤out.length+l.length→l.length<f→z2y b ws f (p:Int) out=.inr (out++l,((p+(z2e out.length l).length+2:Nat):Int))
 | [],out,f,p,r,h,_,h2,h3,hf=>by
  obtain⟨f,rfl⟩:∃k,f=k+1:=⟨f-1,by simp only [List.length_nil]at hf;omega⟩
  rw [z2e,List.nil_append]at h;obtain⟨i1,i2⟩:=h.is;have hne:out≠[]:=fun e=>by rw [e]at h3;simp at h3
  rw [z2y,if_pos ⟨i1,hne⟩,i2,List.append_nil];rfl
 | x::l,out,f,p,r,h,h1,h2,h3,hf=>by
  obtain⟨f,rfl⟩:∃k,f=k+1:=⟨f-1,by simp only [List.length_cons]at hf;omega⟩
  rw [List.length_cons]at h2 h3 hf;rw [z2e]at h ⊢;have a1:=h.assoc;have a0:At b p (64::(tItoa (out.length:Int)++([10]++(z1i 0 x++(z2e (out.length+1) l++(kEnd++r)))))):=by
   unfold z78 at a1;simpa [List.append_assoc]using a1
  have e1:isAt b (p:Int) kEnd=false:=zs8 a0 (by decide);rw [z2y,if_neg (by rw [e1];rintro⟨h,-⟩;cases h),if_neg (by rintro⟨-,h⟩;omega),zmn a1 hw (h1 x List.mem_cons_self),z16];have a2:=a1.step;have hl1:(out++[x]).length=out.length+1:=by rw [List.length_append,List.length_singleton]
  rw [←hl1]at a2;rw [zcl hw l (out++[x]) f _ r a2 (fun y hy=>h1 y (List.mem_cons_of_mem _ hy)) (by rw [hl1];omega) (by rw [hl1];omega) (by omega),hl1,List.append_assoc,List.length_append];congr 3;omega
theorem z39{h:Sh}{t:Wt}:z28 h t=true↔(0≤t.bad∧t.bad<h.bads∧1≤t.ins.length∧t.ins.length≤200)∧rowsB t.init h.st=true∧z4n t.init h.st=true∧∀l∈t.ins,rowsB l h.inw=true:=by
 unfold z28;simp only [Bool.and_eq_true,decide_eq_true_eq,List.all_eq_true,and_assoc]
theorem zg0{h:Sh}{t:Wt}(hi:∀w∈h.inw,w.2=[])(hr:z28 h t=true)(r:List UInt8)(hl:(wtT t++r).length≤100000)(hb:h.bads≤1000000):wtP h (wtT t++r)=if r=[]then .inr (t,((wtT t).length:Int))else .inl (((wtT t).length:Int),2):=by
 obtain⟨⟨b0,b1,n0,n1⟩,r1,r2,r3⟩:=z39.1 hr;have A0:At (wtT t++r) 0 (kSat++(tItoa t.bad++10::([35,48,10]++(z1i 0 t.init++(z2e 0 t.ins++(kEnd++r)))))):=by
  refine⟨Nat.zero_le _,?_⟩;rw [List.drop_zero];unfold wtT z58;simp [List.append_assoc]
 have hlen:=A0.len;have A1:=A0.step;have A2:At (wtT t++r) _ (z58++(z1i 0 t.init++(z2e 0 t.ins++(kEnd++r)))):=A1.step;have A3:=A2.step;have A4:=A3.step;unfold wtP;rw [if_neg (by omega),show(0:Int)=((0:Nat):Int)from rfl,z6q A0,z16,zrt A1 (by decide) b0 (by omega) (by omega),z16,z6q A2,z16,zdb t.init h.st 0 _ [] _ A3 r1 r2,z16,List.nil_append];rw [zcl hi t.ins [] 201 _ r A4 r3 (by simp;omega) (by simp;omega) (by omega),z16,List.nil_append];have e:(0+kSat.length+(tItoa t.bad).length+z58.length+(z1i 0 t.init).length+(z2e ([]:List (List (List UInt8))).length t.ins).length+2:Nat)=(wtT t).length:=by
  unfold wtT;simp only [List.length_append,List.length_nil,kEnd,List.length_cons];omega
 rw [e,List.length_append];cases r with
 | nil=>rw [if_neg (by simp),if_pos rfl]
 | cons c r=>
  rw [if_pos (by simp only [List.length_cons];omega),if_neg (by simp)]
theorem zbk{b:List UInt8}:∀(k:Nat) (out:List UInt8) (p:Nat),p≤b.length→GoodP b p (bitsP b k (p:Int) out) (fun s t=>s=out++t∧t.length=k∧t.all isB=true)
 | 0,out,p,hp=>z8e hp ⟨by simp,rfl,rfl⟩
 | k+1,out,p,hp=>by
  rw [bitsP,Int.toNat_natCast];by_cases h:(p:Int)<b.length∧isB (b.getD p 0)=true
  ·rw [if_pos h];obtain⟨h1,h2⟩:=h;have hlt:p<b.length:=by omega
   have hd:b.drop p=[b.getD p 0]++b.drop (p+1):=by
    rw [List.drop_eq_getElem_cons hlt,zii (d:=0) hlt];rfl
   have ih:=zbk (b:=b) k (out++[b.getD p 0]) (p+1) (by omega);rw [show((p+1:Nat):Int)=(p:Int)+1 by omega]at ih;constructor
   ·intro s e he;obtain⟨q,t,e1,⟨e2,e3⟩,e4,e5,e6⟩:=ih.ok s e he;exact⟨q,b.getD p 0::t,e1,⟨e2,by rw [hd,e3];rfl⟩,by rw [e4,List.append_assoc];rfl,by rw [List.length_cons,e5],by rw [List.all_cons,h2,e6];rfl⟩
   ·intro a e he;exact ih.er a e he
  ·rw [if_neg h];exact⟨fun s e he=>(by cases he),fun a e he=>by
    simp only [Sum.inl.injEq,Prod.mk.injEq]at he;exact⟨by omega,by omega,.inl he.2.symm⟩⟩
def WOk(ws:List (Int×List UInt8)):Prop:=∀w∈ws,0≤w.1∧(w.2=[]∨rowB w.2 w.1=true)
theorem zhx{b:List UInt8}{i p:Nat}{w:Int×List UInt8}(hw:0≤w.1∧(w.2=[]∨rowB w.2 w.1=true))(hp:p≤b.length):GoodP b p (rowP b i w (p:Int)) (fun s t=>t=rowT i s∧rowB s w.1=true∧(w.2.isEmpty||s==w.2)=true):=by
 refine z2n (z4x hp) fun _ q t h1 e1=>?_;subst e1;have key:GoodP b q (if w.2.isEmpty=true then bitsP b w.1.toNat (q:Int) []else bnd (wordP b w.2 (q:Int)) fun _ q=>.inr (w.2,q)) (fun s t=>t=s∧rowB s w.1=true∧(w.2.isEmpty||s==w.2)=true):=by
  cases he:w.2.isEmpty with
  | true=>
   rw [if_pos rfl];refine z8f (zbk w.1.toNat [] q h1.1) fun s t ⟨e1,e2,e3⟩=>?_;rw [List.nil_append]at e1;subst e1;refine⟨rfl,?_,rfl⟩;unfold rowB;rw [e3,Bool.and_true];exact decide_eq_true (by omega)
  | false=>
   rw [if_neg (by decide)];refine z2n (z4x h1.1) fun _ q2 t2 h2 e2=>?_;subst e2;refine z8e h2.1 ⟨by simp,hw.2.resolve_left (fun h=>by rw [h]at he;cases he),by simp⟩
 refine z2n key fun s q2 t2 h2 ⟨e2,e3,e4⟩=>?_;subst e2;refine z2n (z4x h2.1) fun _ q3 t3 h3 e3'=>?_;subst e3';refine z8e h3.1 ⟨?_,e3,e4⟩;unfold rowT;simp [List.append_assoc]
theorem zah{b:List UInt8}:∀(ws:List (Int×List UInt8)) (i:Nat) (out:List (List UInt8)) (p:Nat),WOk ws→p≤b.length→GoodP b p (rowsP b i ws (p:Int) out) (fun l t=>∃h,l=out++h∧t=z1i i h∧rowsB h ws=true∧z4n h ws=true)
 | [],i,out,p,_,hp=>z8e hp ⟨[],by simp,rfl,rfl,rfl⟩
 | w::ws,i,out,p,hw,hp=>by
  refine z2n (zhx (hw w List.mem_cons_self) hp) fun s q t h1 ⟨e1,e2,e3⟩=>?_;subst e1;refine z8f (zah ws (i+1) (out++[s]) q (fun x hx=>hw x (List.mem_cons_of_mem _ hx)) h1.1) fun l t ⟨h,f1,f2,f3,f4⟩=>?_;refine⟨s::h,by rw [f1,List.append_assoc];rfl,by rw [z1i,f2],?_,?_⟩
  ·rw [rowsB,e2,f3];rfl
  ·rw [z4n,e3,f4];rfl
theorem zcm{b:List UInt8}{k:Nat}{ws:List (Int×List UInt8)}{p:Nat}(hw:WOk ws)(hp:p≤b.length):GoodP b p (z4b b k ws (p:Int)) (fun l t=>t=z78 k l∧rowsB l ws=true):=by
 refine z2n (z4x hp) fun _ q t h1 e1=>?_;subst e1;refine z8f (zah ws 0 [] q hw h1.1) fun l t ⟨h,f1,f2,f3,_⟩=>?_;rw [List.nil_append]at f1;subst f1;exact⟨by rw [f2];rfl,f3⟩
theorem zs6{b s:List UInt8}{p q:Nat}{t:List UInt8}(hp:p≤b.length)(h:RdT b p q (s++t)):isAt b (p:Int) s=true:=by
 unfold isAt;rw [decide_eq_true (show 0≤(p:Int)∧(p:Int)≤b.length by omega),Bool.true_and,Int.toNat_natCast,h.2,List.append_assoc];exact List.isPrefixOf_iff_prefix.2 (List.prefix_append _ _)
theorem z7u{b:List UInt8}{ws:List (Int×List UInt8)}(hw:WOk ws):∀(f:Nat) (out:List (List (List UInt8))) (p:Nat),p≤b.length→out.length≤200→GoodP b p (z2y b ws f (p:Int) out) (fun l t=>∃h,l=out++h∧t=z2e out.length h++kEnd∧(∀x∈h,rowsB x ws=true)∧1≤l.length∧l.length≤200)
 | 0,out,p,hp,_=>⟨fun s e he=>(by cases he),fun a e he=>by
   rw [z2y]at he;simp only [Sum.inl.injEq,Prod.mk.injEq]at he;exact⟨by omega,by omega,.inl he.2.symm⟩⟩
 | f+1,out,p,hp,ho=>by
  rw [z2y];by_cases h1:isAt b (p:Int) kEnd=true∧out≠[]
  ·rw [if_pos h1];obtain⟨i1,i2,i3⟩:=zic h1.1;rw [i2];have hl:1≤out.length:=Nat.pos_of_ne_zero fun e=>h1.2 (List.length_eq_zero_iff.1 e)
   constructor
   ·intro l e he;simp only [Sum.inr.injEq,Prod.mk.injEq]at he;obtain⟨rfl,rfl⟩:=he;exact⟨_,kEnd,rfl,⟨i1,i3⟩,[],by simp,rfl,(fun x hx=>by cases hx),hl,ho⟩
   ·intro a e he;cases he
  rw [if_neg h1];by_cases h2:isAt b (p:Int) [64]=true∧out.length=200
  ·rw [if_pos h2];exact⟨fun s e he=>(by cases he),fun a e he=>by
    simp only [Sum.inl.injEq,Prod.mk.injEq]at he;exact⟨by omega,by omega,.inr he.2.symm⟩⟩
  rw [if_neg h2];refine z2n (zcm (k:=out.length) hw hp) fun l q t h3 ⟨e1,e2⟩=>?_;subst e1;have hat:isAt b (p:Int) [64]=true:=by
   refine zs6 (t:=tItoa (out.length:Int)++[10]++z1i 0 l) hp (q:=q) ?_;unfold z78 at h3;simpa [List.append_assoc]using h3
  have ho2:out.length+1≤200:=by
   rcases Nat.lt_or_ge out.length 200 with h|h
   ·omega
   ·exact absurd ⟨hat,by omega⟩ h2
  refine z8f (z7u hw f (out++[l]) q h3.1 (by rw [List.length_append,List.length_singleton];omega)) fun r t ⟨h,f1,f2,f3,f4,f5⟩=>?_;rw [List.length_append,List.length_singleton]at f2;refine⟨l::h,by rw [f1,List.append_assoc];rfl,by rw [z2e,f2,List.append_assoc],fun x hx=>?_,f4,f5⟩;rcases List.mem_cons.1 hx with rfl|hx
  ·exact e2
  ·exact f3 x hx
theorem zr1{h:Sh}(hs:WOk h.st)(hi:WOk h.inw)(b:List UInt8):(∀t e,wtP h b=.inr (t,e)→e=b.length∧b=wtT t∧z28 h t=true)∧(∀x e,wtP h b=.inl (x,e)→ErP b x e):=by
 unfold wtP;by_cases hb:100000<b.length
 ·rw [if_pos hb];refine⟨fun c e h=>(by cases h),fun x e h=>?_⟩;simp only [Sum.inl.injEq,Prod.mk.injEq]at h;exact⟨by omega,by omega,.inr h.2.symm⟩
 rw [if_neg hb];have hG:GoodP b 0 (bnd (wordP b kSat 0) fun _ p=>bnd (numP b (h.bads-1) p) fun bad q=>bnd (wordP b z58 q) fun _ r=>bnd (rowsP b 0 h.st r []) fun init s=>bnd (z2y b h.inw 201 s []) fun ins e=>if e<b.length then .inl (e,2)else .inr (⟨bad,init,ins⟩,e)) (fun t x=>x=wtT t∧z28 h t=true∧x.length=b.length):=by
  rw [show(0:Int)=((0:Nat):Int)from rfl];refine z2n (z4x (Nat.zero_le _)) fun _ q1 t1 h1 e1=>?_;have l1:=h1.len (Nat.zero_le _);refine z2n (zos h1.1) fun m q2 t2 h2 ⟨e2,m0,m1⟩=>?_;have l2:=h2.len h1.1;refine z2n (z4x h2.1) fun _ q3 t3 h3 e3=>?_;have l3:=h3.len h2.1;refine z2n (zah h.st 0 [] q3 hs h3.1) fun init q4 t4 h4 ⟨i4,e4,f4,g4,j4⟩=>?_;have l4:=h4.len h3.1;rw [List.nil_append]at e4;subst e4;refine z2n (z7u hi 201 [] q4 h4.1 (Nat.zero_le _)) fun ins q5 t5 h5 ⟨i5,e5,f5,g5,j5,k5⟩=>?_;have l5:=h5.len h4.1;rw [List.nil_append]at e5;subst e5;have h5b:=h5.1;by_cases hlt:(q5:Int)<b.length
  ·rw [if_pos hlt];exact⟨fun c e h=>(by cases h),fun x e h=>by
    simp only [Sum.inl.injEq,Prod.mk.injEq]at h;exact⟨by omega,by omega,.inl h.2.symm⟩⟩
  rw [if_neg hlt];refine z8e h5.1 ⟨?_,?_,?_⟩
  ·unfold wtT;simp only;rw [←e2,←f4,e1,e3,f5];simp [List.append_assoc]
  ·exact z39.2 ⟨⟨m0,by simp only;omega,j5,k5⟩,g4,j4,g5⟩
  ·simp only [List.length_append,List.length_nil];omega
 constructor
 ·intro t e ht;obtain⟨q,x,e1,e2,e3,e4,e5⟩:=hG.ok t e ht;have hlen:=e2.len (Nat.zero_le _);have hq:q=b.length:=by omega
  refine⟨by omega,?_,e4⟩;have:=e2.2;rw [List.drop_zero,hq,List.drop_length,List.append_nil]at this;rw [this,e3]
 ·intro x e hx;exact hG.er x e hx
def z1x(l:List Nd)(s:Int):List UInt8:=if(ofJ l kInit s).isSome=true then(ln l (ofV l kInit s)).t else []
def stL(l:List Nd)(s:Int):Int×List UInt8:=(wdN l (ln l s),z1x l s)
def inL(l:List Nd)(s:Int):Int×List UInt8:=(wdN l (ln l s),[])
def shL(l:List Nd):Sh:=⟨((allL l kBad l.length).length:Int),(allL l ze l.length).map (stL l),(allL l zy l.length).map (inL l)⟩
@[reducible] def nilD:D:=.v (.slice none 0 0)
@[reducible] def eSs(l:List (List UInt8)):D:=eL 1 dSL [] l
@[reducible] def eSss(l:List (List (List UInt8))):D:=eL 1 eSs [] l
@[reducible] def eWt(t:Wt):D:=.ag [eI t.bad,eSs t.init,eSss t.ins]
@[reducible] def bWt(t:Wt):AObj:=.cells 28 [.d (eI t.bad),.d (eSs t.init),.d (eSss t.ins)]
@[reducible] def gSs(l:List (List UInt8)):AObj:=gL 9 1 dSL [] l
@[reducible] def eSh(h:Sh):D:=.ag [eI h.bads,eIs (h.st.map (·.1)),eSs (h.st.map (·.2)),eIs (h.inw.map (·.1)),eI 200]
theorem z38{l:List Nd}(ty:Ty l){op:List UInt8}(ho:isVal op=true){s:Int}(hs:s∈allL l op l.length):1≤s∧s≤l.length∧(wL l l.length).getD (s-1).toNat 0=wdN l (ln l s)∧1≤wdN l (ln l s)∧wdN l (ln l s)≤128:=by
 obtain⟨h1,h2,h3⟩:=z88 hs;have hv:isVal (ln l s).op=true:=by rw [h3];exact ho
 have hw:=wL_at h1 h2 hv;exact⟨h1,h2,hw,(za3 ty (j:=(s-1).toNat) (by omega) hv).1,(za3 ty (j:=(s-1).toNat) (by omega) hv).2⟩
theorem ztc{c:UInt8}(h:is01 c=true):isB c=true:=by
 unfold is01 at h;unfold isB;rw [Bool.or_eq_true,beq_iff_eq,beq_iff_eq]at h;rcases h with h|h
 ·rw [show c=48 from UInt8.toNat_inj.1 h];rfl
 ·rw [show c=49 from UInt8.toNat_inj.1 h];rfl
theorem sh_st{l:List Nd}(ty:Ty l):WOk (shL l).st:=fun w hw=>by
 obtain⟨s,hs,rfl⟩:=List.mem_map.1 hw;obtain⟨h1,h2,h3,h4,h5⟩:=z38 ty rfl hs;refine⟨by show 0≤wdN l (ln l s);omega,?_⟩;show z1x l s=[]∨rowB (z1x l s) (wdN l (ln l s))=true;unfold z1x;cases hj:ofJ l kInit s with
 | none=>exact .inl rfl
 | some j=>
  refine .inr ?_;show rowB (ln l (ofV l kInit s)).t (wdN l (ln l s))=true;obtain⟨a1,a2,a3,a4,a5⟩:=zdm ty (.inl rfl) hj;obtain⟨b1,b2⟩:=zpw ty a1 a2 (a5 rfl);unfold rowB;rw [b2,a4,decide_eq_true rfl,Bool.true_and,List.all_eq_true];unfold mkok at b1;rw [Bool.and_eq_true,List.all_eq_true]at b1;exact fun c hc=>ztc (b1.2 c hc)
theorem sh_in{l:List Nd}(ty:Ty l):WOk (shL l).inw∧∀w∈(shL l).inw,w.2=[]:=by
 refine⟨fun w hw=>?_,fun w hw=>?_⟩
 ·obtain⟨s,hs,rfl⟩:=List.mem_map.1 hw;obtain⟨h1,h2,h3,h4,h5⟩:=z38 ty rfl hs;exact⟨by show 0≤wdN l (ln l s);omega,.inl rfl⟩
 ·obtain⟨s,hs,rfl⟩:=List.mem_map.1 hw;rfl
end Go.Proofs.YtbodbhpdelgpnaaGreatDoor
namespace Ab
open Go
variable [Draws]
section
variable {P:Program}[Globals P]{T:Tab}{f:FuncId}{fn:Func}{n m:Nat}{C:Cx}{R:AV→List (Option AObj)→Prop}{todo todo' k:List Item}{env env0 env' envF:Env}{objs objs' objs1 objs2:List (Option AObj)}{nd:Prop}{ops:Array Oper}{l:List Oper}{K:Env→Prop}{X:Nat→Prop}{O:List Nat→List (Option AObj)}
theorem zgx{e:Nat}{E:Env}(ι:List Nat){oe:Oper}{d:Tmp}{g:FuncId}{az bs:List AV}{objs0:List (Option AObj)}{R':AV→List (Option AObj)→Prop}{r0:AV}
  (hE:∀t∈oe.looksAt ops,∀b,look E t=some b→look envF t=some b) (hdr:z3p (memN ι) envF=envF)
  (hO0:∀L,e∉L→O L=objs') (hO1:∀L,e∉L→O (e::L)=objs1)
  (hdst:oe.dst=some d) (hdn:Nat.blt d n=true) (hlook:look envF d=some r0) (hw:wantE ops (restr E (oe.looksAt ops)) oe=.yes) (hco:z4p (restr E (oe.looksAt ops)) oe=some (g,az)) (hen:∀args w,(callFunc g args).run P w=.ok (.enter g args) w)
  (hc:ACall P g bs objs0 R') (hs:subR (rho ι objs'.length) objs' ι objs0) (hv:VLs az (AV.rens (rho ι objs'.length) bs)) (hnd:z3m ι=true) (hd:refsBs ι.length bs=true) (hro:refsO ι.length objs0=true)
  (hr:∀r o,R' r o→r.ren (rho ι objs'.length)=r0∧z35 ι o objs'=objs1):HeadX P n X O m ops envF e oe:=by
 intro L hLm heL hdeps hcl π w tmps hsz hm hgk hlk;have hOL:=hO0 L heL;have hOj:=hO1 L heL;rw [hOL]at hm hgk hlk;have he:z13 w (okOf X π objs') π (restr E (oe.looksAt ops)) tmps:=fun t b ht=>by
  obtain⟨h1,h2⟩:=z12 ht;exact hlk t h1 b (hE t h1 b h2)
 obtain⟨vs,c1,c2⟩:=z2t he hco;refine .inr ⟨(zm he).1 hw,.inr (.inr ⟨g,vs.toArray,by rw [c2,hen],?_⟩)⟩;have hargs:RelVs w (okOf (lendX X π objs' ι) (lendP π ι) objs0) (lendP π ι) bs vs:=by
  refine RelVs.unren (m:=ι.length) (z3z hm hs) ?_ bs hd (hv.rel c1);intro j' h' hj' hh';obtain⟨i',hi'⟩:∃i',nth ι j'=some i':=by
   rw [z1k];exact⟨ι[j'],List.getElem?_eq_getElem hj'⟩
  rw [z9a hi']at hh';rw [z2d hi' (z1r hh')];exact hh'
 rcases hc _ _ w vs (z8b hgk hm hs) (z8a hm hs hnd hro) hargs with⟨_,hcl2⟩|⟨v,w',hcl2,_⟩
 ·refine hcl2.mono ?_;rintro e2 w2 ⟨v,r,o,π',rfl,hR,hm',hrel,hhist⟩;have L2:=lended hm hs hnd hm' hhist;obtain⟨e3,e4⟩:=hr r o hR;have hmem:=L2.mem;have hhst:=L2.hist;have hkp:=L2.keep;have hbk:=L2.back _ _ hrel;rw [e4]at hmem hhst hkp hbk;rw [e3]at hbk;refine⟨v,z2c ι π' π,rfl,⟨by rw [hOj];exact hmem,by rw [hOL,hOj];exact hhst,fun t a u ht hlv hau=>?_⟩,fun d' hd'=>?_⟩
  ·rw [hOL]at hau;have:=hkp a u hau;rw [z5u hdr ht]at this;rw [hOj];exact this
  ·rw [hdst]at hd';cases hd';exact⟨by simpa [Nat.blt_eq]using hdn,r0,hlook,by rw [hOj];exact hbk⟩
 ·rw [hen]at hcl2;cases hcl2
def oneO(e:Nat)(o0 o1:List (Option AObj))(L:List Nat):List (Option AObj):=if e∈L then o1 else o0
theorem zqi{p:List (Option AObj)→Prop}{e:Nat}{o0 o1:List (Option AObj)}{L:List Nat}(h0:p o0)(h1:p o1):p (oneO e o0 o1 L):=by
 rw [oneO];split
 ·exact h1
 ·exact h0
theorem zlo{e j:Nat}{o0 o1:List (Option AObj)}{L:List Nat}(h:j≠e):oneO e o0 o1 (j::L)=oneO e o0 o1 L:=by
 simp only [oneO,List.mem_cons,Ne.symm h,false_or]
theorem zc3(m e:Nat)(A:Acts)(objs1:List (Option AObj))(E:Env){id:Nat}(hT:TabOk P T)(hf:P.funcs[f]?=some fn)(hmx:P.follows .mixedOrders=true)(h:srun T n fn.results.toList 2000 True todo env objs=.draw nd id ops k env' objs')(hn:nd)
  (hB:drawB ops m=true) (hsee:seeB ops m A=true) (hem:Nat.blt e m=true) (hae:actB A e=true)
  (hAm:(A.all fun x=>Nat.blt x.1 m)=true) (hD0:DSat P n C.X objs' ops (fun x=>x=E) (zx ops m A) env') (hD1:DSat P n C.X objs1 ops (fun x=>x=E) (zx ops m A) env')
  (hA:∀x∈A,∃oe,ops[x.1]?=some oe∧oe.dst=x.2.map (·.1)∧HeadX P n C.X (oneO e objs' objs1) m ops (actE A++E) x.1 oe)
  (hk:ASat P f n C (.inRegion ops (List.range' m (ops.size-m))::k) (actE A++E) objs1 R) (hGk:GOk P C.π C.objs C.w:=by with_reducible assumption):ASat P f n C todo env objs R:=by
 refine zae m A (oneO e objs' objs1) E hT hf hmx h hn hB hsee (by simp [oneO]) (fun L hL=>by rw [oneO,if_pos (hL e (by simpa [Nat.blt_eq]using hem))]) (fun j L hj=>?_) hAm (fun L=>?_) hA hk
 ·refine zlo ?_;rintro rfl;rw [hae]at hj;cases hj
 ·exact zqi (p:=fun o=>DSat P n C.X o ops (fun x=>x=E) (zx ops m A) env') hD0 hD1
theorem zch{j e:Nat}{o:Oper}{E:Env}{a:AV}{c:Option Prop}{d:Nat}{objs0:List (Option AObj)}(hT:TabOk P T)(hw:wantE ops (restr E (o.looksAt ops)) o=.yes)(hE:∀t∈o.looksAt ops,∀b,look E t=some b→look envF t=some b)
  (hs0:estep T o (restr E (o.looksAt ops)) objs0=some ⟨c,false,a,none,objs0⟩) (hs1:estep T o (restr E (o.looksAt ops)) objs1=some ⟨c,false,a,none,objs1⟩) (hj:j≠e) (hc:cond c) (hdst:o.dst=some d) (hdn:Nat.blt d n=true) (hlook:look envF d=some a):HeadX P n X (oneO e objs0 objs1) m ops envF j o:=
 zfi hT hw hE (fun L=>zqi (p:=fun ob=>estep T o (restr E (o.looksAt ops)) ob=some ⟨c,false,a,none,ob⟩) hs0 hs1) (fun L=>zlo hj) hc hdst hdn hlook
theorem zb6{e:Nat}{E:Env}(ι:List Nat){oe:Oper}{d:Tmp}{g:FuncId}{az bs:List AV}{objs0:List (Option AObj)}{R':AV→List (Option AObj)→Prop}{r0:AV}
  (hE:∀t∈oe.looksAt ops,∀b,look E t=some b→look envF t=some b) (hdr:z3p (memN ι) envF=envF)
  (hdst:oe.dst=some d) (hdn:Nat.blt d n=true) (hlook:look envF d=some r0) (hw:wantE ops (restr E (oe.looksAt ops)) oe=.yes) (hco:z4p (restr E (oe.looksAt ops)) oe=some (g,az)) (hen:∀args w,(callFunc g args).run P w=.ok (.enter g args) w)
  (hc:ACall P g bs objs0 R') (hs:subR (rho ι objs'.length) objs' ι objs0) (hv:VLs az (AV.rens (rho ι objs'.length) bs)) (hnd:z3m ι=true) (hd:refsBs ι.length bs=true) (hro:refsO ι.length objs0=true)
  (hr:∀r o,R' r o→r.ren (rho ι objs'.length)=r0∧z35 ι o objs'=objs1):HeadX P n X (oneO e objs' objs1) m ops envF e oe:=
 zgx ι hE hdr (fun L h=>by rw [oneO,if_neg h]) (fun L h=>by rw [oneO,if_pos (List.mem_cons_self ..)]) hdst hdn hlook hw hco hen hc hs hv hnd hd hro hr
end
end Ab
namespace Ab
open Go
variable [Draws]
section
variable {P:Program}[Globals P]{T:Tab}{f:FuncId}{fn:Func}{n m:Nat}{C:Cx}{R:AV→List (Option AObj)→Prop}{todo todo' k:List Item}{env env0 env' envF:Env}{objs objs' o00 o10 o01 o11:List (Option AObj)}{nd:Prop}{ops:Array Oper}{X:Nat→Prop}{O:List Nat→List (Option AObj)}
theorem zci{j i late tv:Nat}{o:Oper}{E':Env}{vh:Value}(hT:TabOk P T)(hw:wantE ops E' o=.yes)(hE:∀t b,look E' t=some b→t∈o.looksAt ops∧((t=tv∧b=.gs i)∨look envF t=some b))(htv:look envF tv=some (.d (.v vh)))
  (hlF:look envF late=some (.gs i)) (hdr:∀t a,t≠late→look envF t=some a→a.drop i=a) (hjm:j<m) (hoj:ops[j]?=some o) (honly:((List.range ops.size).all fun q=>q==j||!dstIs ops q late)=true)
  (hO:∀L,j∉L→∃p c,nth (O L) p=some (some (.hold (.gs i) vh))∧estep T o E' (O L)=some ⟨c,false,.gs i,some i,O (j::L)⟩∧cond c) (hdst:o.dst=some late) (hdn:Nat.blt late n=true):HeadX P n X O m ops envF j o:=by
 intro L _ hjL hdeps hcl π w tmps hsz hm hgk hlk;obtain⟨p,c,hh,hs,hc⟩:=hO L hjL;have hheld:=zgw hm hh;have he:z13 w (okOf X π (O L)) π E' tmps:=fun t b ht=>by
  obtain⟨h1,h2⟩:=hE t b ht;rcases h2 with⟨rfl,rfl⟩|h2
  ·have:=hlk t h1 _ htv;cases this with
   | d h=>cases h with|v _=>exact hheld
  ·exact hlk t h1 b h2
 have hst:=z3v (ds:=[]) hT hm he o;rw [hs]at hst;obtain⟨v,w',π',h1,h2,h3⟩:=hst hc;refine .inr ⟨(zm he).1 hw,.inl ⟨v,w',π',h1,⟨h2.mem,h2.hist,fun t a u ht hlv hu=>?_⟩,fun d' hd=>?_⟩⟩
 ·have htl:late≠t:=by
   rintro rfl;rcases hlv with⟨q,hqL,o',ho',hd'⟩|hfree
   ·have hqs:=(Array.getElem?_eq_some_iff.1 ho').1;have h4:=List.all_eq_true.1 honly q (List.mem_range.2 hqs);rw [zh.2 ⟨o',ho',hd'⟩]at h4;simp only [Bool.not_true,Bool.or_false,beq_iff_eq]at h4;exact hjL (h4▸hqL)
   ·have:=hfree j hjm;rw [zh.2 ⟨o,hoj,hdst⟩]at this;cases this
  have:=h2.keep _ _ hu;rw [keepQ,hdr t a htl.symm ht]at this;exact this
 ·rw [hdst]at hd;cases hd;exact⟨by simpa [Nat.blt_eq]using hdn,.gs i,hlF,h3 rfl⟩
theorem zpr{l1:Nat}{a1:AV}{r:Env}{i:Nat}(he:z4v i r=r):∀t a,t≠l1→look ((l1,a1)::r) t=some a→a.drop i=a:=fun t a ht h=>by
 rw [zu,if_neg (fun e=>ht e.symm)]at h;exact z6l he h
theorem zpq{l1 l2:Nat}{a1 a2:AV}{r:Env}{i:Nat}(he:z4v i ((l1,a1)::r)=(l1,a1)::r):∀t a,t≠l2→look ((l1,a1)::(l2,a2)::r) t=some a→a.drop i=a:=fun t a ht h=>by
 refine z6l he (t:=t) ?_;rw [zu]at h ⊢;split at h
 ·rename_i e;rw [if_pos e];exact h
 ·rename_i e;rw [if_neg e];rwa [zu,if_neg (fun e=>ht e.symm)]at h
theorem zia{k:Nat}{a:AV}{env:Env}(h:look env k=some a):∀t b,look [(k,a)] t=some b→look env t=some b:=fun t b ht=>by
 rw [zu]at ht;split at ht
 ·rename_i e;subst e;cases ht;exact h
 ·cases ht
theorem zi9{k i q:Nat}{a:AV}{env:Env}{l:List Nat}(h:look env q=some a)(hl:k∈l∧q∈l):∀t b,look [(k,.gs i),(q,a)] t=some b→t∈l∧((t=k∧b=.gs i)∨look env t=some b):=fun t b ht=>by
 rw [zu]at ht;split at ht
 ·rename_i e;subst e;cases ht;exact⟨hl.1,.inl ⟨rfl,rfl⟩⟩
 ·rw [zu]at ht;split at ht
  ·rename_i e;subst e;cases ht;exact⟨hl.2,.inr h⟩
  ·cases ht
def pairO(j1 j2:Nat)(o00 o10 o01 o11:List (Option AObj))(L:List Nat):List (Option AObj):=if j1∈L then(if j2∈L then o11 else o10)else(if j2∈L then o01 else o00)
theorem zrj{p:List (Option AObj)→Prop}{j1 j2:Nat}{L:List Nat}(h00:p o00)(h10:p o10)(h01:p o01)(h11:p o11):p (pairO j1 j2 o00 o10 o01 o11 L):=by
 rw [pairO];split<;>split<;>assumption
theorem zdh{j1 j2 j:Nat}{L:List Nat}(h1:j≠j1)(h2:j≠j2):pairO j1 j2 o00 o10 o01 o11 (j::L)=pairO j1 j2 o00 o10 o01 o11 L:=by
 simp only [pairO,List.mem_cons,Ne.symm h1,Ne.symm h2,false_or]
structure ApOk(P:Program)(T:Tab)(n m:Nat)(ops:Array Oper)(envF:Env)(j late i r t1:Nat)(vh:Value)(E':Env)(p:Nat)(b0 b1 c0 c1:List (Option AObj)):Prop where
 jm:Nat.blt j m=true
 rm:Nat.blt r m=true
 fl:flat vh=true
 app:∃o c d,ops[j]?=some o∧o.dst=some late∧Nat.blt late n=true∧wantE ops E' o=.yes∧(∀t b,look E' t=some b→t∈o.looksAt ops∧((t=t1∧b=.gs i)∨look envF t=some b))∧((List.range ops.size).all fun q=>q==j||!dstIs ops q late)=true∧estep T o E' b0=some ⟨c,false,.gs i,some i,b1⟩∧cond c∧estep T o E' c0=some ⟨d,false,.gs i,some i,c1⟩∧cond d
 ld:∃o E,ops[r]?=some o∧o.dst=some t1∧Nat.blt t1 n=true∧wantE ops (restr E (o.looksAt ops)) o=.yes∧(∀t∈o.looksAt ops,∀b,look E t=some b→look envF t=some b)∧zv ops j r=true∧pstep T o (restr E (o.looksAt ops)) b0=.ok (.gs i)∧pstep T o (restr E (o.looksAt ops)) c0=.ok (.gs i)
 h0:nth b0 p=some (some (.hold (.gs i) vh))
 h1:nth c0 p=some (some (.hold (.gs i) vh))
 e1:look envF t1=some (.d (.v vh))
 e2:look envF late=some (.gs i)
 dr:∀t a,t≠late→look envF t=some a→a.drop i=a
theorem zg9(m j1 j2 r1 r2:Nat){l1 l2 i1 i2 t1 t2 p1 p2:Nat}{v1 v2:Value}{E E1 E2:Env}{id:Nat}(hT:TabOk P T)(hf:P.funcs[f]?=some fn)(hmx:P.follows .mixedOrders=true)(h:srun T n fn.results.toList 2000 True todo env objs=.draw nd id ops k env' objs')(hn:nd)
  (hB:drawB ops m=true) (hsee:seeB ops m [(j1,some (l1,.gs i1)),(j2,some (l2,.gs i2)),(r1,some (t1,.d (.v v1))),(r2,some (t2,.d (.v v2)))]=true)
  (hj:j1≠j2) (hr:r1≠j1∧r1≠j2∧r2≠j1∧r2≠j2)
  (hD00:DSat P n C.X objs' ops (fun x=>x=E) (zx ops m [(j1,some (l1,.gs i1)),(j2,some (l2,.gs i2)),(r1,some (t1,.d (.v v1))),(r2,some (t2,.d (.v v2)))]) env')
  (hD10:DSat P n C.X o10 ops (fun x=>x=E) (zx ops m [(j1,some (l1,.gs i1)),(j2,some (l2,.gs i2)),(r1,some (t1,.d (.v v1))),(r2,some (t2,.d (.v v2)))]) env')
  (hD01:DSat P n C.X o01 ops (fun x=>x=E) (zx ops m [(j1,some (l1,.gs i1)),(j2,some (l2,.gs i2)),(r1,some (t1,.d (.v v1))),(r2,some (t2,.d (.v v2)))]) env')
  (hD11:DSat P n C.X o11 ops (fun x=>x=E) (zx ops m [(j1,some (l1,.gs i1)),(j2,some (l2,.gs i2)),(r1,some (t1,.d (.v v1))),(r2,some (t2,.d (.v v2)))]) env')
  (ha1:ApOk P T n m ops ((l1,.gs i1)::(l2,.gs i2)::(t1,.d (.v v1))::(t2,.d (.v v2))::E) j1 l1 i1 r1 t1 v1 E1 p1 objs' o10 o01 o11)
  (ha2:ApOk P T n m ops ((l1,.gs i1)::(l2,.gs i2)::(t1,.d (.v v1))::(t2,.d (.v v2))::E) j2 l2 i2 r2 t2 v2 E2 p2 objs' o01 o10 o11)
  (hk:ASat P f n C (.inRegion ops (List.range' m (ops.size-m))::k) ((l1,.gs i1)::(l2,.gs i2)::(t1,.d (.v v1))::(t2,.d (.v v2))::E) o11 R) (hGk:GOk P C.π C.objs C.w:=by with_reducible assumption):ASat P f n C todo env objs R:=by
 refine zae m [(j1,some (l1,.gs i1)),(j2,some (l2,.gs i2)),(r1,some (t1,.d (.v v1))),(r2,some (t2,.d (.v v2)))] (pairO j1 j2 objs' o10 o01 o11) E (objsF:=o11) hT hf hmx h hn hB hsee (by simp [pairO]) (fun L hL=>?_) (fun q L hq=>?_) ?_ (fun L=>zrj (p:=fun ob=>DSat P n C.X ob ops (fun x=>x=E) (zx ops m [(j1,some (l1,.gs i1)),(j2,some (l2,.gs i2)),(r1,some (t1,.d (.v v1))),(r2,some (t2,.d (.v v2)))]) env') hD00 hD10 hD01 hD11) ?_ hk
 ·rw [pairO,if_pos (hL j1 (by simpa [Nat.blt_eq]using ha1.jm)),if_pos (hL j2 (by simpa [Nat.blt_eq]using ha2.jm))]
 ·refine zdh ?_ ?_
  ·rintro rfl;simp [actB]at hq
  ·rintro rfl;simp [actB]at hq
 ·simp [ha1.jm,ha1.rm,ha2.jm,ha2.rm]
 ·refine List.forall_mem_cons.2 ⟨?_,List.forall_mem_cons.2 ⟨?_,List.forall_mem_cons.2 ⟨?_,List.forall_mem_cons.2 ⟨?_,fun x h=>by cases h⟩⟩⟩⟩
  ·obtain⟨o,c,d,a1,a2,a3,a4,a5,a6,a7,a8,a9,a10⟩:=ha1.app;refine⟨o,a1,by simpa using a2,zci hT a4 a5 ha1.e1 ha1.e2 ha1.dr (by simpa [Nat.blt_eq]using ha1.jm) a1 a6 (fun L hL=>?_) a2 a3⟩;by_cases h2:j2∈L
   ·refine⟨p1,d,?_,?_,a10⟩
    ·rw [pairO,if_neg hL,if_pos h2];exact ha1.h1
    ·rw [pairO,if_neg hL,if_pos h2,pairO,if_pos (List.mem_cons_self ..),if_pos (List.mem_cons_of_mem _ h2)];exact a9
   ·refine⟨p1,c,?_,?_,a8⟩
    ·rw [pairO,if_neg hL,if_neg h2];exact ha1.h0
    ·rw [pairO,if_neg hL,if_neg h2,pairO,if_pos (List.mem_cons_self ..),if_neg (by rw [List.mem_cons];exact fun hh=>hh.elim (fun e=>hj e.symm) h2)];exact a7
  ·obtain⟨o,c,d,a1,a2,a3,a4,a5,a6,a7,a8,a9,a10⟩:=ha2.app;refine⟨o,a1,by simpa using a2,zci hT a4 a5 ha2.e1 ha2.e2 ha2.dr (by simpa [Nat.blt_eq]using ha2.jm) a1 a6 (fun L hL=>?_) a2 a3⟩;by_cases h1:j1∈L
   ·refine⟨p2,d,?_,?_,a10⟩
    ·rw [pairO,if_pos h1,if_neg hL];exact ha2.h1
    ·rw [pairO,if_pos h1,if_neg hL,pairO,if_pos (List.mem_cons_of_mem _ h1),if_pos (List.mem_cons_self ..)];exact a9
   ·refine⟨p2,c,?_,?_,a8⟩
    ·rw [pairO,if_neg h1,if_neg hL];exact ha2.h0
    ·rw [pairO,if_neg h1,if_neg hL,pairO,if_neg (by rw [List.mem_cons];exact fun hh=>hh.elim hj h1),if_pos (List.mem_cons_self ..)];exact a7
  ·obtain⟨o,E0,a1,a2,a3,a4,a5,a6,a7,a8⟩:=ha1.ld;refine⟨o,a1,by simpa using a2,zdx (p:=p1) (i:=i1) hT a4 a5 a6 (fun L hL=>?_) (fun L hL=>?_) ha1.fl (fun L=>zdh hr.1 hr.2.1) a2 a3 ha1.e1⟩
   ·rw [pairO,if_neg hL];split
    ·exact a8
    ·exact a7
   ·rw [pairO,if_neg hL];split
    ·exact ha1.h1
    ·exact ha1.h0
  ·obtain⟨o,E0,a1,a2,a3,a4,a5,a6,a7,a8⟩:=ha2.ld;refine⟨o,a1,by simpa using a2,zdx (p:=p2) (i:=i2) hT a4 a5 a6 (fun L hL=>?_) (fun L hL=>?_) ha2.fl (fun L=>zdh hr.2.2.1 hr.2.2.2) a2 a3 ha2.e1⟩
   ·rw [pairO];split
    ·exact a8
    ·exact a7
   ·rw [pairO];split
    ·exact ha2.h1
    ·exact ha2.h0
end
end Ab
namespace Ab
open Go
variable [Draws]
theorem zpi{P:Program}{T:Tab}(hT:TabOk P T){X:Nat→Prop}{π:List Value}{objs:List (Option AObj)}{w:World}(m:Mem X π objs w){t:TypeId}{len:Nat}{ps:List (Nat×AV)}{vs:List (Nat×Value)}
  (hp:RelPs w (okOf X π objs) π ps vs) {c:Option Prop} {a:AV} (h:eLit T t len ps objs=some ⟨c,false,a,none,objs⟩):∃v w2,(Instr.buildSlice t len vs.toArray).run P w=.ok v w2∧Later w w2∧RelV w2 (okOf X π objs) π a v:=by
 unfold eLit at h;revert h;split
 ·(intro h;cases h)
 ·rename_i r hr;split
  ·rename_i e hk;have ht:=z1c hT hr hk;split
   ·(intro h;cases h)
   ·rename_i re hre;obtain⟨z,hzr,hzc,hzf,_,_⟩:=(zn hT hre).zero;have hzl:z.cells.size=re.size:=by
     have:=(zn hT hre).zl;rw [←hzc]at this;simpa using this
    split
    ·split
     ·intro h;cases h;cases hp;have hsz:=(zn hT hre).sizeOf w;have hrun:(Instr.buildSlice t 0 #[]).run P w=.ok (.slice (some ⟨w.heap.size,0,none⟩) 0 0) (w.alloc (.cells #[] e)):=by
       simp [Instr.buildSlice,run_underlying ht,hsz,z1u,Instr.fill];have e0:Array.range 0 = #[]:=Array.ext' (by simp);rw [e0,Array.map_empty]
      exact⟨_,_,hrun,⟨rfl,rfl,⟨rfl,z17 (Nat.le_refl _)⟩,by rw [z1d];simp,fun b hb=>z1h _ hb⟩,.e0⟩
     ·(intro h;cases h)
    ·rename_i p ps';split
     ·(intro h;cases h)
     ·rename_i xs hxs;split
      ·(intro h;cases h)
      ·rename_i hlen;have hlen:=z5p hlen;split
       ·rename_i hble;have hble':len*re.size≤16777216:=by simpa using hble
        split
        ·(intro h;cases h)
        ·rename_i hz0;intro h;cases h;obtain⟨us,h1,h2⟩:=zds hxs hp [] ((List.range (len*re.size)).map fun i=>z.cells[i%z.cells.size]!) (by simp) (by simp [hlen]);have hul:=h1.length;simp only [List.nil_append]at h2;have hrun:(Instr.buildSlice t len vs.toArray).run P w=.ok (.slice (some ⟨w.heap.size,0,none⟩) len len) (w.alloc (.cells us.toArray e)):=by
          have hz0':re.size≠0:=by
           intro e;rw [e]at hz0;cases hz0
          have hsz:=(zn hT hre).sizeOf w;have h2':Instr.fill (fun i=>some (i*re.size,re.size)) (Array.map (fun i=>z.cells[i%z.cells.size]!) (Array.range (len*re.size))) vs=some us.toArray:=by
           rw [←h2];congr 1;apply Array.ext';simp
          by_cases hl0:len*re.size=0
          ·have hl00:len=0:=by
            rcases Nat.mul_eq_zero.1 hl0 with h|h
            ·exact h
            ·exact absurd h hz0'
           subst hl00;have hx0:xs=[]:=List.eq_nil_of_length_eq_zero hlen;subst hx0;exfalso;revert hxs;simp only [z3d];repeat' split
           all_goals simp
          ·simp [Instr.buildSlice,run_underlying ht,hsz,hl0,show ¬16777216<len*re.size by omega,hzr,h2',z1u]
         have hext:∀b,b<w.heap.size→(w.alloc (.cells us.toArray e)).heap[b]?=w.heap[b]?:=fun b hb=>z1h _ hb
         have hlt:Later w (w.alloc (.cells us.toArray e)):=⟨rfl,rfl,⟨rfl,z17 (Nat.le_refl _)⟩,by rw [z1d];simp,hext⟩
         refine⟨_,_,hrun,hlt,?_⟩;have hk:Keeps w (okOf X π objs) (w.alloc (.cells us.toArray e)) (okOf X π objs):=fun b o u a1 a2=>⟨a1,zbh _ a2⟩
         subst hlen;refine .d (.sl (us:=us) (h1.mono hk) (fun i hi=>⟨zgm m,?_⟩) (Nat.le_refl _) ?_ (zdt xs))
         ·rw [Nat.zero_add];exact cell_of_heap (fz:=(0,0)) (z23 _)
         ·have hml:maxLen=9223372036854775807:=rfl;have:xs.length*1≤xs.length*re.size:=Nat.mul_le_mul_left _ (by
           have:re.size≠0:=by intro e;rw [e]at hz0;cases hz0
           omega)
          omega
       ·(intro h;cases h)
  ·(intro h;cases h)
section
variable {P:Program}[Globals P]{T:Tab}{n:Nat}{env:Env}{objs:List (Option AObj)}{ops:Array Oper}{K:Env→Prop}{X:Nat→Prop}
theorem z79{o:Oper}{r:List Oper}{e:Env}{t:TypeId}{len:Nat}{ps:List (Nat×Operand)}{az:List (Nat×AV)}{c:Option Prop}{a:AV}(hT:TabOk P T)(hfree:z4a o r (o.looksAt ops)=true)(halone:z2i o r=true)(hw:wantE ops (restr env (o.looksAt ops)) o=.yes)
  (hop:o.op=.buildSlice t len ⟨ps⟩) (hp:parts (restr env (o.looksAt ops)) ps=some az) (hs:eLit T t len az objs=some ⟨c,false,a,none,objs⟩) (hput:putE n o.dst a env=some e) (h:DSat P n X objs ops K r e):DSat P n X objs ops K (o::r) env:=by
 refine ds_op hfree halone hput hw (fun π w tmps m he=>?_) h;obtain⟨v,w2,h1,h2,h3⟩:=zpi hT m (t:=t) (len:=len) (z6c (ds:=[]) he hp) hs;refine⟨v,w2,?_,h2,h3⟩;unfold execOp;rw [hop];simp only [Sem.run_bind,List.map_toArray,h1,Result.andThen_ok,Sem.run_pure]
end
end Ab
namespace Go.Proofs.YtbodbhpdelgpnaaGreatDoor
open Go Ab Go.RowKit
@[reducible] def zShO:AObj:=.cells 63 [.d (eI 0),.d nilD,.d nilD,.d nilD,.d (eI 0)]
@[reducible] def shO(n:Int):AObj:=.cells 63 [vI .i64 n,.gs 3,.gs 4,.gs 5,vI .i64 200]
@[reducible] def ofO(l:List Nd)(n:Int)(j k:Nat):List (Option AObj):=[some (bBt l),some zShO,some (shO n),some (gIs (((allL l ze l.length).take j).map fun s=>wdN l (ln l s))),some (gSs (((allL l ze l.length).take j).map (z1x l))),some (gIs (((allL l zy l.length).take k).map fun s=>wdN l (ln l s)))]
theorem zc1(l:List Nd)(hm:MdB l)(ty:Ty l):ACall Tryz.prog 30 [.d (eBt l)] [] (fun r o=>r=.d (eSh (shL l))):=by
 refine yN Tryz.func30 fun C hC hCl hDs hGk=>?_;have hl:=ty.small;refine yV Tryz.func30 rfl trivial (z96 l hm ty) (.refl _) ?_;refine yV Tryz.func30 rfl trivial (z44 l kBad hl) (.refl _) ?_;refine yV Tryz.func30 rfl trivial (z44 l ze hl) (.refl _) ?_;refine yS Tryz.func30 rfl trivial ?_;refine z2q 2 1 (e':=3) (s:=1) (fun i=>eI (([]:List Int).getD i 0)) rfl rfl ?_;refine z2q 2 2 (e':=9) (s:=1) (fun i=>dSL (([]:List (List UInt8)).getD i [])) rfl rfl ?_;refine z2q 2 3 (e':=3) (s:=1) (fun i=>eI (([]:List Int).getD i 0)) rfl rfl ?_;have hn:(((allL l kBad l.length).map eI).length:Int)=((allL l kBad l.length).length:Int):=by rw [List.length_map]
 have hsl:=z1s l ze l.length;have hsm:=fun s (h:s∈allL l ze l.length)=>z38 ty rfl h
 obtain⟨sts,hsts⟩:∃sts,allL l ze l.length=sts:=⟨_,rfl⟩
 rw [hsts]at hsl hsm ⊢;refine z8 (α:=Nat) (fun j=>[(1,.ptr 0 0),(2,.ptr 1 0),(3,.d (eIs (wL l l.length))),(6,.ptr 2 0),(25,.d (eIs sts)),(26,vI .i64 (sts.length:Int)),(27,vI .i64 (j:Int))]) (fun j=>ofO l ((allL l kBad l.length).length:Int) j 0) (fun j=>j≤sts.length) (fun j=>sts.length-j) 0 (Nat.zero_le _) ?_ ?_
 ·refine fun h=>yE h ⟨erl rfl,erl rfl,erl rfl,erl rfl,erl rfl,⟨_,rfl,.of (by rw [List.length_map])⟩,erl rfl,trivial⟩ ⟨.refl _,.refl _,.of ?_,.gL rfl,.gL rfl,.gL rfl,trivial⟩;rw [←hn];rfl
 rintro j hj ih;refine yB Tryz.func30 rfl trivial (fun hb=>?_) (fun hb=>?_)<;>simp only [decide_eq_true_eq,decide_eq_false_iff_not]at hb
 ·have hlt:j<sts.length:=by omega
  have eg:sts.getD j 0=sts[j]:=by simp [hlt]
  have ih:=ih (j+1) (by omega) (by omega);obtain⟨s1,s2,s3,s4,s5⟩:=hsm _ (List.getElem_mem hlt);have hin:(0≤(j:Int)∧(j:Int)<(((sts.map eI).length:Nat):Int)):=by rw [List.length_map];omega
  unfold ofO at ih;rw [hsts,List.take_succ_eq_append_getElem hlt,List.map_append,List.map_append]at ih;rw [←eg]at ih s1 s2 s3 s4 s5;have htl:(sts.take j).length=j:=by rw [List.length_take];omega
  refine yV Tryz.func30 rfl ⟨hin,trivial⟩ (zhk l kInit (sts.getD j 0) hl (zlp ty (.inl rfl))) (.refl _) ?_;have hli:=fun q=>@zdm l ty kInit (.inl rfl) (sts.getD j 0) q
  generalize hsg:sts.getD j 0=s at *;apply letK (p:=ASat Tryz.prog 30 Tryz.f30.ntmps C _ [(1,.ptr 0 0),(2,.ptr 1 0),(3,.d (eIs (wL l l.length))),(6,.ptr 2 0),(8,vI .i64 s),(9,vSL (z1x l s)),(25,.d (eIs sts)),(26,vI .i64 (sts.length:Int)),(27,vI .i64 (j:Int))] (ofO l ((allL l kBad l.length).length:Int) j 0) (fun r o=>r=.d (eSh (shL l))))
  ·intro key;cases hj2:ofJ l kInit s with
   | none=>
    refine yF Tryz.func30 rfl trivial ?_;refine yX 2 Tryz.func30 rfl trivial ?_;refine yE key ⟨erl rfl,erl rfl,erl rfl,erl rfl,⟨_,rfl,.of (congrArg (vI .i64) hsg)⟩,⟨_,rfl,.of ?_⟩,erl rfl,erl rfl,erl rfl,trivial⟩ (oAl rfl);unfold z1x;rw [hj2];rfl
   | some j2=>
    obtain⟨o1,o2,o3,o4,o5⟩:=hli j2 hj2;have ew:IntKind.i64.wrap (ofV l kInit s-1)=ofV l kInit s-1:=z7 (by omega) (by omega);refine yT Tryz.func30 rfl trivial ?_;refine yX 11 Tryz.func30 rfl ?nd ?_;case nd=>
     rw [ew,List.length_map];exact⟨⟨by omega,by omega⟩,trivial⟩
    refine yE key ⟨erl rfl,erl rfl,erl rfl,erl rfl,⟨_,rfl,.of (congrArg (vI .i64) hsg)⟩,⟨_,rfl,.of ?_⟩,erl rfl,erl rfl,erl rfl,trivial⟩ (oAl rfl);unfold z1x;rw [hj2];exact congrArg (fun x:Int=>vSL (l.getD x.toNat default).t) ew
  unfold ofO;rw [hsts];generalize hfs:z1x l s=fs at *;generalize hwd:wdN l (ln l s)=wd at *;generalize hA:((sts.take j).map fun s=>wdN l (ln l s))=A at *;generalize hF:(sts.take j).map (z1x l)=F at *;have hAl:A.length=j:=by rw [←hA,List.length_map,htl]
  have hFl:F.length=j:=by rw [←hF,List.length_map,htl]
  refine zad 3 rfl (fun v1 hf1=>?_);refine zad 4 rfl (fun v2 hf2=>?_);have hw1:IntKind.i64.wrap (s-1)=s-1:=z7 (by omega) (by omega);have hwl:=z95 l l.length;have hnd:(0≤IntKind.i64.wrap (s-1)∧IntKind.i64.wrap (s-1)<((((wL l l.length).map eI).length:Nat):Int))∧True:=by
   rw [hw1,List.length_map,hwl];exact⟨⟨by omega,by omega⟩,trivial⟩
  refine zg9 15 8 13 1 10 (l1:=53) (l2:=58) (i1:=3) (i2:=4) (t1:=46) (t2:=55) (p1:=6) (p2:=7) (v1:=v1) (v2:=v2) (E1:=[(46,.gs 3),(52,.d (.sl 1 [eI ((wL l l.length).getD (IntKind.i64.wrap (s-1)).toNat 0)] (litRd [eI ((wL l l.length).getD (IntKind.i64.wrap (s-1)).toNat 0)])))]) (E2:=[(55,.gs 4),(57,.d (.sl 1 [dSL fs] (litRd [dSL fs])))]) tabOk Tryz.func30 rfl rfl trivial (by kernel_rfl) (by kernel_rfl) (by decide) ⟨by decide,by decide,by decide,by decide⟩
   (z2z 6 tabOk rfl hnd (z79 tabOk rfl rfl rfl rfl rfl rfl rfl (z2z 2 tabOk rfl trivial (z79 tabOk rfl rfl rfl rfl rfl rfl rfl (yq rfl trivial rfl))))) ?D10 ?D01 ?D11
   ⟨rfl,rfl,hf1,⟨_,_,_,rfl,rfl,rfl,rfl,zi9 rfl (by decide),(by kernel_rfl),rfl,?hc1,rfl,?hd1⟩,⟨_,[(45,.ptr 2 1)],rfl,rfl,rfl,rfl,(fun t _ b h=>zia rfl t b h),(by kernel_rfl),rfl,rfl⟩,rfl,rfl,rfl,rfl,zpr rfl⟩
   ⟨rfl,rfl,hf2,⟨_,_,_,rfl,rfl,rfl,rfl,zi9 rfl (by decide),(by kernel_rfl),rfl,?hc2,rfl,?hd2⟩,⟨_,[(54,.ptr 2 2)],rfl,rfl,rfl,rfl,(fun t _ b h=>zia rfl t b h),(by kernel_rfl),rfl,rfl⟩,rfl,rfl,rfl,rfl,zpq rfl⟩ ?hk
  case D10=>exact z2z 6 tabOk rfl hnd (z79 tabOk rfl rfl rfl rfl rfl rfl rfl (z2z 2 tabOk rfl trivial (z79 tabOk rfl rfl rfl rfl rfl rfl rfl (yq rfl trivial rfl))))
  case D01=>exact z2z 6 tabOk rfl hnd (z79 tabOk rfl rfl rfl rfl rfl rfl rfl (z2z 2 tabOk rfl trivial (z79 tabOk rfl rfl rfl rfl rfl rfl rfl (yq rfl trivial rfl))))
  case D11=>exact z2z 6 tabOk rfl hnd (z79 tabOk rfl rfl rfl rfl rfl rfl rfl (z2z 2 tabOk rfl trivial (z79 tabOk rfl rfl rfl rfl rfl rfl rfl (yq rfl trivial rfl))))
  case hc1|hd1=>
   show((A.map eI).length+1)*8≤140737488355328;rw [List.length_map];omega
  case hc2|hd2=>
   show((F.map dSL).length+1)*16≤140737488355328;rw [List.length_map];omega
  case hk=>
   refine yS Tryz.func30 rfl trivial ?_;refine yE ih ⟨erl rfl,erl rfl,erl rfl,erl rfl,erl rfl,erl rfl,erw rfl,trivial⟩ ⟨.refl _,.refl _,.refl _,.gL ?_,.gL ?_,.refl _,trivial⟩
   ·rw [hw1,s3,List.map_append,List.map_singleton,List.map_singleton,hwd]
   ·rw [List.map_append,List.map_singleton,List.map_singleton,hfs]
 have hjn:j=sts.length:=by omega
 subst hjn;refine yV Tryz.func30 rfl trivial (z44 l zy hl) (.refl _) ?_;refine yS Tryz.func30 rfl trivial ?_;have hil:=z1s l zy l.length;have him:=fun s (h:s∈allL l zy l.length)=>z38 ty rfl h
 obtain⟨ins,hins⟩:∃ins,allL l zy l.length=ins:=⟨_,rfl⟩
 rw [hins]at hil him ⊢;refine z8 (α:=Nat) (fun k=>[(1,.ptr 0 0),(2,.ptr 1 0),(3,.d (eIs (wL l l.length))),(6,.ptr 2 0),(63,.d (eIs ins)),(64,vI .i64 (ins.length:Int)),(65,vI .i64 (k:Int))]) (fun k=>ofO l ((allL l kBad l.length).length:Int) sts.length k) (fun k=>k≤ins.length) (fun k=>ins.length-k) 0 (Nat.zero_le _) ?_ ?_
 ·exact fun h=>yE h ⟨erl rfl,erl rfl,erl rfl,erl rfl,erl rfl,⟨_,rfl,.of (by rw [List.length_map])⟩,erl rfl,trivial⟩ (oAl rfl)
 rintro k hk ih;refine yB Tryz.func30 rfl trivial (fun hb=>?_) (fun hb=>?_)<;>simp only [decide_eq_true_eq,decide_eq_false_iff_not]at hb
 ·have hlt:k<ins.length:=by omega
  have eg:ins.getD k 0=ins[k]:=by simp [hlt]
  have ih:=ih (k+1) (by omega) (by omega);obtain⟨s1,s2,s3,s4,s5⟩:=him _ (List.getElem_mem hlt);have hin:(0≤(k:Int)∧(k:Int)<(((ins.map eI).length:Nat):Int)):=by rw [List.length_map];omega
  unfold ofO at ih ⊢;rw [hins,List.take_succ_eq_append_getElem hlt,List.map_append]at ih;rw [←eg]at ih s1 s2 s3 s4 s5;have htl:(ins.take k).length=k:=by rw [List.length_take];omega
  rw [hins];generalize hA:(ins.take k).map (fun s=>wdN l (ln l s))=A at *;have hAl:A.length=k:=by rw [←hA,List.length_map,htl]
  have hw1:IntKind.i64.wrap (ins.getD (k:Int).toNat 0-1)=ins.getD k 0-1:=by rw [Int.toNat_natCast];exact z7 (by omega) (by omega)
  have hwl:=z95 l l.length;refine yO 8 Tryz.func30 rfl ⟨hin,trivial⟩ ?_;refine z2z 7 tabOk rfl ?_ ?_
  ·rw [hw1,List.length_map,hwl];exact⟨⟨by omega,by omega⟩,trivial⟩
  refine z79 tabOk rfl rfl rfl rfl rfl rfl rfl ?_;refine yq rfl trivial ?_;refine yS Tryz.func30 rfl ?_ ?_
  ·show((A.map eI).length+1)*8≤140737488355328∧True;rw [List.length_map];exact⟨by omega,trivial⟩
  refine yE ih ⟨erl rfl,erl rfl,erl rfl,erl rfl,erl rfl,erl rfl,erw rfl,trivial⟩ ⟨.refl _,.refl _,.refl _,.refl _,.refl _,.gL ?_,trivial⟩;show _++[eI ((wL l l.length).getD _ 0)]=_;rw [hw1,s3,List.map_append];rfl
 have hkn:k=ins.length:=by omega
 subst hkn;refine zj 3 rfl ?_;refine zj 4 rfl ?_;refine zj 5 rfl ?_;refine yR Tryz.func30 rfl trivial ?_;have e1:(shL l).st.map (·.1)=sts.map fun s=>wdN l (ln l s):=by
  unfold shL;rw [List.map_map,hsts];rfl
 have e2:(shL l).st.map (·.2)=sts.map (z1x l):=by
  unfold shL;rw [List.map_map,hsts];rfl
 have e3:(shL l).inw.map (·.1)=ins.map fun s=>wdN l (ln l s):=by
  unfold shL;rw [List.map_map,hins];rfl
 show _=AV.d (D.ag [eI (shL l).bads,eIs ((shL l).st.map (·.1)),eSs ((shL l).st.map (·.2)),eIs ((shL l).inw.map (·.1)),eI 200]);rw [e1,e2,e3,hsts,hins,List.take_length,List.take_length];rfl
end Go.Proofs.YtbodbhpdelgpnaaGreatDoor
