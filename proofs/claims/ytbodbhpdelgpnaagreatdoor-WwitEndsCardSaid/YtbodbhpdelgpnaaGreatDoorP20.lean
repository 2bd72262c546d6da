/- A part of the proof. -/
import Derived.Test.YtbodbhpdelgpnaaGreatDoorP19
import Derived.Lib.ItoaLen
import Derived.Shelf.Strings.Search2
import Derived.Recover
import Derived.Shelf.Strings.OnBuilder
import Derived.Shelf.Small.Strs
set_option linter.unusedVariables false
set_option linter.unusedSimpArgs false
set_option linter.unusedSectionVars false
set_option maxRecDepth 100000
set_option maxHeartbeats 8000000
namespace Go.Proofs.YtbodbhpdelgpnaaGreatDoor
open Go Ab Go.RowKit Go.Lib
theorem z7s{l:Int}(h0:-9223372036854775808≤l)(h1:l≤9223372036854775807):(tItoa l).length≤21:=by
 have:=Go.Lib.itoa_length_le l h0 h1;simp only [tItoa];omega
structure SmW(t:Wt)(most:Nat):Prop where
 n:t.ins.length≤most
 i:t.init.length≤40
 r:∀s∈t.init,s.length≤200
 l:∀l∈t.ins,l.length≤40∧∀s∈l,s.length≤200
theorem z6x:∀(l:List (List UInt8)) (i:Nat),(∀s∈l,s.length≤200)→i+l.length≤1000000→(z1i i l).length≤l.length*223
 | [],i,_,_=>Nat.zero_le _
 | s::l,i,h,hi=>by
  rw [List.length_cons]at hi ⊢;have h1:=z6x l (i+1) (fun x hx=>h x (List.mem_cons_of_mem _ hx)) (by omega);have h2:=h s List.mem_cons_self;have h3:=z7s (l:=(i:Int)) (by omega) (by omega);rw [z1i];simp only [rowT,List.length_append,List.length_cons,List.length_nil];omega
theorem zb9:∀(l:List (List (List UInt8))) (k:Nat),(∀x∈l,x.length≤40∧∀s∈x,s.length≤200)→k+l.length≤1000000→(z2e k l).length≤l.length*8943
 | [],k,_,_=>Nat.zero_le _
 | x::l,k,h,hi=>by
  rw [List.length_cons]at hi ⊢;have h1:=zb9 l (k+1) (fun x hx=>h x (List.mem_cons_of_mem _ hx)) (by omega);obtain⟨h2,h3⟩:=h x List.mem_cons_self;have h4:=z6x x 0 h3 (by omega);have h5:=z7s (l:=(k:Int)) (by omega) (by omega);rw [z2e];simp only [z78,List.length_append,List.length_cons,List.length_nil];omega
theorem zke{t:Wt}{n:Nat}(h:SmW t n)(hn:n≤1000)(hb:0≤t.bad∧t.bad≤1000000):(wtT t).length≤9000+n*8943:=by
 have h1:=z6x t.init 0 h.r (by have:=h.i;omega);have h2:=zb9 t.ins 0 h.l (by have:=h.n;omega);have h3:=z7s (l:=t.bad) (by omega) (by omega);have h4:=h.n;have h5:=h.i;have h6:t.ins.length*8943≤n*8943:=Nat.mul_le_mul_right _ h4;simp only [wtT,kSat,z58,kEnd,List.length_append,List.length_cons,List.length_nil];omega
def sameW(t u:Wt):Bool:=t.bad==u.bad&&decide (t.init=u.init)&&decide (t.ins=u.ins)
theorem z81{t u:Wt}:sameW t u=true↔t=u:=by
 unfold sameW;rw [Bool.and_eq_true,Bool.and_eq_true,beq_iff_eq,decide_eq_true_eq,decide_eq_true_eq];constructor
 ·rintro⟨⟨h1,h2⟩,h3⟩;cases t;cases u;simp only at h1 h2 h3;rw [h1,h2,h3]
 ·rintro rfl;exact⟨⟨rfl,rfl⟩,rfl⟩
section
variable {h:Sh}(hi:∀w∈h.inw,w.2=[])(hb:h.bads≤1000000)
include hi hb
theorem z9l{t:Wt}(hr:z28 h t=true)(hl:(wtT t).length≤100000):wtP h (wtT t)=.inr (t,((wtT t).length:Int)):=by
 have:=zg0 hi hr [] (by simpa using hl) hb;rwa [List.append_nil,if_pos rfl]at this
theorem zr3{t u:Wt}(ht:z28 h t=true)(hu:z28 h u=true)(lt:(wtT t).length≤100000)(e:wtT t=wtT u):t=u:=by
 have h1:=z9l hi hb ht lt;have h2:=z9l hi hb hu (by rw [←e];exact lt);rw [e,h2]at h1;cases h1;rfl
theorem zsy{t:Wt}(hs:WOk h.st)(hw:WOk h.inw)(ht:z28 h t=true)(lt:(wtT t).length≤100000){k:Nat}(hk:k<(wtT t).length):∃x e,wtP h ((wtT t).take k)=.inl (x,e)∧0≤x∧x≤k∧(e=2∨e=3):=by
 obtain⟨g1,g2⟩:=zr1 hs hw ((wtT t).take k);cases hp:wtP h ((wtT t).take k)with
 | inl y=>
  obtain⟨x,e⟩:=y;obtain⟨x0,x1,x2⟩:=g2 x e hp;rw [List.length_take]at x1;exact⟨x,e,rfl,x0,by omega,x2⟩
 | inr y=>
  exfalso;obtain⟨u,e⟩:=y;obtain⟨-,e2,e3⟩:=g1 u e hp;have hd:(wtT t).drop k≠[]:=fun hh=>by
   have:=congrArg List.length hh;rw [List.length_drop,List.length_nil]at this;omega
  have e4:wtT t=wtT u++(wtT t).drop k:=by rw [←e2,List.take_append_drop]
  have h1:=zg0 hi e3 ((wtT t).drop k) (by rw [←e4];exact lt) hb;rw [←e4,z9l hi hb ht lt,if_neg hd]at h1;cases h1
end
end Go.Proofs.YtbodbhpdelgpnaaGreatDoor
namespace Go.Proofs.YtbodbhpdelgpnaaGreatDoor
open Go Ab Go.RowKit
theorem z55:∀{l:List (List UInt8)} {ws:List (Int×List UInt8)},rowsB l ws=true↔l.length=ws.length∧∀j,j<l.length→rowB (l.getD j []) ((ws.map (·.1)).getD j 0)=true
 | [],[]=>by simp [rowsB]
 | [],w::ws=>by simp [rowsB]
 | s::l,[]=>by simp [rowsB]
 | s::l,w::ws=>by
  rw [rowsB,Bool.and_eq_true,z55];constructor
  ·rintro⟨h1,h2,h3⟩;refine⟨by simp [h2],fun j hj=>?_⟩;cases j with
   | zero=>simpa using h1
   | succ j=>simpa using h3 j (by simpa using hj)
  ·rintro⟨h1,h2⟩;refine⟨by simpa using h2 0 (by simp),by simpa using h1,fun j hj=>by simpa using h2 (j+1) (by simpa using hj)⟩
theorem zma(c:UInt8):is01x c=isB c:=by
 unfold is01x isB;have h (n:Nat) (hn:n<256):(c.toNat==n)=(c==UInt8.ofNat n):=by
  rw [Bool.eq_iff_iff,beq_iff_eq,beq_iff_eq,←UInt8.toNat_inj,UInt8.toNat_ofNat',Nat.mod_eq_of_lt hn]
 rw [h 48 (by decide),h 49 (by decide),h 120 (by decide)];rfl
theorem zjh(s:List UInt8)(w:Int)(hl:s.length≤1000000000):ACall Tryz.prog 65 [vSL s,vI .i64 w] [] (fun r o=>r=vB (rowB s w)):=by
 refine yN Tryz.func65 fun C hC hCl hDs hGk=>?_;refine yB Tryz.func65 rfl trivial (fun h=>?_) (fun h=>?_);rotate_left
 ·have h:((((⟨s.toArray⟩:ByteArray).size:Nat):Int)==w)=false:=h;rw [zp,beq_eq_false_iff_ne]at h;refine yR Tryz.func65 rfl trivial ?_;unfold rowB;rw [decide_eq_false h];rfl
 have h:((((⟨s.toArray⟩:ByteArray).size:Nat):Int)==w)=true:=h;rw [zp,beq_iff_eq]at h;refine yC Tryz.func65 rfl trivial (zfz true s hl) (.refl _) ?_ (hr:=by rintro r o ⟨t,rfl,-⟩;rfl);rintro r o ⟨u,rfl,hu⟩;refine yR Tryz.func65 rfl trivial ?_;show vB ((⟨u.toArray⟩:ByteArray).toList==(⟨#[]⟩:ByteArray).toList)=_;rw [z5s];unfold rowB;rw [decide_eq_true h,Bool.true_and];congr 3;rw [Bool.eq_iff_iff,List.isEmpty_iff,List.all_eq_true];exact hu.trans ⟨fun hh c hc=>by rw [←zma];exact hh c hc,fun hh c hc=>by
  show is01x c=true;rw [zma];exact hh c hc⟩
theorem zk6(l:List (List UInt8))(ws:List (Int×List UInt8))(hs:∀s∈l,s.length≤1000000000):ACall Tryz.prog 64 [.d (eSs l),.d (eIs (ws.map (·.1))),.d (.v (.func (.func 65) #[] #[]))] [] (fun r o=>r=vB (rowsB l ws)):=by
 have hq:=@z55 l ws;generalize hv:ws.map (·.1)=v at *;have hvl:ws.length=v.length:=by rw [←hv,List.length_map]
 rw [hvl]at hq;generalize rowsB l ws=res at *;refine yN Tryz.func64 fun C hC hCl hDs hGk=>?_;refine z7h (t:=0) rfl fun hlen=>?_;rw [List.length_map]at hlen;have no:¬(l.length=v.length∧∀j,j<l.length→rowB (l.getD j []) (v.getD j 0)=true)→vB false=vB res:=fun h=>by
  cases res with
  | false=>rfl
  | true=>exact absurd (hq.1 rfl) h
 refine yB Tryz.func64 rfl trivial (fun h=>?_) (fun h=>?_)
 ·refine yR Tryz.func64 rfl trivial (no fun hh=>?_);simp [hh.1]at h
 have hl:l.length=v.length:=by simp at h;omega
 refine yS Tryz.func64 rfl trivial ?_;refine z8 (α:=Nat) (fun i=>[(1,.d (eIs v)),(2,.d (.v (.func (.func 65) #[] #[]))),(15,.d (eSs l)),(16,vI .i64 l.length),(17,vI .i64 i)]) (fun _=>[]) (fun i=>i≤l.length∧∀j,j<i→rowB (l.getD j []) (v.getD j 0)=true) (fun i=>l.length-i) 0 ⟨Nat.zero_le _,fun j hj=>by omega⟩ ?_ ?_
 ·exact fun h=>yE h ⟨erl rfl,erl rfl,erl rfl,⟨_,rfl,.of (by rw [List.length_map])⟩,erl rfl,trivial⟩ trivial
 rintro i ⟨hi,hc⟩ ih;refine yB Tryz.func64 rfl trivial (fun hb=>?_) (fun hb=>?_)<;>simp only [decide_eq_true_eq,decide_eq_false_iff_not,List.length_map]at hb
 ·have hlt:i<l.length:=by omega
  have hm:l.getD i []∈l:=by simp [hlt]
  refine yV Tryz.func64 rfl (by simp [andP]<;>omega) (zjh (l.getD i []) (v.getD i 0) (hs _ hm)) (.refl _) ?_;refine yB Tryz.func64 rfl trivial (fun hb2=>?_) (fun hb2=>?_)
  ·refine yR Tryz.func64 rfl trivial (no fun hh=>?_);rw [hh.2 i hlt]at hb2;cases hb2
  ·refine yS Tryz.func64 rfl trivial ?_;refine yE (ih (i+1) ⟨by omega,fun j hj=>?_⟩ (by omega)) ⟨erl rfl,erl rfl,erl rfl,erl rfl,erw rfl,trivial⟩ trivial;rcases Nat.lt_or_ge j i with h2|h2
   ·exact hc j h2
   ·obtain rfl:j=i:=by omega
    simpa using hb2
 ·obtain rfl:i=l.length:=by omega
  refine yR Tryz.func64 rfl trivial ?_;rw [hq.2 ⟨hl,hc⟩];rfl
theorem zey(l:List (List UInt8))(ws:List (Int×List UInt8))(hs:∀s∈l,s.length≤1000000000):ACall Tryz.prog 31 [.d (eSs l),.d (eIs (ws.map (·.1)))] [] (fun r o=>r=vB (rowsB l ws)):=by
 refine yN Tryz.func31 fun C hC hCl hDs hGk=>?_;refine yV Tryz.func31 rfl trivial (zk6 l ws hs) (.refl _) ?_;exact yR Tryz.func31 rfl trivial rfl
theorem znl{α:Type}{l:List α}{d:α}{p:α→Bool}(h:∀q,q<l.length→p (l.getD q d)=false):l.any p=false:=by
 rw [List.any_eq_false];intro a ha;obtain⟨q,hq,rfl⟩:=List.getElem_of_mem ha;have:=h q hq;rw [List.getD_eq_getElem?_getD,List.getElem?_eq_getElem hq]at this;simpa using this
theorem z3u{α:Type}{l:List α}{d:α}{q:Nat}(h:q<l.length):l.getD q d∈l:=by simp [h]
structure Plain(ob:AObj):Prop where
 ren:∀ρ,ob=ob.ren ρ
 refs:∀m,z6a m ob=true
theorem Plain.ro{ob:AObj}(h:Plain ob)(m:Nat):refsO m [some ob]=true:=by
 simp only [refsO,h.refs]
theorem zp8(g:FuncId)(ob:AObj)(hob:Plain ob)(p:List (List UInt8)→Bool)(l:List (List (List UInt8)))(hp:∀a∈l,ACall Tryz.prog g [.d (eSs a),.ptr 0 0] [some ob] (fun r o=>r=vB (p a)∧o=[some ob]))(hl:l.length≤1000000):
  ACall Tryz.prog 66 [.d (eSss l),.fn (.func g) [.ptr 0 0]] [some ob] (fun r o=>∃k:Int,r=vI .i64 k∧decide (k≥0)=l.any p∧o=[some ob]):=by
 refine yN Tryz.func66 fun C hC hCl hDs hGk=>?_;refine yS Tryz.func66 rfl trivial ?_;refine z8 (α:=Nat) (fun j=>[(0,.d (eSss l)),(1,.fn (.func g) [.ptr 0 0]),(7,vI .i64 (l.length:Int)),(8,vI .i64 (j:Int))]) (fun j=>[some ob]) (fun j=>j≤l.length∧∀q,q<j→p (l.getD q [])=false) (fun j=>l.length-j) 0 ⟨Nat.zero_le _,fun q hq=>by omega⟩ ?_ ?_
 ·exact fun h=>yE h ⟨erl rfl,erl rfl,⟨_,rfl,.of (by rw [List.length_map])⟩,erl rfl,trivial⟩ (oAl rfl) (hro:=hob.ro _)
 rintro j ⟨hj,hall⟩ ih;refine yB Tryz.func66 rfl trivial (fun hb=>?_) (fun hb=>?_)<;>simp only [decide_eq_true_eq,decide_eq_false_iff_not]at hb
 ·have hlt:j<l.length:=by omega
  refine yW [0] Tryz.func66 rfl (by simp [andP]<;>omega) (hp (l.getD j []) (z3u hlt)) ⟨⟨_,rfl,.of (hob.ren _)⟩,trivial⟩ (.refl _) ?_ (hro:=hob.ro _);refine yB Tryz.func66 rfl trivial (fun g=>?_) (fun g=>?_)
  ·refine yL Tryz.func66 rfl trivial (.refl _) ⟨.of (hob.ren _).symm,trivial⟩ ⟨_,rfl,?_,rfl⟩ (hro:=hob.ro _) (o2:=[some ob]);have:l.any p=true:=List.any_eq_true.2 ⟨_,z3u hlt,g⟩;rw [this];exact decide_eq_true (by omega)
  ·have g:p (l.getD j [])=false:=g;refine yS Tryz.func66 rfl trivial ?_;refine yE (ih (j+1) ⟨by omega,fun q hq=>?_⟩ (by omega)) ⟨erl rfl,erl rfl,erl rfl,erw rfl,trivial⟩ ⟨.of (hob.ren _).symm,trivial⟩ (hro:=hob.ro _);rcases Nat.lt_or_ge q j with h|h
   ·exact hall q h
   ·obtain rfl:q=j:=by omega
    exact g
 ·obtain rfl:j=l.length:=by omega
  refine yL Tryz.func66 rfl trivial (.refl _) (oAl rfl) ⟨-1,rfl,?_,rfl⟩ (hro:=hob.ro _) (o2:=[some ob]);rw [znl hall];rfl
theorem zfu(g:FuncId)(ob:AObj)(hob:Plain ob)(p:List (List UInt8)→Bool)(l:List (List (List UInt8)))(hp:∀a∈l,ACall Tryz.prog g [.d (eSs a),.ptr 0 0] [some ob] (fun r o=>r=vB (p a)∧o=[some ob]))(hl:l.length≤1000000):
  ACall Tryz.prog 32 [.d (eSss l),.fn (.func g) [.ptr 0 0]] [some ob] (fun r o=>r=vB (l.any p)∧o=[some ob]):=by
 refine yN Tryz.func32 fun C hC hCl hDs hGk=>?_;refine yG [0] Tryz.func32 rfl trivial (zp8 g ob hob p l hp hl) ⟨⟨_,rfl,.of (hob.ren _)⟩,trivial⟩ (.refl _) ?_ (hro:=hob.ro _);rintro r o ⟨k,rfl,hk,rfl⟩;refine yL Tryz.func32 rfl trivial (.refl _) ⟨.of (hob.ren _).symm,trivial⟩ ⟨?_,rfl⟩ (hro:=hob.ro _) (o2:=[some ob]);show vB (decide (k≥0))=_;rw [hk]
@[reducible] def bSh(h:Sh):AObj:=.cells 63 [.d (eI h.bads),.d (eIs (h.st.map (·.1))),.d (eSs (h.st.map (·.2))),.d (eIs (h.inw.map (·.1))),.d (eI 200)]
theorem zni(h:Sh):Plain (bSh h):=⟨fun _=>rfl,fun _=>rfl⟩
theorem zgd(h:Sh)(l:List (List UInt8))(hs:∀s∈l,s.length≤1000000000):ACall Tryz.prog 33 [.d (eSs l),.ptr 0 0] [some (bSh h)] (fun r o=>r=vB (!rowsB l h.inw)∧o=[some (bSh h)]):=by
 refine yN Tryz.func33 fun C hC hCl hDs hGk=>?_;refine yV Tryz.func33 rfl trivial (zey l h.inw hs) (.refl _) ?_;exact yL Tryz.func33 rfl trivial (.refl _) (oAl rfl) ⟨rfl,rfl⟩ (o2:=[some (bSh h)])
theorem z8z:∀{l:List (List UInt8)} {ws:List (Int×List UInt8)},l.length=ws.length→(z4n l ws=true↔∀j,j<ws.length→(ws.map (·.2)).getD j []=[]∨l.getD j []=(ws.map (·.2)).getD j [])
 | [],[],_=>by simp [z4n]
 | s::l,w::ws,h=>by
  rw [z4n,Bool.and_eq_true,z8z (by simpa using h),Bool.or_eq_true,List.isEmpty_iff,beq_iff_eq];constructor
  ·rintro⟨h1,h2⟩ j hj;cases j with
   | zero=>simpa using h1
   | succ j=>simpa using h2 j (by simpa using hj)
  ·intro h1;exact⟨by simpa using h1 0 (by simp),fun j hj=>by simpa using h1 (j+1) (by simpa using hj)⟩
 | [],_::_,h=>by simp at h
 | _::_,[],h=>by simp at h
theorem strEq(a b:List UInt8):((⟨a.toArray⟩:ByteArray).toList==(⟨b.toArray⟩:ByteArray).toList)=decide (a=b):=by
 rw [ByteArray.toList_mk,ByteArray.toList_mk];by_cases h:a=b
 ·simp [h]
 ·simp [h]
theorem z7a(l:List Nd)(hm:MdB l)(ty:Ty l)(t:Wt)(hi:∀s∈t.init,s.length≤1000000000)(hs:∀f∈t.ins,∀s∈f,s.length≤1000000000):ACall Tryz.prog 13 [.d (eBt l),.d (eWt t)] [] (fun r o=>r=vB (z28 (shL l) t)):=by
 refine yN Tryz.func13 fun C hC hCl hDs hGk=>?_;refine yV Tryz.func13 rfl trivial (zc1 l hm ty) (.refl _) ?_;have hq:=@z39 (shL l) t;have hfl:(shL l).st.length≤1000000:=by
  unfold shL;simp only [List.length_map];exact Nat.le_trans (z1s l ze l.length) (Nat.le_of_lt ty.small)
 generalize shL l=h at *;have no:¬((0≤t.bad∧t.bad<h.bads∧1≤t.ins.length∧t.ins.length≤200)∧rowsB t.init h.st=true∧z4n t.init h.st=true∧∀l∈t.ins,rowsB l h.inw=true)→vB false=vB (z28 h t):=fun hn=>by
  cases hr:z28 h t with
  | false=>rfl
  | true=>exact absurd (hq.1 hr) hn
 refine yB Tryz.func13 rfl trivial (fun h1=>?_) (fun h1=>?_)
 ·have h1:decide (t.bad<0)=true:=h1;rw [decide_eq_true_eq]at h1;repeat refine yT Tryz.func13 rfl trivial ?_
  exact yR Tryz.func13 rfl trivial (no fun hh=>by omega)
 have h1:decide (t.bad<0)=false:=h1;rw [decide_eq_false_iff_not]at h1;refine yB Tryz.func13 rfl trivial (fun h2=>?_) (fun h2=>?_)
 ·have h2:decide (t.bad≥h.bads)=true:=h2;rw [decide_eq_true_eq]at h2;repeat refine yT Tryz.func13 rfl trivial ?_
  exact yR Tryz.func13 rfl trivial (no fun hh=>by omega)
 have h2:decide (t.bad≥h.bads)=false:=h2;rw [decide_eq_false_iff_not]at h2;refine yB Tryz.func13 rfl trivial (fun h3=>?_) (fun h3=>?_)
 ·have h3:decide (((t.ins.map eSs).length:Int)<1)=true:=h3;rw [decide_eq_true_eq,List.length_map]at h3;repeat refine yT Tryz.func13 rfl trivial ?_
  exact yR Tryz.func13 rfl trivial (no fun hh=>by omega)
 have h3:decide (((t.ins.map eSs).length:Int)<1)=false:=h3;rw [decide_eq_false_iff_not,List.length_map]at h3;refine yB Tryz.func13 rfl trivial (fun h4=>?_) (fun h4=>?_)
 ·have h4:decide (((t.ins.map eSs).length:Int)>200)=true:=h4;rw [decide_eq_true_eq,List.length_map]at h4;repeat refine yT Tryz.func13 rfl trivial ?_
  exact yR Tryz.func13 rfl trivial (no fun hh=>by omega)
 have h4:decide (((t.ins.map eSs).length:Int)>200)=false:=h4;rw [decide_eq_false_iff_not,List.length_map]at h4;refine yV Tryz.func13 rfl trivial (zey t.init h.st hi) (.refl _) ?_;cases hr:rowsB t.init h.st with
 | false=>
  refine yT Tryz.func13 rfl trivial ?_;exact yR Tryz.func13 rfl trivial (no fun hh=>by rw [hr]at hh;cases hh.2.1)
 | true=>
  refine yF Tryz.func13 rfl trivial ?_;refine yS Tryz.func13 rfl trivial ?_;have hlen:=(z55.1 hr).1;have hf:=z8z hlen;have hvl:h.st.length=(h.st.map (·.2)).length:=by rw [List.length_map]
  generalize hv:h.st.map (·.2)=v at *;rw [hvl]at hlen hf hfl;refine z8 (α:=Nat) (fun i=>[(3,.ptr 1 0),(5,.ptr 2 0),(43,.d (eSs v)),(44,vI .i64 (v.length:Int)),(45,vI .i64 (i:Int))]) (fun i=>[none,some (bWt t),some (bSh h)]) (fun i=>i≤v.length∧∀j,j<i→v.getD j []=[]∨t.init.getD j []=v.getD j []) (fun i=>v.length-i) 0 ⟨Nat.zero_le _,fun j hj=>by omega⟩ ?_ ?_
  ·refine fun hh=>yE hh ⟨erl rfl,erl rfl,erl rfl,⟨_,rfl,.of (by rw [List.length_map])⟩,erl rfl,trivial⟩ ⟨.refl _,.of ?_,trivial⟩;show _=AObj.cells 63 [.d (eI h.bads),.d (eIs (h.st.map (·.1))),.d (eSs (h.st.map (·.2))),.d (eIs (h.inw.map (·.1))),.d (eI 200)];rw [hv];rfl
  rintro i ⟨hi2,hc⟩ ih;refine yB Tryz.func13 rfl trivial (fun hb=>?_) (fun hb=>?_)<;>simp only [decide_eq_true_eq,decide_eq_false_iff_not]at hb
  ·have hlt:i<v.length:=by omega
   have ih:=ih (i+1);refine yB Tryz.func13 rfl (by simp [andP]<;>omega) (fun hb2=>?_) (fun hb2=>?_)
   ·have hb2:(!((⟨(v.getD (i:Int).toNat []).toArray⟩:ByteArray).toList==(⟨([]:List UInt8).toArray⟩:ByteArray).toList))=true:=hb2;rw [strEq,Int.toNat_natCast,Bool.not_eq_true',decide_eq_false_iff_not]at hb2;refine yB Tryz.func13 rfl (by simp [andP]<;>omega) (fun hb3=>?_) (fun hb3=>?_)
    ·have hb3:(!((⟨(t.init.getD (i:Int).toNat []).toArray⟩:ByteArray).toList==(⟨(v.getD (i:Int).toNat []).toArray⟩:ByteArray).toList))=true:=hb3;rw [strEq,Int.toNat_natCast,Bool.not_eq_true',decide_eq_false_iff_not]at hb3;refine yR Tryz.func13 rfl trivial (no fun hh=>?_);rcases(hf.1 hh.2.2.1) i hlt with h5|h5
     ·exact hb2 h5
     ·exact hb3 h5
    ·have hb3:(!((⟨(t.init.getD (i:Int).toNat []).toArray⟩:ByteArray).toList==(⟨(v.getD (i:Int).toNat []).toArray⟩:ByteArray).toList))=false:=hb3;rw [strEq,Int.toNat_natCast,Bool.not_eq_false',decide_eq_true_eq]at hb3;refine yS Tryz.func13 rfl trivial ?_;refine yE (ih ⟨by omega,fun j hj=>?_⟩ (by omega)) ⟨erl rfl,erl rfl,erl rfl,erl rfl,erw rfl,trivial⟩ (oAl rfl);rcases Nat.lt_or_ge j i with h5|h5
     ·exact hc j h5
     ·obtain rfl:j=i:=by omega
      exact .inr hb3
   ·have hb2:(!((⟨(v.getD (i:Int).toNat []).toArray⟩:ByteArray).toList==(⟨([]:List UInt8).toArray⟩:ByteArray).toList))=false:=hb2;rw [strEq,Int.toNat_natCast,Bool.not_eq_false',decide_eq_true_eq]at hb2;refine yF Tryz.func13 rfl trivial ?_;refine yS Tryz.func13 rfl trivial ?_;refine yE (ih ⟨by omega,fun j hj=>?_⟩ (by omega)) ⟨erl rfl,erl rfl,erl rfl,erl rfl,erw rfl,trivial⟩ (oAl rfl);rcases Nat.lt_or_ge j i with h5|h5
    ·exact hc j h5
    ·obtain rfl:j=i:=by omega
     exact .inl hb2
  ·obtain rfl:i=v.length:=by omega
   refine yW [2] Tryz.func13 rfl trivial (zfu _ _ (zni h) (fun f=>!rowsB f h.inw) t.ins (fun f hf=>zgd h f (hs f hf)) (by omega)) ⟨⟨_,rfl,.refl _⟩,trivial⟩ (.refl _) ?_;refine yR Tryz.func13 rfl trivial ?_;show vB (!(t.ins.any fun f=>!rowsB f h.inw))=vB (z28 h t);congr 3;unfold z28;rw [decide_eq_true (by omega),hr,hf.2 (by rw [←hvl]at hc ⊢;exact hc),Bool.true_and,Bool.true_and,Bool.true_and,List.not_any_eq_all_not];simp
theorem zhg(s:List UInt8)(c:UInt8):ACall Tryz.prog 96 [vTx s,vTx [c]] [] (fun r o=>r=vI .i64 (Go.Lib.indexByte s c)):=
 z6n (fun _ _=>Nat.le_refl _) rfl (vs:=[.string ⟨s.toArray⟩,.string ⟨#[c]⟩]) (fun w ok π us h=>by
  cases h with|cons h1 h=>cases h with|cons h2 h=>cases h with|nil=>
  cases h1 with|d h1=>cases h1 with|v _=>cases h2 with|d h2=>cases h2 with|v _=>rfl) (fun args w=>zb Tryz.func96 rfl rfl args w) fun w ht=>(Any.stringslite_Index_one Tryz.idxL ⟨s.toArray⟩ c w).mono fun e w' ⟨he,hw⟩=>⟨he,hw▸⟨rfl,rfl,rfl,Nat.le_refl _,fun b hb=>rfl⟩⟩
theorem zmc(c:UInt8):∀s:List UInt8,-1≤Go.Lib.indexByte s c∧decide (Go.Lib.indexByte s c≥0)=s.any (·==c)
 | []=>by simp [Go.Lib.indexByte]
 | b::s=>by
  obtain⟨h1,h2⟩:=zmc c s;rw [Go.Lib.indexByte,List.any_cons];cases hb:b==c with
  | true=>simp
  | false=>
   simp only [Bool.false_eq_true,if_false,Bool.false_or];by_cases h3:Go.Lib.indexByte s c=-1
   ·rw [h3]at h2 ⊢;rw [←h2];decide
   ·rw [if_neg (by rw [beq_iff_eq];exact h3),←h2];refine⟨by omega,?_⟩;rw [decide_eq_true (by omega),decide_eq_true (by omega)]
theorem zeu(s:List UInt8)(c:UInt8):ACall Tryz.prog 70 [vSL s,vSL [c]] [] (fun r o=>r=vI .i64 (Go.Lib.indexByte s c)):=by
 refine yN Tryz.func70 fun C hC hCl hDs hGk=>?_;refine yV Tryz.func70 rfl trivial (zhg s c) (.refl _) ?_;exact yR Tryz.func70 rfl trivial rfl
theorem zq7(s:List UInt8)(c:UInt8):ACall Tryz.prog 41 [vSL s,vSL [c]] [] (fun r o=>r=vB (s.any (·==c))):=by
 refine yN Tryz.func41 fun C hC hCl hDs hGk=>?_;refine yV Tryz.func41 rfl trivial (zeu s c) (.refl _) ?_;refine yR Tryz.func41 rfl trivial ?_;rw [←(zmc c s).2];rfl
def xS(s:List UInt8):Bool:=s.any (·==120)
def xL(l:List (List UInt8)):Bool:=l.any xS
def totB(t:Wt):Bool:=!(t.init::t.ins).any xL
@[reducible] def dFn(g:Nat):D:=.v (.func (.func g) #[] #[])
theorem zmh(s:List UInt8):ACall Tryz.prog 40 [vSL s] [] (fun r o=>r=vB (xS s)):=by
 refine yN Tryz.func40 fun C hC hCl hDs hGk=>?_;refine yV Tryz.func40 rfl trivial (zq7 s 120) (.refl _) ?_;exact yR Tryz.func40 rfl trivial rfl
theorem zp7(l:List (List UInt8)):ACall Tryz.prog 71 [.d (eSs l),.d (dFn 40)] [] (fun r o=>∃k:Int,r=vI .i64 k∧decide (k≥0)=xL l):=by
 refine yN Tryz.func71 fun C hC hCl hDs hGk=>?_;refine z7h (t:=0) rfl fun hlen=>?_;rw [List.length_map]at hlen;refine yS Tryz.func71 rfl trivial ?_;refine z8 (α:=Nat) (fun j=>[(0,.d (eSs l)),(1,.d (dFn 40)),(7,vI .i64 (l.length:Int)),(8,vI .i64 (j:Int))]) (fun j=>[]) (fun j=>j≤l.length∧∀q,q<j→xS (l.getD q [])=false) (fun j=>l.length-j) 0 ⟨Nat.zero_le _,fun q hq=>by omega⟩ ?_ ?_
 ·exact fun h=>yE h ⟨erl rfl,erl rfl,⟨_,rfl,.of (by rw [List.length_map])⟩,erl rfl,trivial⟩ trivial
 rintro j ⟨hj,hall⟩ ih;refine yB Tryz.func71 rfl trivial (fun hb=>?_) (fun hb=>?_)<;>simp only [decide_eq_true_eq,decide_eq_false_iff_not]at hb
 ·have hlt:j<l.length:=by omega
  refine yV Tryz.func71 rfl (by simp [andP]<;>omega) (zmh (l.getD j [])) (.refl _) ?_;refine yB Tryz.func71 rfl trivial (fun g=>?_) (fun g=>?_)
  ·refine yR Tryz.func71 rfl trivial ⟨_,rfl,?_⟩;have:xL l=true:=List.any_eq_true.2 ⟨_,z3u hlt,g⟩;rw [this];exact decide_eq_true (by omega)
  ·have g:xS (l.getD j [])=false:=g;refine yS Tryz.func71 rfl trivial ?_;refine yE (ih (j+1) ⟨by omega,fun q hq=>?_⟩ (by omega)) ⟨erl rfl,erl rfl,erl rfl,erw rfl,trivial⟩ trivial;rcases Nat.lt_or_ge q j with h|h
   ·exact hall q h
   ·obtain rfl:q=j:=by omega
    exact g
 ·obtain rfl:j=l.length:=by omega
  refine yR Tryz.func71 rfl trivial ⟨-1,rfl,?_⟩;rw [xL,znl hall];rfl
theorem zn8(l:List (List UInt8)):ACall Tryz.prog 43 [.d (eSs l),.d (dFn 40)] [] (fun r o=>r=vB (xL l)):=by
 refine yN Tryz.func43 fun C hC hCl hDs hGk=>?_;refine yC Tryz.func43 rfl trivial (zp7 l) (.refl _) ?_ (hr:=by rintro r o ⟨k,rfl,-⟩;rfl);rintro r o ⟨k,rfl,hk⟩;refine yR Tryz.func43 rfl trivial ?_;show vB (decide (k≥0))=_;rw [hk]
@[reducible] def bHas:AObj:=.cells 73 [.d (dFn 40)]
theorem zk3:Plain bHas:=⟨fun _=>rfl,fun _=>rfl⟩
theorem zg5(l:List (List UInt8)):ACall Tryz.prog 42 [.d (eSs l),.ptr 0 0] [some bHas] (fun r o=>r=vB (xL l)∧o=[some bHas]):=by
 refine yN Tryz.func42 fun C hC hCl hDs hGk=>?_;refine yV Tryz.func42 rfl trivial (zn8 l) (.refl _) ?_;exact yL Tryz.func42 rfl trivial (.refl _) (oAl rfl) ⟨rfl,rfl⟩ (o2:=[some bHas])
@[reducible] def gSss(l:List (List (List UInt8))):AObj:=gL 25 1 eSs [] l
theorem z94(t:Wt)(hl:t.ins.length≤100000):ACall Tryz.prog 17 [.d (eWt t)] [] (fun r o=>r=vB (totB t)):=by
 refine yN Tryz.func17 fun C hC hCl hDs hGk=>?_;refine yX 14 Tryz.func17 rfl trivial ?_;refine zd8 _ tabOk rfl rfl rfl rfl rfl trivial rfl ?_;refine yX 4 Tryz.func17 rfl ?_ ?_
 ·show([eSs t.init].length+(t.ins.map eSs).length)*24≤140737488355328∧True;rw [List.length_map];exact⟨by show(1+t.ins.length)*24≤_;omega,trivial⟩
 refine zj 2 rfl ?_;refine yW [1] Tryz.func17 rfl trivial (zfu _ _ zk3 xL (t.init::t.ins) (fun f hf=>zg5 f) (by simp;omega)) ⟨⟨_,rfl,.refl _⟩,trivial⟩ ⟨.eL rfl,.refl _,trivial⟩ ?_;exact yR Tryz.func17 rfl trivial rfl
theorem zq9(a b:List (List UInt8)):ACall Tryz.prog 37 [.d (eSs a),.d (eSs b)] [] (fun r o=>r=vB (decide (a=b))):=by
 refine yN Tryz.func37 fun C hC hCl hDs hGk=>?_;refine z7h (t:=0) rfl fun hlen=>?_;rw [List.length_map]at hlen;refine yB Tryz.func37 rfl trivial (fun h=>?_) (fun h=>?_)
 ·refine yR Tryz.func37 rfl trivial ?_;show vB false=vB _;have:a≠b:=by rintro rfl;simp at h
  simp [this]
 have hl:a.length=b.length:=by simp at h;omega
 refine yS Tryz.func37 rfl trivial ?_;refine z8 (α:=Nat) (fun i=>[(0,.d (eSs a)),(1,.d (eSs b)),(12,vI .i64 a.length),(13,vI .i64 i)]) (fun _=>[]) (fun i=>i≤a.length∧a.take i=b.take i) (fun i=>a.length-i) 0 ⟨Nat.zero_le _,rfl⟩ ?_ ?_
 ·exact fun h=>yE h ⟨erl rfl,erl rfl,⟨_,rfl,.of (by rw [List.length_map])⟩,erl rfl,trivial⟩ trivial
 rintro i ⟨hi,hc⟩ ih;refine yB Tryz.func37 rfl trivial (fun hb=>?_) (fun hb=>?_)<;>simp only [decide_eq_true_eq,decide_eq_false_iff_not,List.length_map]at hb
 ·have hlt:i<a.length:=by omega
  have hlb:i<b.length:=by omega
  have ea:a.getD i []=a[i]:=by simp [hlt]
  have eb:b.getD i []=b[i]:=by simp [hlb]
  refine yO 8 Tryz.func37 rfl trivial ?_;refine yq rfl ?_ ?_
  ·exact(by simp [andP]<;>omega)
  refine yB Tryz.func37 rfl trivial (fun hb2=>?_) (fun hb2=>?_)
  ·have hb2:(!((⟨(a.getD (i:Int).toNat []).toArray⟩:ByteArray).toList==(⟨(b.getD (i:Int).toNat []).toArray⟩:ByteArray).toList))=true:=hb2;rw [strEq,Int.toNat_natCast,Bool.not_eq_true',decide_eq_false_iff_not]at hb2;refine yR Tryz.func37 rfl trivial ?_;show vB false=vB _;have:a≠b:=by rintro rfl;exact hb2 rfl
   simp [this]
  ·have hb2:(!((⟨(a.getD (i:Int).toNat []).toArray⟩:ByteArray).toList==(⟨(b.getD (i:Int).toNat []).toArray⟩:ByteArray).toList))=false:=hb2;rw [strEq,Int.toNat_natCast,Bool.not_eq_false',decide_eq_true_eq,ea,eb]at hb2;refine yS Tryz.func37 rfl trivial ?_;refine yE (ih (i+1) ⟨by omega,?_⟩ (by omega)) ⟨erl rfl,erl rfl,erl rfl,erw rfl,trivial⟩ trivial;rw [List.take_add_one,List.take_add_one,hc,List.getElem?_eq_getElem hlt,List.getElem?_eq_getElem hlb,hb2]
 ·obtain rfl:i=a.length:=by omega
  rw [List.take_length,hl,List.take_length]at hc;refine yR Tryz.func37 rfl trivial ?_;show vB true=vB _;simp [hc]
theorem zc6(a b:List (List UInt8)):ACall Tryz.prog 36 [.d (eSs a),.d (eSs b)] [] (fun r o=>r=vB (decide (a=b))):=by
 refine yN Tryz.func36 fun C hC hCl hDs hGk=>?_;refine yV Tryz.func36 rfl trivial (zq9 a b) (.refl _) ?_;exact yR Tryz.func36 rfl trivial rfl
theorem znx(a b:List (List (List UInt8))):ACall Tryz.prog 38 [.d (eSss a),.d (eSss b),.d (dFn 36)] [] (fun r o=>r=vB (decide (a=b))):=by
 refine yN Tryz.func38 fun C hC hCl hDs hGk=>?_;refine z7h (t:=0) rfl fun hlen=>?_;rw [List.length_map]at hlen;refine yB Tryz.func38 rfl trivial (fun h=>?_) (fun h=>?_)
 ·refine yR Tryz.func38 rfl trivial ?_;show vB false=vB _;have:a≠b:=by rintro rfl;simp at h
  simp [this]
 have hl:a.length=b.length:=by simp at h;omega
 refine yS Tryz.func38 rfl trivial ?_;refine z8 (α:=Nat) (fun i=>[(1,.d (eSss b)),(2,.d (dFn 36)),(15,.d (eSss a)),(16,vI .i64 a.length),(17,vI .i64 i)]) (fun _=>[]) (fun i=>i≤a.length∧a.take i=b.take i) (fun i=>a.length-i) 0 ⟨Nat.zero_le _,rfl⟩ ?_ ?_
 ·exact fun h=>yE h ⟨erl rfl,erl rfl,erl rfl,⟨_,rfl,.of (by rw [List.length_map])⟩,erl rfl,trivial⟩ trivial
 rintro i ⟨hi,hc⟩ ih;refine yB Tryz.func38 rfl trivial (fun hb=>?_) (fun hb=>?_)<;>simp only [decide_eq_true_eq,decide_eq_false_iff_not,List.length_map]at hb
 ·have hlt:i<a.length:=by omega
  have hlb:i<b.length:=by omega
  have ea:a.getD i []=a[i]:=by simp [hlt]
  have eb:b.getD i []=b[i]:=by simp [hlb]
  refine yV Tryz.func38 rfl (by simp [andP]<;>omega) (zc6 (a.getD i []) (b.getD i [])) (.refl _) ?_;refine yB Tryz.func38 rfl trivial (fun hb2=>?_) (fun hb2=>?_)
  ·have hb2:a.getD i []≠b.getD i []:=by simpa using hb2
   refine yR Tryz.func38 rfl trivial ?_;show vB false=vB _;have:a≠b:=by rintro rfl;exact hb2 rfl
   simp [this]
  ·have hb2:a.getD i []=b.getD i []:=by simpa using hb2
   rw [ea,eb]at hb2;refine yS Tryz.func38 rfl trivial ?_;refine yE (ih (i+1) ⟨by omega,?_⟩ (by omega)) ⟨erl rfl,erl rfl,erl rfl,erl rfl,erw rfl,trivial⟩ trivial;rw [List.take_add_one,List.take_add_one,hc,List.getElem?_eq_getElem hlt,List.getElem?_eq_getElem hlb,hb2]
 ·obtain rfl:i=a.length:=by omega
  refine yR Tryz.func38 rfl trivial ?_;rw [List.take_length,hl,List.take_length]at hc;rw [decide_eq_true hc];rfl
theorem zj0(s t:Wt):ACall Tryz.prog 15 [.d (eWt s),.d (eWt t)] [] (fun r o=>r=vB (sameW s t)):=by
 refine yN Tryz.func15 fun C hC hCl hDs hGk=>?_;refine yB Tryz.func15 rfl trivial (fun h1=>?_) (fun h1=>?_);rotate_left
 ·have h1:(s.bad==t.bad)=false:=h1;repeat refine yF Tryz.func15 rfl trivial ?_
  refine yR Tryz.func15 rfl trivial ?_;unfold sameW;rw [h1];rfl
 have h1:(s.bad==t.bad)=true:=h1;refine yV Tryz.func15 rfl trivial (zc6 s.init t.init) (.refl _) ?_;cases h2:decide (s.init=t.init)with
 | false=>
  repeat refine yF Tryz.func15 rfl trivial ?_
  refine yR Tryz.func15 rfl trivial ?_;unfold sameW;rw [h1,h2];rfl
 | true=>
  refine yT Tryz.func15 rfl trivial ?_;refine yV Tryz.func15 rfl trivial (znx s.ins t.ins) (.refl _) ?_;refine yR Tryz.func15 rfl trivial ?_;unfold sameW;rw [h1,h2];rfl
end Go.Proofs.YtbodbhpdelgpnaaGreatDoor
namespace Ab
open Go
variable [Draws]
section
variable {P:Program}[Globals P]{T:Tab}{f:FuncId}{fn:Func}{n m:Nat}{C:Cx}{R:AV→List (Option AObj)→Prop}{todo todo' k:List Item}{env env0 env' envF:Env}{objs objs':List (Option AObj)}{nd:Prop}{ops:Array Oper}{l:List Oper}{K:Env→Prop}{X:Nat→Prop}
def memB(L:List Nat)(q:Nat):Bool:=L.any fun a=>Nat.beq a q
def dyB(DL:List (Tmp×Nat))(L:List Nat)(t:Tmp):Bool:=DL.any fun x=>Nat.beq x.1 t&&memB L x.2
theorem z89{L:List Nat}{q:Nat}:memB L q=true↔q∈L:=by
 unfold memB;rw [List.any_eq_true];exact⟨fun⟨a,h1,h2⟩=>(Nat.eq_of_beq_eq_true h2)▸h1,fun h=>⟨q,h,by simp⟩⟩
theorem zqr{DL:List (Tmp×Nat)}{L:List Nat}{t:Tmp}(h:∀x∈DL,x.1≠t):dyB DL L t=false:=by
 unfold dyB;rw [List.any_eq_false];intro x hx;have:=h x hx;simp [this]
theorem zpk{DL:List (Tmp×Nat)}{L:List Nat}{j:Nat}{t:Tmp}(h:dyB DL (j::L) t=false):dyB DL L t=false:=by
 unfold dyB at h ⊢;rw [List.any_eq_false]at h ⊢;intro x hx h2;refine h x hx ?_;rw [Bool.and_eq_true]at h2 ⊢;exact⟨h2.1,z89.2 (List.mem_cons_of_mem _ (z89.1 h2.2))⟩
def dyOk(ops:Array Oper)(m:Nat)(DL:List (Tmp×Nat)):Bool:=DL.all fun x=>((List.range m).any fun j=>dstIs ops j x.1)&&(List.range m).all fun j=>Nat.beq j x.2||(match ops[j]? with|some o=>!(o.looksAt ops).contains x.1|none=>true)
theorem zpj{DL:List (Tmp×Nat)}{L:List Nat}{i:Nat}{o:Oper}{u:Tmp}(h:dyOk ops m DL=true)(hi:i<m)(ho:ops[i]?=some o)(hu:u∈o.looksAt ops)(hiL:i∉L):dyB DL L u=false:=by
 unfold dyB;rw [List.any_eq_false];intro x hx h2;rw [Bool.and_eq_true]at h2;obtain rfl:x.1=u:=Nat.eq_of_beq_eq_true h2.1;have h3:=List.all_eq_true.1 h x hx;rw [Bool.and_eq_true]at h3;have h4:=List.all_eq_true.1 h3.2 i (List.mem_range.2 hi);rw [ho,Bool.or_eq_true]at h4;rcases h4 with h4|h4
 ·obtain rfl:i=x.2:=Nat.eq_of_beq_eq_true h4;exact hiL (z89.1 h2.2)
 ·have:(o.looksAt ops).contains x.1=true:=List.contains_iff_mem.2 hu;simp only [this,Bool.not_true]at h4;cases h4
theorem zsh{DL:List (Tmp×Nat)}{u:Tmp}(h:dyOk ops m DL=true)(hu:∀j,j<m→dstIs ops j u=false)(L:List Nat):dyB DL L u=false:=zqr fun x hx e=>by
 have h3:=List.all_eq_true.1 h x hx;rw [Bool.and_eq_true]at h3;obtain⟨j,hj,hd⟩:=List.any_eq_true.1 h3.1;rw [e,hu j (List.mem_range.1 hj)]at hd;cases hd
structure StepK(C:Cx)(O:List Nat→List (Option AObj))(envF:Env)(DL:List (Tmp×Nat))(L:List Nat)(j:Nat)(π:List Value)(w:World)(π':List Value)(w2:World):Prop where
 mem:Mem C.X π' (O (j::L)) w2
 hist:Hist C.π C.objs C.w π (O L) w→Hist C.π C.objs C.w π' (O (j::L)) w2
 keep:∀t a v,look envF t=some a→dyB DL (j::L) t=false→RelV w (okOf C.X π (O L)) π a v→RelV w2 (okOf C.X π' (O (j::L))) π' a v
def HeadK(P:Program)[Globals P](n:Nat)(C:Cx)(O:List Nat→List (Option AObj))(m:Nat)(ops:Array Oper)(envF:Env)(DL:List (Tmp×Nat))(j:Nat)(o:Oper):Prop:=
 ∀L,(∀q∈L,q<m)→j∉L→(∀q,zv ops j q=true→q∈L)→(∀q∈L,∀q',zv ops q q'=true→q'∈L)→∀π w tmps,tmps.size=n→Mem C.X π (O L) w→GOk P π (O L) w→(∀t∈o.looksAt ops,∀a,look envF t=some a→RelV w (okOf C.X π (O L)) π a (tmps.getD t undef)) →
  (Region.wanted o (yielded ops tmps)=false∧∃π',StepK C O envF DL L j π w π' w∧PutOk n w (okOf C.X π' (O (j::L))) π' envF o undef) ∨
  (Region.wanted o (yielded ops tmps)=true ∧
   ((∃v w2 π',(execOp (Act.eval ⟨tmps,[]⟩) o).run P w=.ok (.value v) w2∧StepK C O envF DL L j π w π' w2∧PutOk n w2 (okOf C.X π' (O (j::L))) π' envF o v) ∨
    (∃w2 π',(execOp (Act.eval ⟨tmps,[]⟩) o).run P w=.ok .skip w2∧StepK C O envF DL L j π w π' w2∧PutOk n w2 (okOf C.X π' (O (j::L))) π' envF o undef) ∨
    (∃g args,(execOp (Act.eval ⟨tmps,[]⟩) o).run P w=.ok (.enter g args) w∧Calls P g args w fun e w2=>∃v π',e=.returned v∧StepK C O envF DL L j π w π' w2∧PutOk n w2 (okOf C.X π' (O (j::L))) π' envF o v)))
theorem HeadH.toK{O:List Nat→List (Option AObj)}{j:Nat}{o:Oper}(DL:List (Tmp×Nat))(h:HeadH P n C O m ops envF j o):HeadK P n C O m ops envF DL j o:=by
 have st:∀{L:List Nat} {π π':List Value} {w w2:World},StepH C O L j π w π' w2→StepK C O envF DL L j π w π' w2:=fun s=>⟨s.mem,s.hist,fun t a v _ _ hv=>s.keep a v hv⟩
 intro L a1 a2 a3 a4 π w tmps hs hm hgk hl;rcases h L a1 a2 a3 a4 π w tmps hs hm hgk hl with⟨hw,π',hst,hp⟩|⟨hw,⟨v,w2,π',hr,hst,hp⟩|⟨w2,π',hr,hst,hp⟩|⟨g,args,hr,hc⟩⟩
 ·exact .inl ⟨hw,π',st hst,hp⟩
 ·exact .inr ⟨hw,.inl ⟨v,w2,π',hr,st hst,hp⟩⟩
 ·exact .inr ⟨hw,.inr (.inl ⟨w2,π',hr,st hst,hp⟩)⟩
 ·exact .inr ⟨hw,.inr (.inr ⟨g,args,hr,hc.mono fun e w2 ⟨v,π',b1,b2,b3⟩=>⟨v,π',b1,st b2,b3⟩⟩)⟩
theorem zfs{O:List Nat→List (Option AObj)}{objsF:List (Option AObj)}{DL:List (Tmp×Nat)}{envG:Env}(hmx:P.follows .mixedOrders=true)(hB:drawZ ops m=true)(hops:∀j o,j<m→ops[j]?=some o→HeadK P n C O m ops envF DL j o)(hdy:dyOk ops m DL=true)(hG:∀u a,look envG u=some a→look envF u=some a∧∀x∈DL,x.1≠u)
  (hO0:O []=objs) (hOF:∀L,(∀i,i<m→i∈L)→O L=objsF)
  (henv:∀t,(∀j,j<m→dstIs ops j t=false)→∀a,look envF t=some a→∃b,look env0 t=some b∧VLe b a)
  (hK:ASat P f n C (.inRegion ops (List.range' m (ops.size-m))::k) envG objsF R) {id:Nat} (hGk:GOk P C.π C.objs C.w:=by with_reducible assumption):ASat P f n C (.code (.region id ops true)::k) env0 objs R:=by
 obtain⟨hms,hback,hsc,hap⟩:m≤ops.size∧backB ops=true∧(m<ops.size→zhq ops m=true∧zbg ops m=true)∧ziw ops m=true:=by
  simp only [drawZ,drawB,Bool.or_eq_true,Bool.and_eq_true,decide_eq_true_eq]at hB;rcases hB with⟨⟨⟨⟨h1,h2⟩,h3⟩,h4⟩,h5⟩|⟨⟨h1,h2⟩,h5⟩
  ·exact⟨by omega,h2,fun _=>⟨h3,h4⟩,h5⟩
  ·exact⟨by omega,h2,fun h=>by omega,h5⟩
 have hap:∀j o,j<m→ops[j]?=some o→(∀k,k<m→k≠j→∀d,o.dst=some d→dstIs ops k d=false)∧∀k,k<m→∀t∈o.looksAt ops,dstIs ops k t=true→zv ops j k=true:=by
  intro j o hj ho;have h1:=List.all_eq_true.1 hap j (List.mem_range.2 hj);rw [ho]at h1;have h2:∀k,k<m→((decide (k=j)||z3l ops o k)=true∧(o.looksAt ops).all (fun t=>!dstIs ops k t||zv ops j k)=true):=fun k hk=>by
   have:=List.all_eq_true.1 h1 k (List.mem_range.2 hk);simpa only [Bool.and_eq_true]using this
  refine⟨fun k hk hne d hd=>?_,fun k hk t ht hd=>?_⟩
  ·have:=(h2 k hk).1;unfold z3l at this;rw [hd]at this;simpa [hne]using this
  ·have:=List.all_eq_true.1 (h2 k hk).2 t ht;simpa [hd]using this
 intro π w tmps0 hn hm hh he;have hl1:Later w { w with drawn:=w.drawn+1 }:=⟨rfl,rfl,⟨rfl,z17 (Nat.le_succ _)⟩,Nat.le_refl _,fun _ _=>rfl⟩
 have htr1:=hl1.tr hm;have key:∀(fuel t:Nat) (listed:Array Bool) (L:List Nat) (tmps:Array Value) (w':World) (π:List Value),Lst ops m L listed→L.length+fuel=ops.size→Mem C.X π (O L) w'→Hist C.π C.objs C.w π (O L) w'→tmps.size=n →
   (∀j∈L,∀o,ops[j]?=some o→∀d,o.dst=some d→dyB DL L d=false→∃b,look envF d=some b∧RelV w' (okOf C.X π (O L)) π b (tmps.getD d undef)) →
   (∀t,(∀j,j<m→dstIs ops j t=false)→∀a,look envF t=some a→RelV w' (okOf C.X π (O L)) π a (tmps.getD t undef)) →
   Sat P f C.ds (.inRegion ops (Region.linearise.go .any ops fuel t listed [])::k) tmps w' (APost C R):=by
  have fin:∀(L:List Nat) (tmps:Array Value) (w':World) (π:List Value),(∀i,i<m→i∈L)→Mem C.X π (O L) w'→Hist C.π C.objs C.w π (O L) w'→tmps.size=n →
    (∀j∈L,∀o,ops[j]?=some o→∀d,o.dst=some d→dyB DL L d=false→∃b,look envF d=some b∧RelV w' (okOf C.X π (O L)) π b (tmps.getD d undef)) →
    (∀t,(∀j,j<m→dstIs ops j t=false)→∀a,look envF t=some a→RelV w' (okOf C.X π (O L)) π a (tmps.getD t undef)) →
    Sat P f C.ds (.inRegion ops (List.range' m (ops.size-m))::k) tmps w' (APost C R):=by
   intro L tmps w' π hall hm hh hsz hdone hrest;rw [hOF L hall]at hm hh hdone hrest;refine hK π w' tmps hsz hm hh fun u a hu0=>?_;obtain⟨hu,hud⟩:=hG u a hu0;by_cases hd:∃j,j<m∧dstIs ops j u=true
   ·obtain⟨j,hj,hd⟩:=hd;obtain⟨o,ho,hdo⟩:=zh.1 hd;obtain⟨b,hb,hr⟩:=hdone j (hall j hj) o ho u hdo (zqr hud);rw [hu]at hb;cases hb;exact hr
   ·have hd':∀j,j<m→dstIs ops j u=false:=fun j hj=>by
     cases hx:dstIs ops j u with
     | false=>rfl
     | true=>exact absurd ⟨j,hj,hx⟩ hd
    exact hrest u hd' a hu
  intro fuel;induction fuel with
  | zero=>
   intro t listed L tmps w' π hL hlen hm hh hsz hdone hrest;have hLm:=z1m hL.nd (b:=List.range m) fun y hy=>List.mem_range.2 (hL.lt y hy)
   rw [List.length_range]at hLm;have hall:∀i,i<m→i∈L:=fun i hi=>by
    apply Classical.byContradiction;intro hiL;have:=z1m (List.nodup_cons.2 ⟨hiL,hL.nd⟩) (b:=List.range m) fun y hy=>by
     rcases List.mem_cons.1 hy with rfl|hy
     ·exact List.mem_range.2 hi
     ·exact List.mem_range.2 (hL.lt y hy)
    rw [List.length_range,List.length_cons]at this;omega
   have:=fin L tmps w' π hall hm hh hsz hdone hrest;rw [show ops.size-m=0 by omega]at this;simpa [Region.linearise.go]using this
  | succ fuel ih=>
   intro t listed L tmps w' π hL hlen hm hh hsz hdone hrest;have hLm:=z1m hL.nd (b:=List.range m) fun y hy=>List.mem_range.2 (hL.lt y hy)
   rw [List.length_range]at hLm;by_cases hall:∀i,i<m→i∈L
   ·have hml:=z1m (List.nodup_range (n:=m)) (b:=L) fun y hy=>hall y (List.mem_range.1 hy)
    rw [List.length_range]at hml;have hfu:fuel+1=ops.size-m:=by omega
    obtain⟨hsink,hchain⟩:=hsc (by omega);rw [hfu];have hg:=z73 hback hchain (ops.size-m) t listed (.inl (by omega)) (by omega) hL.size (fun i hi=>by
     rw [hL.mem i hi,show ops.size-(ops.size-m)=m by omega];exact⟨fun h=>hL.lt i h,fun h=>hall i h⟩)
    rw [hg,show ops.size-(ops.size-m)=m by omega];exact fin L tmps w' π hall hm hh hsz hdone hrest
   ·have hex:∃i,i∈Region.ready .any ops listed:=by
     have hmin:∀q i,i≤q→i<m→i∉L→∃j,j<m∧j∉L∧∀j',j'<j→j'∈L:=by
      intro q;induction q with
      | zero=>intro i hi hm hL;exact⟨i,hm,hL,by omega⟩
      | succ q ihq=>
       intro i hi him hiL;by_cases hx:∃j',j'<i∧j'∉L
       ·obtain⟨j',h1,h2⟩:=hx;exact ihq j' (by omega) (by omega) h2
       ·exact⟨i,him,hiL,fun j' hj'=>Decidable.byContradiction fun h2=>hx ⟨j',hj',h2⟩⟩
     obtain⟨i,hi⟩:=Classical.not_forall.1 hall;have hi1:i<m:=Classical.byContradiction fun h=>hi fun h2=>absurd h2 h
     have hi2:i∉L:=fun h=>hi fun _=>h
     obtain⟨j,h1,h2,h3⟩:=hmin i i (Nat.le_refl _) hi1 hi2;refine⟨j,(z1v (by omega) hL).2 ⟨by omega,h2,ops[j],Array.getElem?_eq_getElem (by omega),fun e hee hb=>?_⟩⟩;have hlt:=z2g hback (Array.getElem?_eq_getElem (by omega:j<ops.size)) hee hb;exact(hL.mem e.on (by omega)).2 (h3 e.on hlt)
    rw [z8x];have hlen2:0<(Region.ready .any ops listed).length:=List.length_pos_of_mem hex.choose_spec;have hmod:t%(Region.ready .any ops listed).length<(Region.ready .any ops listed).length:=Nat.mod_lt _ hlen2;rw [List.getElem?_eq_getElem hmod];simp only;have hir:(Region.ready .any ops listed)[t%(Region.ready .any ops listed).length]∈Region.ready .any ops listed:=List.getElem_mem hmod;generalize (Region.ready .any ops listed)[t%(Region.ready .any ops listed).length]=i at hir;have him:i<m:=by
     apply Classical.byContradiction;intro hge;have hilt:i<ops.size:=((z1v (by omega) hL).1 hir).1;obtain⟨hsink,hchain⟩:=hsc (by omega);exact hall (z5f (by omega) hsink hback hL (by omega) hchain hir).2
    obtain⟨his,hiL,o,ho,hdeps⟩:=(z1v (by omega) hL).1 hir;obtain⟨ha1,ha2⟩:=hap i o him ho;have hlooks:∀u∈o.looksAt ops,∀a,look envF u=some a→RelV w' (okOf C.X π (O L)) π a (tmps.getD u undef):=by
     intro u hu a hua;by_cases hd:∃j,j<m∧dstIs ops j u=true
     ·obtain⟨j,hj,hd⟩:=hd;have hw:=ha2 j hj u hu hd;obtain⟨o2,ho2,e,hee,hb,heq⟩:=zz hw;rw [ho]at ho2;cases ho2;have hjL:=z1f hL (hdeps e hee hb);rw [heq]at hjL;obtain⟨oj,hoj,hdj⟩:=zh.1 hd;obtain⟨b,hb2,hr⟩:=hdone j hjL oj hoj u hdj (zpj hdy him ho hu hiL);rw [hua]at hb2;cases hb2;exact hr
     ·have hd':∀j,j<m→dstIs ops j u=false:=fun j hj=>by
       cases hx:dstIs ops j u with
       | false=>rfl
       | true=>exact absurd ⟨j,hj,hx⟩ hd
      exact hrest u hd' a hua
    have hL':Lst ops m (i::L) (listed.setIfInBounds i true):=by
     refine⟨by simpa using hL.size,fun j hj=>?_,List.nodup_cons.2 ⟨hiL,hL.nd⟩,fun j hj=>?_,fun j hj oj hoj e hee hb=>?_⟩
     ·by_cases e:i=j
      ·subst e;rw [show(listed.setIfInBounds i true).getD i false=true by simp [hL.size,hj]];simp
      ·rw [show(listed.setIfInBounds i true).getD j false=listed.getD j false by simp [Array.getElem?_setIfInBounds,e]];rw [hL.mem j hj,List.mem_cons];exact⟨.inr,fun h=>h.resolve_left fun h2=>e h2.symm⟩
     ·rcases List.mem_cons.1 hj with rfl|hj
      ·exact him
      ·exact hL.lt j hj
     ·rcases List.mem_cons.1 hj with rfl|hj
      ·rw [ho]at hoj;cases hoj;exact List.mem_cons_of_mem _ (z1f hL (hdeps e hee hb))
      ·exact List.mem_cons_of_mem _ (hL.cl j hj oj hoj e hee hb)
    have hdeps2:∀q,zv ops i q=true→q∈L:=by
     intro q hq;obtain⟨o2,ho2,e,hee,hb,heq⟩:=zz hq;rw [ho]at ho2;cases ho2;rw [←heq];exact z1f hL (hdeps e hee hb)
    have hcl2:∀q∈L,∀q',zv ops q q'=true→q'∈L:=by
     intro q hqL q' hq;obtain⟨o2,ho2,e,hee,hb,heq⟩:=zz hq;rw [←heq];exact hL.cl q hqL o2 ho2 e hee hb
    have next:∀(v:Value) (w2:World) (π':List Value),StepK C O envF DL L i π w' π' w2→PutOk n w2 (okOf C.X π' (O (i::L))) π' envF o v→Sat P f C.ds (.inRegion ops (Region.linearise.go .any ops fuel (t / (Region.ready .any ops listed).length) (listed.setIfInBounds i true) [])::k) (putT o.dst v tmps) w2 (APost C R):=by
     intro v w2 π' hst hput;refine ih _ _ (i::L) _ w2 π' hL' (by simp only [List.length_cons];omega) hst.mem (hst.hist hh) ?_ ?_ ?_
     ·cases hd:o.dst with
      | none=>exact hsz
      | some d=>simpa [putT]using hsz
     ·intro j hj0 oj hoj d hd hdyn;rcases List.mem_cons.1 hj0 with e|hj
      ·subst e;rw [ho]at hoj;cases hoj;obtain⟨h1,b,h2,h3⟩:=hput d hd;refine⟨b,h2,?_⟩;rw [hd,z1l,if_pos ⟨rfl,by rw [hsz];exact h1⟩];exact h3
      ·obtain⟨b,h2,h3⟩:=hdone j hj oj hoj d hd (zpk hdyn);refine⟨b,h2,?_⟩;have hne:∀d',o.dst=some d'→d'≠d:=by
        rintro d' hd' rfl;have:=ha1 j (hL.lt j hj) (fun e=>hiL (e▸hj)) d' hd';rw [zh.2 ⟨oj,hoj,hd⟩]at this;cases this
       cases hdo:o.dst with
       | none=>exact hst.keep _ _ _ h2 hdyn h3
       | some d'=>
        rw [z1l,if_neg fun hh=>hne d' hdo hh.1];exact hst.keep _ _ _ h2 hdyn h3
     ·intro u hu a hua;have h3:=hst.keep _ _ _ hua (zsh hdy hu _) (hrest u hu a hua);cases hdo:o.dst with
      | none=>exact h3
      | some d'=>
       rw [z1l,if_neg fun hh=>?_]
       ·exact h3
       ·have:=hu i him;rw [zh.2 ⟨o,ho,by rw [hdo,hh.1]⟩]at this;cases this
    rcases hops i o him ho L (fun q hq=>hL.lt q hq) hiL hdeps2 hcl2 π w' tmps hsz hm (hGk.hist hh) hlooks with⟨hw,hput⟩|⟨hw,⟨v,w2,π',hrun,hst,hput⟩|⟨w2,π',hrun,hst,hput⟩|⟨g,args,hrun,hcall⟩⟩
    ·obtain⟨π',hst,hput⟩:=hput;exact .opSkip ho hw (next undef w' π' hst hput)
    ·exact .opVal ho hw hrun (next v w2 π' hst hput)
    ·exact .opUnit ho hw hrun (next undef w2 π' hst hput)
    ·exact .opCall ho hw hrun (hcall.mono fun e w2 ⟨v,π',h1,h2,h3⟩=>⟨v,h1,next v w2 π' h2 h3⟩)
 refine .step (fun kd cs=>z60) ?_;simp only [Region.schedule,hmx,Bool.true_or,if_true];subst hO0;refine key ops.size _ _ [] tmps0 _ π ⟨by simp,fun i hi=>?_,List.nodup_nil,by simp,by simp⟩ (by simp) htr1.mem (z22 hh htr1) hn (by simp) (fun u hu a hua=>?_)
 ·simp [hi]
 ·obtain⟨b,hb,hle⟩:=henv u hu a hua;exact z2a hl1 (hle _ _ _ _ (he u b hb))
end
end Ab
namespace Ab
open Go
variable [Draws]
section
variable {P:Program}[Globals P]{T:Tab}{f:FuncId}{fn:Func}{n m:Nat}{C:Cx}{R:AV→List (Option AObj)→Prop}{todo todo' k:List Item}{env env0 env' envF:Env}{objs objs':List (Option AObj)}{nd:Prop}{ops:Array Oper}{l:List Oper}{K:Env→Prop}{X:Nat→Prop}
theorem z5a{O:List Nat→List (Option AObj)}{j:Nat}{o:Oper}{E:Env}{a:AV}{d:Nat}(hT:TabOk P T)(hw:wantE ops (restr E (o.looksAt ops)) o=.yes)(hE:∀t∈o.looksAt ops,∀b,look E t=some b→look envF t=some b)
  (hs:∀L,pstep T o (restr E (o.looksAt ops)) (O L)=.ok a) (hO:∀L,O (j::L)=O L) (hdst:o.dst=some d) (hdn:Nat.blt d n=true) (hlook:look envF d=some a):HeadH P n C O m ops envF j o:=by
 refine z9u (fun L=>hO L) fun L=>?_;intro π w tmps hsz hm hgk hlk;have he:z13 w (okOf C.X π (O L)) π (restr E (o.looksAt ops)) tmps:=fun t b ht=>by
  obtain⟨h1,h2⟩:=z12 ht;exact hlk t h1 b (hE t h1 b h2)
 have hdo:=z3c (ds:=[]) hT hm he o;rw [hs L]at hdo;obtain⟨v,d1,d2⟩:=hdo;refine .inr ⟨(zm he).1 hw,.inl ⟨v,w,d2 w (.refl w),.refl w,fun d' hd=>?_⟩⟩;rw [hdst]at hd;cases hd;exact⟨by simpa [Nat.blt_eq]using hdn,a,hlook,d1⟩
theorem zmf{O O1:List Nat→List (Option AObj)}{DL:List (Tmp×Nat)}{j p d s:Nat}{e:TypeId}{xs:List D}{rd:Nat→D}{o:Oper}{E:Env}{c:Option Prop}(hT:TabOk P T)(hw:wantE ops (restr E (o.looksAt ops)) o=.yes)(hE:∀t∈o.looksAt ops,∀b,look E t=some b→look envF t=some b)
  (hs:∀L,j∉L→(∀q,zv ops j q=true→q∈L)→estep T o (restr E (o.looksAt ops)) (O L)=some ⟨c,false,.gs p,some p,O1 L⟩) (hc:cond c)
  (hg:∀L,j∉L→(∀q,zv ops j q=true→q∈L)→nth (O1 L) p=some (some (.grow e s xs rd))) (hO:∀L,j∉L→(∀q,zv ops j q=true→q∈L)→O (j::L)=frzO p (.sl s xs rd) 0 (O1 L))
  (hfz:∀t a,look envF t=some a→dyB DL [j] t=false→(a.drop p).frz p (.sl s xs rd)=a)
  (hdst:o.dst=some d) (hdn:Nat.blt d n=true) (hlook:look envF d=some (.d (.sl s xs rd))):HeadK P n C O m ops envF DL j o:=by
 intro L _ hjL hdeps _ π w tmps hsz hm hgk hlk;have he:z13 w (okOf C.X π (O L)) π (restr E (o.looksAt ops)) tmps:=fun t b ht=>by
  obtain⟨h1,h2⟩:=z12 ht;exact hlk t h1 b (hE t h1 b h2)
 have hst:=z3v (ds:=[]) hT hm he o;rw [hs L hjL hdeps]at hst;obtain⟨v,w',π',h1,h2,h3⟩:=hst hc;have h3:=h3 rfl;have fz:∀(a:AV) (u:Value),RelV w' (okOf C.X π' (O1 L)) π' a u→Mem C.X π' (frzO p (.sl s xs rd) 0 (O1 L)) w'∧Hist π' (O1 L) w' π' (frzO p (.sl s xs rd) 0 (O1 L)) w'∧RelV w' (okOf C.X π' (frzO p (.sl s xs rd) 0 (O1 L))) π' (a.frz p (.sl s xs rd)) u:=by
  intro a u hu;obtain⟨q1,q2,_,q3⟩:=zb8 (C:=⟨C.X,π',O1 L,w',[],fun _=>False⟩) (env:=[]) (tmps:=#[]) p (hg L hjL hdeps) h2.mem (Hist.refl _ _ _) (fun t a ht=>by simp [look]at ht) (.cons hu .nil);cases q3 with|cons q3 _=>exact⟨q1,q2,q3⟩
 obtain⟨m1,m2,m3⟩:=fz _ _ h3;refine .inr ⟨(zm he).1 hw,.inl ⟨v,w',π',h1,⟨by rw [hO L hjL hdeps];exact m1,fun hh=>by rw [hO L hjL hdeps];exact(hh.trans h2.hist).trans m2,fun t a u ht hdy hu=>?_⟩,fun d' hd'=>?_⟩⟩
 ·have k1:=h2.keep a u hu;have k2:=(fz _ _ k1).2.2;have:dyB DL [j] t=false:=by
   unfold dyB at hdy ⊢;rw [List.any_eq_false]at hdy ⊢;intro x hx hxx;refine hdy x hx ?_;rw [Bool.and_eq_true]at hxx ⊢;exact⟨hxx.1,z89.2 (by have:=z89.1 hxx.2;rw [List.mem_singleton]at this;rw [this];exact List.mem_cons_self ..)⟩
  rw [show keepQ (some p) a=a.drop p from rfl,hfz t a ht this]at k2;rw [hO L hjL hdeps];exact k2
 ·rw [hdst]at hd';cases hd';refine⟨by simpa [Nat.blt_eq]using hdn,_,hlook,?_⟩;rw [hO L hjL hdeps];simpa [AV.frz]using m3
theorem zfd:∀{env:Env} {t:Tmp} {a:AV},look env t=some a→(t,a)∈env
 | [],_,_,h=>by simp [look]at h
 | (k,b)::r,t,a,h=>by
  simp only [look]at h;split at h
  ·rename_i e;have e2:k=t:=by simpa using e
   cases h;subst e2;exact List.mem_cons_self ..
  ·exact List.mem_cons_of_mem _ (zfd h)
theorem zsc{env:Env}{DL:List (Tmp×Nat)}{j p:Nat}{v:D}(h:∀x∈env,dyB DL [j] x.1=false→(x.2.drop p).frz p v=x.2):∀t a,look env t=some a→dyB DL [j] t=false→(a.drop p).frz p v=a:=fun t a h1 h2=>h _ (zfd h1) h2
def zcp(DL:List (Tmp×Nat)):Env→Env
 | []=>[]
 | (t,a)::r=>match DL.any fun y=>Nat.beq y.1 t with|true=>zcp DL r|false=>(t,a)::zcp DL r
theorem z7r{DL:List (Tmp×Nat)}:∀{env:Env} {u:Tmp} {a:AV},look (zcp DL env) u=some a→look env u=some a∧∀x∈DL,x.1≠u
 | [],_,_,h=>by simp [zcp,look]at h
 | (t,b)::r,u,a,h=>by
  simp only [zcp]at h;split at h
  ·rename_i hd;obtain⟨h1,h2⟩:=z7r h;refine⟨?_,h2⟩;simp only [look];split
   ·rename_i e;obtain⟨y,hy,hyt⟩:=List.any_eq_true.1 hd;have e1:y.1=t:=Nat.eq_of_beq_eq_true hyt;have e2:t=u:=by simpa using e
    exact absurd (e1.trans e2) (h2 y hy)
   ·exact h1
  ·rename_i hd;simp only [look]at h ⊢;split at h
   ·rename_i e;have e2:t=u:=by simpa using e
    subst e2;refine⟨h,fun x hx e1=>?_⟩;rw [List.any_eq_false]at hd;exact hd x hx (by simp [e1])
   ·exact z7r h
theorem zkv(m kk:Nat)(A:Acts)(DL:List (Tmp×Nat))(O:List Nat→List (Option AObj))(E:Env){id:Nat}{objsF:List (Option AObj)}(hT:TabOk P T)(hf:P.funcs[f]?=some fn)(hmx:P.follows .mixedOrders=true)(h:srun T n fn.results.toList 2000 True todo env objs=.draw nd id ops k env' objs')(hn:nd)
  (hB:drawZ ops m=true) (hsee:seeB ops m A=true) (hO0:O []=objs'++List.replicate kk (some HD)) (hOF:∀L,(∀i,i<m→i∈L)→O L=objsF) (hOj:∀j L,actB A j=false→O (j::L)=O L)
  (hAm:(A.all fun x=>Nat.blt x.1 m)=true) (hdy:dyOk ops m DL=true) (hD:∀L,DSat P n C.X (O L) ops (fun x=>x=E) (zx ops m A) env')
  (hA:∀x∈A,∃oe,ops[x.1]?=some oe∧oe.dst=x.2.map (·.1)∧HeadK P n C O m ops (actE A++E) DL x.1 oe)
  (hk:ASat P f n C (.inRegion ops (List.range' m (ops.size-m))::k) (zcp DL (actE A++E)) objsF R) (hGk:GOk P C.π C.objs C.w:=by with_reducible assumption):ASat P f n C todo env objs R:=by
 have hq:∀{j:Nat} {o:Oper},j<m→actB A j=false→ops[j]?=some o→o∈zx ops m A:=by
  intro j o hj hb ho;unfold zx;rw [List.mem_filterMap];exact⟨j,List.mem_filter.2 ⟨List.mem_range.2 hj,by rw [hb];rfl⟩,ho⟩
 have hns:∀{j:Nat} {o:Oper},j<m→actB A j=false→ops[j]?=some o→∀x∈actE A,x.1∉o.looksAt ops∧o.dst≠some x.1:=by
  intro j o hj hb ho x hx;have h1:=List.all_eq_true.1 hsee j (List.mem_range.2 hj);rw [hb,ho]at h1;have h1':((actE A).all fun x=>!(o.looksAt ops).contains x.1&&o.dst !=some x.1)=true:=by simpa only [Bool.false_or]using h1
  have h2:=List.all_eq_true.1 h1' x hx;simpa using h2
 suffices hcc:Cont P f n C R (.draw nd id ops k env' objs')from(z1j hT hf 2000 True todo env objs (by rw [h];exact hcc)).2
 refine⟨hn,zkr kk (zfs (envF:=actE A++E) (DL:=DL) hmx hB ?_ hdy (fun u a hu=>z7r hu) hO0 hOF ?_ hk)⟩
 ·intro j o hj ho;cases hb:actB A j with
  | false=>
   refine HeadH.toK DL (z9u (fun L=>hOj j L hb) fun L=>?_);obtain⟨E0,a1,a2,a3,rfl⟩:=hD L;have hn2:=hns hj hb ho;refine z8w (fun t ht=>z2k fun x hx e=>(hn2 x hx).1 (e▸ht)) (fun d hd=>z2k fun x hx e=>(hn2 x hx).2 (e▸hd)) (a3 o (hq hj hb ho))
  | true=>
   obtain⟨x,hx,hxe⟩:=List.any_eq_true.1 hb;obtain rfl:x.1=j:=Nat.eq_of_beq_eq_true hxe;obtain⟨oe,h1,_,h3⟩:=hA x hx;rw [ho]at h1;cases h1;exact h3
 ·intro t ht a ha;have hne:∀x∈actE A,x.1≠t:=by
   rintro x hx rfl;obtain⟨y,hy,hyx⟩:=List.mem_filterMap.1 hx;obtain⟨oe,h1,h2,_⟩:=hA y hy;rw [hyx]at h2;have hym:=List.all_eq_true.1 hAm y hy;have:=ht y.1 (by simpa [Nat.blt_eq]using hym);rw [zh.2 ⟨oe,h1,by simpa using h2⟩]at this;cases this
  rw [z2k hne]at ha;obtain⟨E0,a1,a2,a3,rfl⟩:=hD [];refine a1 t (fun o ho hd=>?_) a ha;unfold zx at ho;rw [List.mem_filterMap]at ho;obtain⟨j,hj,ho⟩:=ho;have hj:=List.mem_range.1 (List.mem_filter.1 hj).1;have:=ht j hj;rw [zh.2 ⟨o,ho,hd⟩]at this;cases this
end
end Ab
namespace Ab
open Go
variable [Draws]
def znz(P:Program)[Globals P](f:FuncId)(az:List AV)(objs:List (Option AObj))(R:AV→List (Option AObj)→Prop)(Pn:D→Prop):Prop:=
 ∀X π w vs,GOk P π objs w→Mem X π objs w→RelVs w (okOf X π objs) π az vs→Invokes P f vs.toArray w (APost ⟨X,π,objs,w,[],Pn⟩ R)
theorem znz.mono{P:Program}[Globals P]{f:FuncId}{az:List AV}{objs:List (Option AObj)}{R R':AV→List (Option AObj)→Prop}{Pn Pn':D→Prop}(h:znz P f az objs R Pn)(hr:∀r o,R r o→R' r o)(hp:∀x,Pn x→Pn' x):znz P f az objs R' Pn':=
 fun X π w vs g m hv=>(h X π w vs g m hv).mono fun e w' hq=>hq.imp (fun⟨v,r,o,π',h1,h2,h3⟩=>⟨v,r,o,π',h1,hr _ _ h2,h3⟩) (fun⟨v,x,o,π',h1,h2,h3⟩=>⟨v,x,o,π',h1,hp _ h2,h3⟩)
section
variable {P:Program}[Globals P]{T:Tab}{f:FuncId}{fn:Func}{n:Nat}{C:Cx}{R:AV→List (Option AObj)→Prop}{todo todo':List Item}{env env':Env}{objs objs':List (Option AObj)}{nd:Prop}
end
end Ab
namespace Ab
open Go
variable [Draws]
section
variable {P:Program}[Globals P]{T:Tab}{f:FuncId}{fn:Func}{n:Nat}{C:Cx}{R:AV→List (Option AObj)→Prop}{todo todo' k:List Item}{env env':Env}{objs objs':List (Option AObj)}{nd:Prop}
end
section
variable {P:Program}[Globals P]
end
end Ab
namespace Ab
open Go
variable [Draws]
section
variable {P:Program}[Globals P]{T:Tab}{f:FuncId}{fn:Func}{n:Nat}{C:Cx}{R:AV→List (Option AObj)→Prop}{todo todo' k:List Item}{env env':Env}{objs objs':List (Option AObj)}{nd:Prop}
end
end Ab
namespace Ab
open Go
end Ab
namespace Ab
open Go
variable [Draws]
theorem VLe.dead{a:AV}:VLe a .dead:=fun _ _ _ _ _=>.dead
theorem VLe.tp{cs ds:List AV}(h:VLs cs ds):VLe (.tp cs) (.tp ds):=by
 intro w ok π v hv;cases hv with
 | tp h1=>exact .tp (h.rel h1)
end Ab
namespace Ab
open Go
variable [Draws]
section
variable {P:Program}[Globals P]{T:Tab}{f:FuncId}{fn:Func}{n:Nat}{C:Cx}{R:AV→List (Option AObj)→Prop}{todo k:List Item}{env env':Env}{objs:List (Option AObj)}{nd:Prop}{ops:Array Oper}
theorem zks(e:TypeId)(s:Nat)(rd:Nat→D)(kk:ASat P f n C todo env (objs++[some (.grow e s [] rd)]) R):ASat P f n C todo env objs R:=by
 intro π w tmps hn hm hh he;have htr:Tr C.X π objs w none (π++[.slice none 0 0]) (objs++[some (.grow e s [] rd)]) w:=z4r hm rfl rfl ⟨rfl,z17 (Nat.le_refl _)⟩ (Nat.le_refl _) (fun _ _=>rfl) _ _ (by intro b e;cases e) .gnil;exact kk _ w tmps hn htr.mem (z22 hh htr) (z5c he htr)
theorem zj7(i q j:Nat){e e':TypeId}{cs:List AV}{s:Nat}{rd:Nat→D}(hij:i≠j)(ho:nth objs i=some (some (.cells e cs)))(hc:nth (AV.drops j cs) q=some (.d (.v (.slice none 0 0))))(hj:nth objs j=some (some (.grow e' s [] rd)))
  (kk:ASat P f n C todo (z4v j env) (za (za (dropO j objs) j (some (.grow e' s [] rd))) i (some (.cells e (za (AV.drops j cs) q (.gs j))))) R):ASat P f n C todo env objs R:=by
 intro π w tmps hn hm hh he;obtain⟨h,hp,hrel⟩:=hm.obj j _ hj;have hsl:isSl h=true:=by cases hrel<;>rfl
 have htr:Tr C.X π objs w (some j) (za π j (.slice none 0 0)) (za (dropO j objs) j (some (.grow e' s [] rd))) w:=
  z4y hm hj hp hsl rfl rfl ⟨rfl,z17 (Nat.le_refl _)⟩ (Nat.le_refl _) (fun _ _ _=>rfl) (by intro b e;cases e) .gnil
 have hm1:=htr.mem;have hdrop:∀(l:List (Option AObj)) (i:Nat),nth l i=some (some (.cells e cs))→nth (dropO j l) i=some (some (.cells e (AV.drops j cs))):=by
  intro l;induction l with
  | nil=>intro i h;simp [nth]at h
  | cons a r ih=>
   intro i h;cases i with
   | zero=>
    simp only [nth,Option.some.injEq]at h;subst h;rfl
   | succ i=>
    have:=ih i (by simpa [nth]using h);cases a<;>simpa [dropO,nth]using this
 have ho1:nth (za (dropO j objs) j (some (.grow e' s [] rd))) i=some (some (.cells e (AV.drops j cs))):=by
  rw [z3s hij];exact hdrop objs i ho
 obtain⟨h',h5,h6⟩:=hm1.obj i _ ho1;cases h6 with
 | cells hb hcs hf=>
  rename_i b vs;obtain⟨v,hv1,hv2⟩:=hcs.get hc;have hv3:v=.slice none 0 0:=by cases hv2 with|d h=>cases h;rfl
  subst hv3;have htr2:=zeh (o':=.cells e (za (AV.drops j cs) q (.gs j))) hm1 ho1 h5 (b:=b) rfl rfl rfl ⟨rfl,z17 (Nat.le_refl _)⟩ rfl (fun _ _=>rfl) ?_
  ·exact kk _ w tmps hn htr2.mem (z22 (z22 hh htr) htr2) (z5c (z5c he htr) htr2)
  ·have hrel:=hcs.set q (x:=.gs j) (v:=.slice none 0 0) (.gs (z1g hp));have hvs:vs.set q (.slice none 0 0)=vs:=by
    have:=z6e (l:=vs) (i:=q) (x:=.slice none 0 0) (by rw [z1k];exact hv1);rwa [z1t]at this
   rw [hvs]at hrel;exact .cells hb (hrel.mono (fun c off u h1 h2=>⟨(zdl ho1 c).2 h1,h2⟩) (fun _ _ h=>h)) hf
theorem zj8{i:Nat}{r:List Nat}{o:Oper}{e2:Env}{xo yo:Operand}{t t2 e:TypeId}{inf:TypeInfo}(ho:ops[i]?=some o)(hw:wantE ops env o=.yes)(hop:o.op=.call { callee:=.builtin .append,args:=#[xo,yo],argTypes:=#[t,t2] })
  (hx:opnd env xo=some (.d (.v (.slice none 0 0)))) (hy:opnd env yo=some (.d (.v (.string ⟨#[]⟩)))) (ht:P.underlying t=some (.slice e)) (ht2:P.underlying t2=some .string) (hi:P.info? e=some inf) (hput:putE n o.dst (.d (.v (.slice none 0 0))) env=some e2)
  (h:ASat P f n C (.inRegion ops r::k) e2 objs R):ASat P f n C (.inRegion ops (i::r)::k) env objs R:=by
 refine z4z (.d (.v (.slice none 0 0))) ho hw (fun X π w tmps m he=>?_) hput h;have hax:=z49 (P:=P) he hx;have hay:=z49 (P:=P) he hy;have hrun:=z3r (P:=P) (w:=w) (w':=w) (t:=t) (t2:=t2) (ty:=o.type) (rest:=[]) ht (.inr ht2) hi (A:=none) (n:=0) (c:=0) (m:=0) (x:=.string ⟨#[]⟩) (us:=[]) (fun w'=>by simp [Builtin.lenOf];rfl) (by omega) (by simp [Builtin.firstCells]) (by simp);refine⟨.slice none 0 0,?_,.d (.v rfl)⟩;unfold execOp;simp only [hop];have hrun':(Builtin.append_ #[t,t2] o.type #[.slice none 0 0,.string ⟨#[]⟩]).run P w=.ok (.slice none 0 0) w:=hrun;simp [resolve,invoke,builtin,hax,hay,hrun']
end
end Ab
namespace Go.Proofs.YtbodbhpdelgpnaaGreatDoor
open Go Ab
@[reducible] def bld(i j:Nat)(a:Bool):List UInt8→AObj
 | []=>.cells 100 [match a with|true=>.ptr i 0|false=>.d (.v (.pointer none)),nilS]
 | _::_=>.cells 100 [.ptr i 0,.gs j]
theorem znd(ρ:Nat→Nat)(i j:Nat)(a:Bool)(bs:List UInt8):(bld i j a bs).ren ρ=bld (ρ i) (ρ j) a bs:=by
 cases bs with
 | nil=>cases a<;>rfl
 | cons b r=>rfl
theorem zpz{i j m:Nat}(hi:i<m)(hj:j<m)(a:Bool)(bs:List UInt8):z6a m (bld i j a bs)=true:=by
 have h1:Nat.blt i m=true:=by simpa [Nat.blt_eq]using hi
 have h2:Nat.blt j m=true:=by simpa [Nat.blt_eq]using hj
 cases bs with
 | nil=>cases a<;>simp [z6a,refsBs,refsB,h1,bld]
 | cons b r=>simp [z6a,refsBs,refsB,h1,h2,bld]
@[reducible] def vStr(l:List UInt8):AV:=.d (.v (.string ⟨l.toArray⟩))
theorem zbj(a:Bool)(bs:List UInt8):refsO 2 [some (bld 0 1 a bs),some (gB bs)]=true:=by
 simp only [refsO,zpz (show 0<2 by decide) (show 1<2 by decide)];rfl
@[reducible] def wsR(s:List UInt8):AV:=.tp [vI .i64 (s.length:Int),.d (.v .nilIface)]
theorem zbi(a b:List UInt8):(⟨a.toArray⟩:ByteArray)++⟨b.toArray⟩=⟨(a++b).toArray⟩:=by
 apply ByteArray.ext;simp
theorem zel(s:List UInt8):(strEs ⟨s.toArray⟩).length=s.length:=by simp [strEs]
theorem zqx(s:List UInt8):vI .i64 (((⟨s.toArray⟩:ByteArray).size:Nat):Int)=vI .i64 (s.length:Int):=by
 rw [show(⟨s.toArray⟩:ByteArray).size=s.length by simp [ByteArray.size]]
theorem znp(a:Bool)(bs s:List UInt8)(hl:bs.length≤100000000)(hs:s.length≤100000000):ACall Tryz.prog 58 [.ptr 0 0,vStr s] [some (bld 0 1 a bs),some (gB bs)] (fun r o=>r=wsR s∧o=[some (bld 0 1 true (bs++s)),some (gB (bs++s))]):=by
 refine yN Tryz.func58 fun C hC hCl hDs hGk=>?_;cases bs with
 | nil=>
  cases a;all_goals
   first
   |refine yG [0] Tryz.func58 rfl trivial (z74 false) ⟨⟨_,rfl,.refl _⟩,trivial⟩ (.refl _) ?_
   |refine yG [0] Tryz.func58 rfl trivial (z74 true) ⟨⟨_,rfl,.refl _⟩,trivial⟩ (.refl _) ?_
   rintro r o ⟨rfl,rfl⟩;cases s with
   | nil=>
    refine yX 9 Tryz.func58 rfl trivial ?_;refine zj8 rfl rfl rfl rfl rfl Tryz.underlying43 Tryz.underlying9 (by rfl) rfl ?_;refine yL Tryz.func58 rfl trivial (.of ?_) (oAl rfl) ⟨rfl,rfl⟩ (o2:=[some (bld 0 1 true []),some (gB [])]);rfl
   | cons c s=>
    refine zj7 0 1 1 (by decide) rfl rfl rfl ?_;refine yL Tryz.func58 rfl ?nd (.of ?_) ⟨.refl _,.gL ?_,trivial⟩ ⟨rfl,rfl⟩ (o2:=[some (bld 0 1 true (c::s)),some (gB (c::s))]);case nd=>
     show(0+(strEs ⟨(c::s).toArray⟩).length)*1≤140737488355328∧True;rw [zel];exact⟨by omega,trivial⟩
    ·show AV.tp [vI .i64 (((⟨(c::s).toArray⟩:ByteArray).size:Nat):Int),_]=_;rw [zqx]
    ·rfl
 | cons b bs=>
  refine yW [0,1] Tryz.func58 rfl trivial (zcs (b::bs)) ⟨⟨_,rfl,.refl _⟩,⟨_,rfl,.refl _⟩,trivial⟩ (.refl _) ?_;refine yL Tryz.func58 rfl ?nd (.of ?_) ⟨.refl _,.gL ?_,trivial⟩ ⟨rfl,rfl⟩ (o2:=[some (bld 0 1 true (b::bs++s)),some (gB (b::bs++s))])
  ·show(((b::bs).map eU8).length+(strEs ⟨s.toArray⟩).length)*1≤140737488355328∧True;rw [zel,List.length_map];exact⟨by omega,trivial⟩
  ·show AV.tp [vI .i64 (((⟨s.toArray⟩:ByteArray).size:Nat):Int),_]=_;rw [zqx]
  ·rw [List.map_append];rfl
theorem zny(a:Bool)(bs:List UInt8):ACall Tryz.prog 59 [.ptr 0 0] [some (bld 0 1 a bs),some (gB bs)] (fun r o=>r=vStr bs∧o=[none,none]):=by
 cases bs with
 | cons b bs=>exact z9i (b::bs) (by simp)
 | nil=>
  refine yN Tryz.func59 fun C hC hCl hDs hGk=>?_;cases a;all_goals
   refine yO 10 Tryz.func59 rfl trivial ?_;refine z2z 4 tabOk rfl trivial ?_;refine zjw rfl Tryz.underlying139 rfl rfl rfl rfl rfl ?_;refine yq rfl trivial ?_;refine zg8 rfl rfl rfl rfl rfl rfl ?_;exact yL Tryz.func59 rfl trivial (.refl _) trivial ⟨rfl,rfl⟩ (o2:=[none,none])
end Go.Proofs.YtbodbhpdelgpnaaGreatDoor
namespace Go.Proofs.YtbodbhpdelgpnaaGreatDoor
open Go Ab Go.RowKit
@[reducible] def bldT(a:Bool)(bs:List UInt8):List (Option AObj):=[some (bld 0 1 a bs),some (gB bs)]
theorem zho{objs:List (Option AObj)}{i j:Nat}{a:Bool}{bs:List UInt8}(h1:nth objs i=some (some (bld i j a bs)))(h2:nth objs j=some (some (gB bs))):subR (rho [i,j] objs.length) objs [i,j] [some (bld 0 1 a bs),some (gB bs)]:=by
 refine⟨⟨_,h1,?_⟩,⟨_,h2,.refl _⟩,trivial⟩;rw [znd];exact .refl _
theorem zb1:∀(l:List (List UInt8)) (k:Nat) (s:List UInt8),z1i k (l++[s])=z1i k l++rowT (k+l.length) s
 | [],k,s=>by simp [z1i]
 | x::l,k,s=>by
  rw [List.cons_append,z1i,z1i,zb1 l (k+1) s,List.append_assoc,List.length_cons,show k+1+l.length=k+(l.length+1)by omega]
theorem zgp(l:List (List UInt8))(h:∀s∈l,s.length≤200)(hl:l.length≤1000)(i:Nat):(z1i 0 (l.take i)).length≤223000:=by
 have h1:=z6x (l.take i) 0 (fun s hs=>h s (List.mem_of_mem_take hs)) (by rw [List.length_take];omega);rw [List.length_take]at h1;omega
theorem zrh(i:Nat)(s:List UInt8):rowT i s=tItoa (i:Int)++[32]++s++[10]:=by
 unfold rowT;simp [List.append_assoc]
theorem sizeL(l:List UInt8):(⟨l.toArray⟩:ByteArray).size=l.length:=by
 show l.toArray.size=l.length;simp
theorem zcf(l:List (List UInt8))(hA:∀s∈l,s.length≤200)(hl:l.length≤1000):ACall Tryz.prog 26 [.d (eSs l)] [] (fun r o=>r=vStr (z1i 0 l)):=by
 refine yN Tryz.func26 fun C hC hCl hDs hGk=>?_;refine yX 7 Tryz.func26 rfl trivial ?_;refine zks 5 1 (fun i=>eU8 (([]:List UInt8).getD i 0)) ?_;refine yS Tryz.func26 rfl trivial ?_;have hlim:=zgp l hA hl;refine z8 (α:=Nat×Bool) (fun s=>[(3,.ptr 0 0),(6,.d (eSs l)),(7,vI .i64 l.length),(8,vI .i64 (s.1:Int))]) (fun s=>bldT s.2 (z1i 0 (l.take s.1))) (fun s=>s.1≤l.length) (fun s=>l.length-s.1) (0,false) (Nat.zero_le _) ?_ ?_
 ·exact fun h=>yE h ⟨erl rfl,erl rfl,⟨_,rfl,.of (by rw [List.length_map])⟩,erl rfl,trivial⟩ (oAl rfl)
 rintro⟨i,a⟩ hi ih;simp only at hi ih ⊢;refine yB Tryz.func26 rfl trivial (fun h=>?_) (fun h=>?_);rotate_left
 ·have h:decide ((i:Int)<(l.length:Int))=false:=h;rw [decide_eq_false_iff_not]at h;obtain rfl:i=l.length:=by omega
  rw [List.take_length];refine yW [0,1] Tryz.func26 rfl trivial (zny a (z1i 0 l)) (zho rfl rfl) (.refl _) ?_ (hro:=zbj _ _);exact yR Tryz.func26 rfl trivial rfl
 have h:decide ((i:Int)<(l.length:Int))=true:=h;rw [decide_eq_true_eq]at h;have hlt:i<l.length:=by omega
 have eg:l.getD i []=l[i]:=by simp [hlt]
 have hs:=hA _ (List.getElem_mem hlt);have hT0:=hlim i;have hi10:=z7s (l:=(i:Int)) (by omega) (by omega);have hnext:z1i 0 (l.take (i+1))=z1i 0 (l.take i)++rowT i (l.getD i []):=by
  rw [List.take_succ_eq_append_getElem hlt,zb1,←eg,Nat.zero_add,List.length_take,Nat.min_eq_left (by omega)]
 rw [zrh]at hnext;rw [←eg]at hs;have ih:=fun a2=>ih (i+1,a2) (show i+1≤l.length by omega) (show l.length-(i+1)<l.length-i by omega)
 simp only [hnext]at ih;generalize z1i 0 (l.take i)=T0 at *;generalize hsi:l.getD i []=s at *;refine yV Tryz.func26 rfl (by simp [andP]<;>omega) (z6p (i:Int) (by omega) (by omega)) (.refl _) ?_;generalize tItoa (i:Int)=n at *;refine yW [0,1] Tryz.func26 rfl ?_ (znp a T0 (n++[32]++s++[10]) (by omega) (by simp only [List.length_append,List.length_cons,List.length_nil];omega)) (zho rfl rfl) ⟨.refl _,.of ?_,trivial⟩ ?_ (hro:=zbj _ _)
 ·rw [Int.toNat_natCast,hsi];simp only [zbi,sizeL,List.length_append,List.length_cons,List.length_nil];exact⟨by omega,by omega,by omega,trivial⟩
 ·show vStr _=vStr _;rw [Int.toNat_natCast,hsi];simp only [zbi]
 refine yS Tryz.func26 rfl trivial ?_;exact yE (ih true) ⟨erl rfl,erl rfl,erl rfl,erw rfl,trivial⟩ ⟨.of (znd _ _ _ _ _),.refl _,trivial⟩ (hro:=zbj _ _)
theorem joinX:Go.Proofs.Builder.Extra Tryz.prog Tryz.joinL_ren:={
 sizeBuilder:=by kernel_rfl
 liesBuilder:=by kernel_rfl
 t5:=Tryz.underlying5
 a5:=Tryz.isAgg5
 z5:=Tryz.sizeOf5
 v5:=Tryz.zeroValue5
 infoByte:=by kernel_rfl
 cellsByte:=by kernel_rfl
 sizeByte:=by kernel_rfl
 neB5:=by decide }
theorem znv(xs:List (List UInt8))(sep:List UInt8)(hne:xs≠[])(hN:xs.length≤1000000)(hl:(Go.Lib.join xs sep).length≤140737488355328):ACall Tryz.prog 27 [.d (eL 1 (fun x:List UInt8=>.v (.string ⟨x.toArray⟩)) [] xs),vTx sep] [] (fun r o=>r=vTx (Go.Lib.join xs sep)):=by
 intro X π w us hgk m hv;refine .inl ⟨zb Tryz.func27 rfl rfl _ _,?_⟩;cases hv with|cons hv ht=>cases ht with|cons hv2 ht=>cases ht with|nil=>
 cases hv2 with|d hv2=>cases hv2 with|v _=>
 cases hv with|d hv=>
 have hv':RelD w (okOf X π []) (.sl 1 (xs.map fun x=>D.v (.string ⟨x.toArray⟩)) (fun i=>D.v (Value.string ⟨(xs.getD i []).toArray⟩))) _:=hv;generalize hxs:(xs.map fun x=>D.v (Value.string ⟨x.toArray⟩))=ys at hv';cases hv' with
 | nil hb=>exact absurd (List.map_eq_nil_iff.1 hxs) hne
 | sl he hm hc hb hr=>
  rename_i b o c us;subst hxs;obtain rfl:=zde (enc:=fun x:List UInt8=>Value.string ⟨x.toArray⟩) he;have hcell:∀(j:Nat) x,(xs.map fun x=>(⟨x.toArray⟩:ByteArray))[j]?=some x→w.cell? ⟨b,o+j,none⟩=some (.string x):=by
   intro j x hj;rw [List.getElem?_map]at hj;obtain⟨y,hy,rfl⟩:=Option.map_eq_some_iff.1 hj;have hjl:=(List.getElem?_eq_some_iff.1 hy).1;rw [(hm j (by simpa using hjl)).2,List.getElem?_map,hy];rfl
  have hpos:0<xs.length:=List.length_pos_iff.2 hne;have hb0:b<w.heap.size:=z32 (hcell 0 _ (by rw [List.getElem?_map,List.getElem?_eq_getElem hpos];rfl));have hmm:(xs.map fun x=>(⟨x.toArray⟩:ByteArray)).map (·.data.toList)=xs:=by
   rw [List.map_map]
   conv=>rhs;rw [←List.map_id xs]
   exact List.map_congr_left fun x _=>rfl
  have hcall:=Any.strings_Join Tryz.joinL joinX b o c (xs.map fun x=>(⟨x.toArray⟩:ByteArray)) ⟨sep.toArray⟩ w hcell hb0 (by rw [List.length_map];omega) (by rw [List.length_map];simpa using hc) (by rw [hmm];exact hl);rw [hmm,List.length_map]at hcall;have hll:(xs.map fun x=>D.v (Value.string ⟨x.toArray⟩)).length=xs.length:=by simp
  rw [hll];refine Calls.mono hcall ?_;rintro e w' ⟨rfl,bl⟩;have t:=z3b m bl.os bl.tape ⟨bl.output,Nat.le_refl _⟩ bl.size bl.block;exact⟨_,_,[],π,rfl,rfl,t.mem,.d (.v rfl),t.hist⟩
@[reducible] def prW(h:Sh)(t:Wt):AV:=if z28 h t=true then tupOf [vTx (wtT t),vI .i64 0]else tupOf [vTx [],vI .i64 1]
def z9d(t:Wt):List (List UInt8):=[kSat,tItoa t.bad,z58,z1i 0 t.init]
def z3g:Nat→List (List (List UInt8))→List (List UInt8)
 | _,[]=>[]
 | k,l::r=>[[64]++tItoa (k:Int)++[10],z1i 0 l]++z3g (k+1) r
theorem zao:∀(r:List (List (List UInt8))) (k:Nat) (l:List (List UInt8)),z3g k (r++[l])=z3g k r++[[64]++tItoa ((k+r.length:Nat):Int)++[10],z1i 0 l]
 | [],k,l=>by simp [z3g]
 | x::r,k,l=>by
  rw [List.cons_append,z3g,z3g,zao r (k+1) l,←List.append_assoc,List.length_cons,show k+1+r.length=k+(r.length+1)by omega]
theorem zap:∀(r:List (List (List UInt8))) (k:Nat),(z3g k r).flatten=z2e k r
 | [],k=>rfl
 | x::r,k=>by
  rw [z3g,List.flatten_append,zap r (k+1),z2e,z78];simp
theorem zm5(x:List UInt8)(r:List (List UInt8)):Go.Lib.join (x::r) []=(x::r).flatten:=by
 rw [Go.Lib.join_cons,Go.Lib.joinTail,show(fun y:List UInt8=>[]++y)=id from rfl,List.map_id,List.flatten_cons]
theorem zea(t:Wt):Go.Lib.join (z9d t++z3g 0 t.ins++[kEnd]) []=wtT t:=by
 unfold z9d;rw [List.cons_append,List.cons_append,zm5,wtT];simp [zap,List.append_assoc]
theorem z7b(l:List Nd)(hm:MdB l)(ty:Ty l)(t:Wt)(sm:SmW t 1000):ACall Tryz.prog 11 [.d (eBt l),.d (eWt t)] [] (fun r o=>r=prW (shL l) t):=by
 refine yN Tryz.func11 fun C hC hCl hDs hGk=>?_;refine yV Tryz.func11 rfl trivial (z7a l hm ty t (fun s hs=>by have:=sm.r s hs;omega) (fun f hf s hs=>by have:=(sm.l f hf).2 s hs;omega)) (.refl _) ?_;unfold prW;cases hr:z28 (shL l) t with
 | false=>
  refine yT Tryz.func11 rfl trivial ?_;exact yR Tryz.func11 rfl trivial rfl
 | true=>
  refine yF Tryz.func11 rfl trivial ?_;obtain⟨⟨b0,b1,n0,n1⟩,r1,r2,r3⟩:=z39.1 hr;have hbl:(shL l).bads≤1000000:=by
   have:=z1s l kBad l.length;have:=ty.small;show(((allL l kBad l.length).length:Nat):Int)≤1000000;omega
  generalize shL l=h at *;refine yO 5 Tryz.func11 rfl trivial ?_;refine yQ Tryz.func25 rfl trivial (z6p t.bad (by omega) (by omega)) (.refl _) ?_;refine yq rfl trivial ?_;refine yV Tryz.func11 rfl trivial (zcf t.init sm.r (by have:=sm.i;omega)) (.refl _) ?_;refine zd8 _ tabOk rfl rfl rfl rfl rfl trivial rfl ?_;refine yS Tryz.func11 rfl trivial ?_;have hlen:∀i,i≤t.ins.length→((z9d t++z3g 0 (t.ins.take i)).map dSL).length=4+i*2:=fun i hi=>by
   have hp:∀(r:List (List (List UInt8))) (k:Nat),(z3g k r).length=r.length*2:=by
    intro r;induction r with
    | nil=>intro k;rfl
    | cons x r ih=>intro k;rw [z3g,List.length_append,ih,List.length_cons];simp;omega
   rw [List.length_map,List.length_append,hp,List.length_take,Nat.min_eq_left hi];rfl
  refine z8 (α:=Nat) (fun i=>[(6,.gs 2),(21,.d (eSss t.ins)),(22,vI .i64 (t.ins.length:Int)),(23,vI .i64 (i:Int))]) (fun i=>[none,none,some (gSs (z9d t++z3g 0 (t.ins.take i)))]) (fun i=>i≤t.ins.length) (fun i=>t.ins.length-i) 0 (Nat.zero_le _) ?_ ?_
  ·exact fun hh=>yE hh ⟨erl rfl,erl rfl,⟨_,rfl,.of (by rw [List.length_map])⟩,erl rfl,trivial⟩ ⟨.gL rfl,trivial⟩
  rintro i hi ih;refine yB Tryz.func11 rfl trivial (fun hb=>?_) (fun hb=>?_)<;>simp only [decide_eq_true_eq,decide_eq_false_iff_not]at hb
  ·have hlt:i<t.ins.length:=by omega
   have eg:t.ins.getD i []=t.ins[i]:=by simp [hlt]
   obtain⟨s1,s2⟩:=sm.l _ (List.getElem_mem hlt);have ih:=ih (i+1) (by omega) (by omega);have hl4:=hlen i hi;rw [List.take_succ_eq_append_getElem hlt,zao,←eg,Nat.zero_add,List.length_take,Nat.min_eq_left hi,←List.append_assoc]at ih;rw [←eg]at s1 s2;generalize z9d t++z3g 0 (t.ins.take i)=P at *;have hi10:=z7s (l:=(i:Int)) (by omega) (by omega);refine yV Tryz.func11 rfl (by simp [andP]<;>omega) (z6p (i:Int) (by omega) (by omega)) (.refl _) ?_;generalize tItoa (i:Int)=n at *;refine yV Tryz.func11 rfl ?_ (zcf (t.ins.getD i []) s2 (by omega)) (.refl _) ?_
   ·simp only [zbi,sizeL,List.length_append,List.length_cons,List.length_nil];exact⟨by omega,by omega,trivial⟩
   refine yS Tryz.func11 rfl ?_ ?_
   ·show((P.map dSL).length+2)*16≤140737488355328∧True;rw [hl4];exact⟨by have:=sm.n;omega,trivial⟩
   refine yE ih ⟨erl rfl,erl rfl,erl rfl,erw rfl,trivial⟩ ⟨.gL ?_,trivial⟩;rw [List.map_append];simp only [zbi];rfl
  ·obtain rfl:i=t.ins.length:=by omega
   rw [List.take_length];refine yX 7 Tryz.func11 rfl ?_ ?_
   ·show(((z9d t++z3g 0 t.ins).map dSL).length+1)*16≤140737488355328∧True;have:=hlen _ (Nat.le_refl _);rw [List.take_length]at this;rw [this];exact⟨by have:=sm.n;omega,trivial⟩
   refine zj 2 rfl ?_;refine yV Tryz.func11 rfl trivial (znv (z9d t++z3g 0 t.ins++[kEnd]) [] (by simp) ?_ ?_) ⟨.eL ?_,.refl _,trivial⟩ ?_
   ·have:=hlen _ (Nat.le_refl _);rw [List.take_length,List.length_map]at this;rw [List.length_append,this,List.length_singleton];have:=sm.n;omega
   ·rw [zea];have:=zke sm (Nat.le_refl _) (by omega);omega
   ·rw [List.map_append (l₁:=z9d t++z3g 0 t.ins)];rfl
   rw [zea];exact yR Tryz.func11 rfl trivial rfl
end Go.Proofs.YtbodbhpdelgpnaaGreatDoor
namespace Ab
open Go
variable [Draws]
section
variable {P:Program}[Globals P]{T:Tab}{f:FuncId}{fn:Func}{n m:Nat}{C:Cx}{R:AV→List (Option AObj)→Prop}{todo todo' k:List Item}{env env0 env' envF:Env}{objs objs' objs1:List (Option AObj)}{nd:Prop}{ops:Array Oper}{X:Nat→Prop}{O:List Nat→List (Option AObj)}
def befB(ops:Array Oper):Nat→Nat→Nat→Bool
 | 0,_,_=>false
 | f+1,a,b=>zv ops a b||(List.range a).any fun q=>zv ops a q&&befB ops f q b
theorem z8n{L:List Nat}(hcl:∀q∈L,∀q',zv ops q q'=true→q'∈L):∀f a b,befB ops f a b=true→a∈L→b∈L
 | 0,_,_,h,_=>by cases h
 | f+1,a,b,h,ha=>by
  simp only [befB,Bool.or_eq_true,List.any_eq_true,Bool.and_eq_true]at h;rcases h with h|⟨q,_,h1,h2⟩
  ·exact hcl a ha b h
  ·exact z8n hcl f q b h2 (hcl a ha q h1)
theorem zcj{o:Oper}{E:Env}{a:AV}{d:Nat}(hT:TabOk P T)(hw:wantE ops (restr E (o.looksAt ops)) o=.yes)
  (hs:pstep T o (restr E (o.looksAt ops)) objs=.ok a) (hdst:o.dst=some d) (hdn:Nat.blt d n=true) (hlook:look E d=some a):z36 P n X objs ops E o:=by
 intro π w tmps hsz hm hgk hlk;have he:z13 w (okOf X π objs) π (restr E (o.looksAt ops)) tmps:=fun t b ht=>by
  obtain⟨h1,h2⟩:=z12 ht;exact hlk t h1 b h2
 have hdo:=z3c (ds:=[]) hT hm he o;rw [hs]at hdo;obtain⟨v,d1,d2⟩:=hdo;refine .inr ⟨(zm he).1 hw,.inl ⟨v,w,d2 w (.refl w),.refl w,fun d' hd=>?_⟩⟩;rw [hdst]at hd;cases hd;exact⟨by simpa [Nat.blt_eq]using hdn,_,hlook,d1⟩
theorem zdy{L:List Nat}{j:Nat}{o:Oper}{o0:List (Option AObj)}(hOL:O L=o0)(hOj:O (j::L)=O L)(h:z36 P n X o0 ops envF o){π:List Value}{w:World}{tmps:Array Value}(hs:tmps.size=n)(hm:Mem X π (O L) w)(hgk:GOk P π (O L) w)(hl:∀t∈o.looksAt ops,∀a,look envF t=some a→RelV w (okOf X π (O L)) π a (tmps.getD t undef)):
  (Region.wanted o (yielded ops tmps)=false∧∃π',StepX X O m ops envF L j π w π' w∧PutOk n w (okOf X π' (O (j::L))) π' envF o undef) ∨
  (Region.wanted o (yielded ops tmps)=true ∧
   ((∃v w2 π',(execOp (Act.eval ⟨tmps,[]⟩) o).run P w=.ok (.value v) w2∧StepX X O m ops envF L j π w π' w2∧PutOk n w2 (okOf X π' (O (j::L))) π' envF o v) ∨
    (∃w2 π',(execOp (Act.eval ⟨tmps,[]⟩) o).run P w=.ok .skip w2∧StepX X O m ops envF L j π w π' w2∧PutOk n w2 (okOf X π' (O (j::L))) π' envF o undef) ∨
    (∃g args,(execOp (Act.eval ⟨tmps,[]⟩) o).run P w=.ok (.enter g args) w∧Calls P g args w fun e w2=>∃v π',e=.returned v∧StepX X O m ops envF L j π w π' w2∧PutOk n w2 (okOf X π' (O (j::L))) π' envF o v))):=by
 subst hOL;rcases h π w tmps hs hm hgk hl with⟨hw,hp⟩|⟨hw,⟨v,w2,hr,hlt,hp⟩|⟨g,args,hr,hc⟩⟩
 ·exact .inl ⟨hw,π,z2p hOj hm (.refl w),by rw [hOj];exact hp⟩
 ·exact .inr ⟨hw,.inl ⟨v,w2,π,hr,z2p hOj hm hlt,by rw [hOj];exact hp⟩⟩
 ·exact .inr ⟨hw,.inr (.inr ⟨g,args,hr,hc.mono fun e w2 ⟨v,h1,h2,h3⟩=>⟨v,π,h1,z2p hOj hm h2,by rw [hOj];exact h3⟩⟩)⟩
theorem zid{j:Nat}{o:Oper}{E:Env}{a:AV}{c:Option Prop}{L:List Nat}(hT:TabOk P T)(hw:wantE ops (restr E (o.looksAt ops)) o=.yes)(hE:∀t∈o.looksAt ops,∀b,look E t=some b→look envF t=some b)
  (hs:estep T o (restr E (o.looksAt ops)) (O L)=some ⟨c,true,a,none,O (j::L)⟩) (hc:cond c) (hdst:o.dst=none) {π:List Value} {w:World} {tmps:Array Value} (hm:Mem X π (O L) w) (hlk:∀t∈o.looksAt ops,∀a,look envF t=some a→RelV w (okOf X π (O L)) π a (tmps.getD t undef)) :
  Region.wanted o (yielded ops tmps)=true∧∃w2 π',(execOp (Act.eval ⟨tmps,[]⟩) o).run P w=.ok .skip w2∧StepX X O m ops envF L j π w π' w2∧PutOk n w2 (okOf X π' (O (j::L))) π' envF o undef:=by
 have he:z13 w (okOf X π (O L)) π (restr E (o.looksAt ops)) tmps:=fun t b ht=>by
  obtain⟨h1,h2⟩:=z12 ht;exact hlk t h1 b (hE t h1 b h2)
 have hst:=z3v (ds:=[]) hT hm he o;rw [hs]at hst;obtain⟨v,w',π',h1,h2,_⟩:=hst hc;refine⟨(zm he).1 hw,w',π',h1,⟨h2.mem,h2.hist,fun t a u _ _ hu=>h2.keep _ _ hu⟩,fun d hd=>?_⟩;rw [hdst]at hd;cases hd
end
end Ab
namespace Ab
open Go
variable [Draws]
section
variable {P:Program}[Globals P]{T:Tab}{f:FuncId}{fn:Func}{n m:Nat}{C:Cx}{R:AV→List (Option AObj)→Prop}{todo todo' k:List Item}{env env0 env' envF:Env}{objs objs' objs1 objs2:List (Option AObj)}{nd:Prop}{ops:Array Oper}{X:Nat→Prop}{O:List Nat→List (Option AObj)}
theorem zj6(m j1 j2 fuel:Nat)(late:List Nat){os1 os2:Oper}{E:Env}{a1 a2:AV}{c1 c2:Option Prop}{id:Nat}(hT:TabOk P T)(hf:P.funcs[f]?=some fn)(hmx:P.follows .mixedOrders=true)(h:srun T n fn.results.toList 2000 True todo env objs=.draw nd id ops k env' objs')(hn:nd)
  (hB:drawB ops m=true) (h1m:Nat.blt j1 m=true) (h2m:Nat.blt j2 m=true) (hne:Nat.beq j1 j2=false) (h21:befB ops fuel j2 j1=true) (hear:((List.range m).all fun j=>Nat.beq j j1||Nat.beq j j2||late.any (Nat.beq j)||befB ops fuel j1 j)=true)
  (hD:DSat P n C.X objs' ops (fun x=>x=E) (zx ops m [(j1,none),(j2,none)]) env')
  (ho1:ops[j1]?=some os1) (hd1:os1.dst=none) (hw1:wantE ops (restr E (os1.looksAt ops)) os1=.yes)
  (hs1:estep T os1 (restr E (os1.looksAt ops)) objs'=some ⟨c1,true,a1,none,objs1⟩) (hc1:cond c1)
  (ho2:ops[j2]?=some os2) (hd2:os2.dst=none) (hw2:wantE ops (restr E (os2.looksAt ops)) os2=.yes)
  (hs2:estep T os2 (restr E (os2.looksAt ops)) objs1=some ⟨c2,true,a2,none,objs2⟩) (hc2:cond c2)
  (hlate:∀j∈late,∃o,ops[j]?=some o∧z36 P n C.X objs1 ops E o∧z36 P n C.X objs2 ops E o)
  (hk:ASat P f n C (.inRegion ops (List.range' m (ops.size-m))::k) E objs2 R) (hGk:GOk P C.π C.objs C.w:=by with_reducible assumption):ASat P f n C todo env objs R:=by
 obtain⟨E0,b1,b2,b3,rfl⟩:=hD;have hne:j1≠j2:=Nat.ne_of_beq_eq_false hne;have hq:∀{j:Nat} {o:Oper},j<m→j≠j1→j≠j2→ops[j]?=some o→o∈zx ops m [(j1,none),(j2,none)]:=by
  intro j o hj n1 n2 ho;unfold zx;rw [List.mem_filterMap];refine⟨j,List.mem_filter.2 ⟨List.mem_range.2 hj,?_⟩,ho⟩;simp only [actB,List.any_cons,List.any_nil,Bool.or_false,Bool.not_eq_true',Bool.or_eq_false_iff];exact⟨by cases hx:Nat.beq j1 j with
   | false=>rfl
   | true=>exact absurd (Nat.eq_of_beq_eq_true hx).symm n1,by cases hx:Nat.beq j2 j with
   | false=>rfl
   | true=>exact absurd (Nat.eq_of_beq_eq_true hx).symm n2⟩
 suffices hcc:Cont P f n C R (.draw nd id ops k env' objs')from(z1j hT hf 2000 True todo env objs (by rw [h];exact hcc)).2
 refine⟨hn,z9f (O:=twoO j2 j1 objs' objs1 objs2) (envF:=E0) hmx hB ?_ (by simp [twoO]) (fun L hL=>by rw [twoO,if_pos (hL j2 (by simpa [Nat.blt_eq]using h2m))]) ?_ hk⟩
 ·intro j o hj ho L hLm hjL hdeps hcl π w tmps hsz hm hgk hlk;by_cases hj1:j=j1
  ·subst hj1;rw [ho1]at ho;cases ho;have h2L:j2∉L:=fun hh=>hjL (z8n hcl _ _ _ h21 hh)
   have hOL:twoO j2 j objs' objs1 objs2 L=objs':=by rw [twoO,if_neg h2L,if_neg hjL]
   have hOj:twoO j2 j objs' objs1 objs2 (j::L)=objs1:=by rw [twoO,if_neg (by rw [List.mem_cons];exact fun hh=>hh.elim (fun e=>hne e.symm) h2L),if_pos (List.mem_cons_self ..)]
   obtain⟨g1,w2,π',g2⟩:=zid (n:=n) (m:=m) (ops:=ops) (O:=twoO j2 j objs' objs1 objs2) (L:=L) hT hw1 (fun _ _ _ h=>h) (by rw [hOL,hOj];exact hs1) hc1 hd1 hm hlk;exact .inr ⟨g1,.inr (.inl ⟨w2,π',g2⟩)⟩
  by_cases hj2:j=j2
  ·subst hj2;rw [ho2]at ho;cases ho;have h1L:j1∈L:=by
    have key:∀f b,befB ops f j b=true→b∈L:=by
     intro f b hb;cases f with
     | zero=>cases hb
     | succ f=>
      simp only [befB,Bool.or_eq_true,List.any_eq_true,Bool.and_eq_true]at hb;rcases hb with hb|⟨q,_,g1,g2⟩
      ·exact hdeps b hb
      ·exact z8n hcl f q b g2 (hdeps q g1)
    exact key _ _ h21
   have hOL:twoO j j1 objs' objs1 objs2 L=objs1:=by rw [twoO,if_neg hjL,if_pos h1L]
   have hOj:twoO j j1 objs' objs1 objs2 (j::L)=objs2:=by rw [twoO,if_pos (List.mem_cons_self ..)]
   obtain⟨g1,w2,π',g2⟩:=zid (n:=n) (m:=m) (ops:=ops) (O:=twoO j j1 objs' objs1 objs2) (L:=L) hT hw2 (fun _ _ _ h=>h) (by rw [hOL,hOj];exact hs2) hc2 hd2 hm hlk;exact .inr ⟨g1,.inr (.inl ⟨w2,π',g2⟩)⟩
  have hOj:twoO j2 j1 objs' objs1 objs2 (j::L)=twoO j2 j1 objs' objs1 objs2 L:=zd4 hj2 hj1;have inl:j1∈L→∃o2,ops[j]?=some o2∧z36 P n C.X objs1 ops E0 o2∧z36 P n C.X objs2 ops E0 o2:=fun hL=>by
   have g1:=List.all_eq_true.1 hear j (List.mem_range.2 hj);simp only [Bool.or_eq_true,List.any_eq_true]at g1;rcases g1 with((g1|g1)|⟨q,g2,g3⟩)|g1
   ·exact absurd (Nat.eq_of_beq_eq_true g1) hj1
   ·exact absurd (Nat.eq_of_beq_eq_true g1) hj2
   ·obtain rfl:=Nat.eq_of_beq_eq_true g3;exact hlate j g2
   ·exact absurd (z8n hcl _ _ _ g1 hL) hjL
  by_cases h2L:j2∈L
  ·have hOL:twoO j2 j1 objs' objs1 objs2 L=objs2:=by rw [twoO,if_pos h2L]
   obtain⟨o2,g4,_,g5⟩:=inl (z8n hcl _ _ _ h21 h2L);rw [ho]at g4;cases g4;exact zdy hOL hOj g5 hsz hm hgk hlk
  by_cases h1L:j1∈L
  ·have hOL:twoO j2 j1 objs' objs1 objs2 L=objs1:=by rw [twoO,if_neg h2L,if_pos h1L]
   obtain⟨o2,g4,g5,_⟩:=inl h1L;rw [ho]at g4;cases g4;exact zdy hOL hOj g5 hsz hm hgk hlk
  ·have hOL:twoO j2 j1 objs' objs1 objs2 L=objs':=by rw [twoO,if_neg h2L,if_neg h1L]
   exact zdy hOL hOj (b3 o (hq hj hj1 hj2 ho)) hsz hm hgk hlk
 ·intro t ht a ha;refine b1 t (fun o ho hd=>?_) a ha;unfold zx at ho;rw [List.mem_filterMap]at ho;obtain⟨j,hj,ho⟩:=ho;have hj:=List.mem_range.1 (List.mem_filter.1 hj).1;have:=ht j hj;rw [zh.2 ⟨o,ho,hd⟩]at this;cases this
end
end Ab
namespace Go.Proofs.YtbodbhpdelgpnaaGreatDoor
open Go Ab Go.RowKit
@[reducible] def bRd(b:List UInt8)(st:Int×Int)(h:Sh):AObj:=.cells 88 [.d (eBy b),vI .i64 st.1,vI .i64 st.2,.d (eI h.bads),.d (eIs (h.st.map (·.1))),.d (eSs (h.st.map (·.2))),.d (eIs (h.inw.map (·.1))),.d (eI 200)]
theorem z43{α:Type}(b s:List UInt8)(hb:b.length≤1000000)(hs:s.length≤1000000)(h:Sh)(q:PR α)(ok:OkS b q):ACall Tryz.prog 50 [.ptr 0 0,vTx s] [some (bRd b (stP q) h)] (fun r o=>r=.tp []∧o=[some (bRd b (stP (bnd q fun _ p=>wordP b s p)) h)]):=by
 refine yN Tryz.func50 fun C hC hCl hDs hGk=>?_;rcases q with⟨a,e⟩|⟨a,p⟩
 ·have hne:e≠0:=ok.1;refine yB Tryz.func50 rfl trivial (fun hh=>?_) (fun hh=>?_);rotate_left
  ·have hh:(!(e==0))=false:=hh;rw [Bool.not_eq_false',beq_iff_eq]at hh;exact absurd hh hne
  exact yL Tryz.func50 rfl trivial (.refl _) (oAl rfl) ⟨rfl,rfl⟩ (o2:=[some (bRd b (a,e) h)])
 ·obtain⟨p0,p1⟩:0≤p∧p≤b.length:=ok;refine yF Tryz.func50 rfl trivial ?_;refine yO 14 Tryz.func50 rfl trivial ?_;refine yQ Tryz.func53 rfl trivial (zhe b p s hb hs) (.refl _) ?_;refine yq rfl trivial ?_;rw [z16];unfold wordP;cases hi:isAt b p s with
  | true=>
   rw [if_pos rfl];refine yF Tryz.func50 rfl trivial ?_;exact yL Tryz.func50 rfl trivial (.refl _) (oAl rfl) ⟨rfl,rfl⟩ (o2:=[some (bRd b (isTo b p s,0) h)])
  | false=>
   rw [if_neg (by decide)];have ht:=zs2 p0 p1 hi;rw [ht];refine yT Tryz.func50 rfl trivial ?_;exact yL Tryz.func50 rfl trivial (.refl _) (oAl rfl) ⟨rfl,rfl⟩ (o2:=[some (bRd b (p,2) h)])
theorem z4c{α β γ:Type}(q:PR α)(f:α→Int→PR β)(g:β→Int→PR γ):bnd (bnd q f) g=bnd q fun a p=>bnd (f a p) g:=by
 rcases q with e|⟨a,p⟩<;>rfl
theorem z7f{α β:Type}(q:PR α)(f:α→β):stP (bnd q fun a p=>.inr (f a,p))=stP q:=by
 rcases q with e|⟨a,p⟩<;>rfl
theorem zqj{α:Type}{b:List UInt8}{q:PR α}(h:OkS b q):0≤(stP q).1∧(stP q).1≤b.length:=by
 rcases q with e|⟨a,p⟩
 ·exact h.2
 ·exact h
theorem zar{α β:Type}{b:List UInt8}{q:PR α}(h:OkS b q)(f:α→β):OkS b (bnd q fun a p=>.inr (f a,p)):=by
 rcases q with e|⟨a,p⟩
 ·exact h
 ·exact h
theorem z9r{α:Type}{b s:List UInt8}{q:PR α}(h:OkS b q):OkS b (bnd q fun _ p=>wordP b s p):=h.bnd fun _ _ _ h0 h1=>.word h0 h1
theorem zc7{α:Type}(b:List UInt8)(i:Nat)(w:Int){first:List UInt8}(hf:first≠[])(q:PR α):bnd q (fun _ p=>rowP b i (w,first) p)=bnd (bnd (bnd (bnd q fun _ p=>wordP b (tItoa (i:Int)++[32]) p) fun _ p=>wordP b first p) fun _ p=>wordP b [10] p) fun _ p=>.inr (first,p):=by
 have he:first.isEmpty=false:=by cases first with|nil=>exact absurd rfl hf|cons=>rfl
 rw [z4c,z4c,z4c];unfold rowP;congr 1;funext _ p;congr 1;funext _ p;simp only [he,Bool.false_eq_true,if_false];rw [z4c];rfl
theorem zez{α:Type}(b:List UInt8)(i:Nat)(w:Int)(q:PR α):bnd q (fun _ p=>rowP b i (w,[]) p)=bnd (bnd (bnd q fun _ p=>wordP b (tItoa (i:Int)++[32]) p) fun _ p=>bitsP b w.toNat p []) fun s p=>bnd (wordP b [10] p) fun _ r=>.inr (s,r):=by
 rw [z4c,z4c];rfl
theorem zq6(c:UInt8):ACall Tryz.prog 82 [vTx z3n,vI .u8 (c.toNat:Int)] [] (fun r o=>r=vI .i64 (Go.Lib.indexByte z3n c)):=
 z6n (fun _ _=>Nat.le_refl _) rfl (vs:=[.string ⟨z3n.toArray⟩,.int .u8 (c.toNat:Int)]) (fun w ok π us h=>by
  cases h with|cons h1 h=>cases h with|cons h2 h=>cases h with|nil=>
  cases h1 with|d h1=>cases h1 with|v _=>cases h2 with|d h2=>cases h2 with|v _=>rfl) (fun args w=>zb Tryz.func82 rfl rfl args w) fun w ht=>(Any.strings_IndexByte Tryz.ibL ⟨z3n.toArray⟩ (c.toNat:Int) w).mono fun e w' ⟨he,hw⟩=>⟨by rw [he,Int.toNat_natCast,show c.toNat.toUInt8=c from UInt8.ofNat_toNat],hw▸⟨rfl,rfl,rfl,Nat.le_refl _,fun b hb=>rfl⟩⟩
theorem zmb(c:UInt8):decide (Go.Lib.indexByte z3n c<0)=!isB c:=by
 obtain⟨h1,h2⟩:=zmc c z3n;have h3:z3n.any (·==c)=isB c:=by
  unfold isB;have e:∀k:UInt8,(k==c)=(c==k):=fun k=>by rw [Bool.eq_iff_iff,beq_iff_eq,beq_iff_eq];exact eq_comm
  simp only [z3n,List.any_cons,List.any_nil,Bool.or_false,Bool.or_assoc,e]
 rw [←h3,←h2];by_cases h:Go.Lib.indexByte z3n c<0
 ·rw [decide_eq_true h,decide_eq_false (by omega)];rfl
 ·rw [decide_eq_false h,decide_eq_true (by omega)];rfl
def lstP{α:Type}(q:PR (List α)):List α:=match q with
 | .inl _=>[]
 | .inr (l,_)=>l
def rowV{α:Type}(b:List UInt8)(i:Nat)(w:Int×List UInt8)(q:PR α):List UInt8:=if w.2=[]then lstP (bnd (bnd q fun _ p=>wordP b (tItoa (i:Int)++[32]) p) fun _ p=>bitsP b w.1.toNat p [])else w.2
theorem ztb{α β:Type}(q:PR (List β))(f:List β→Int→PR α){s:List β}{p:Int}(h:(bnd q fun s p=>bnd (f s p) fun _ r=>.inr (s,r))=.inr (s,p)):s=lstP q:=by
 rcases q with e|⟨l,p0⟩
 ·cases h
 ·rw [z16]at h;generalize f l p0=q3 at h;rcases q3 with e|⟨u,p1⟩
  ·cases h
  ·cases h;rfl
theorem zrg{α:Type}{b:List UInt8}{i:Nat}{w:Int×List UInt8}{q:PR α}{s:List UInt8}{p:Int}(h:(bnd q fun _ p=>rowP b i w p)=.inr (s,p)):s=rowV b i w q:=by
 obtain⟨w,first⟩:=w;unfold rowV;by_cases hf:first=[]
 ·subst hf;rw [if_pos rfl];rw [zez]at h;exact ztb _ (fun _ p=>wordP b [10] p) h
 ·rw [if_neg hf];rw [zc7 b i w hf]at h;generalize (bnd (bnd (bnd q fun _ p=>wordP b (tItoa (i:Int)++[32]) p) fun _ p=>wordP b first p) fun _ p=>wordP b [10] p)=q3 at h;rcases q3 with e|⟨a,p⟩
  ·cases h
  ·cases h;rfl
theorem zhy{α:Type}(b first:List UInt8)(hb:b.length≤1000000)(hf:first.length≤1000000)(h:Sh)(q:PR α)(ok:OkS b q)(i:Nat)(hi:i≤1000000)(w:Int)(w0:1≤w)(w1:w≤1000000):
  ACall Tryz.prog 52 [.ptr 0 0,vI .i64 (i:Int),vI .i64 w,vTx first] [some (bRd b (stP q) h)] (fun r o=>r=vTx (rowV b i (w,first) q)∧o=[some (bRd b (stP (bnd q fun _ p=>rowP b i (w,first) p)) h)]):=by
 refine yN Tryz.func52 fun C hC hCl hDs hGk=>?_;have hit:=z7s (l:=(i:Int)) (by omega) (by omega);refine yO 6 Tryz.func52 rfl trivial ?_;refine yQ Tryz.func25 rfl trivial (z6p (i:Int) (by omega) (by omega)) (.refl _) ?_;refine yq rfl ?_ ?_
 ·simp only [sizeL];exact⟨by show(tItoa (i:Int)).length+1≤_;omega,trivial⟩
 refine yW [0] Tryz.func52 rfl trivial (z43 b (tItoa (i:Int)++[32]) hb (by rw [List.length_append,List.length_singleton];omega) h q ok) ⟨⟨_,rfl,.refl _⟩,trivial⟩ ⟨.refl _,.of (congrArg (fun s=>AV.d (.v (.string s))) (zbi _ _)),trivial⟩ ?_;have ok1:=z9r (s:=tItoa (i:Int)++[32]) ok;have hF:=fun hne=>zc7 b i w (first:=first) hne q
 have hB:=zez b i w q;have hV:rowV b i (w,first) q=if first=[]then lstP (bnd (bnd q fun _ p=>wordP b (tItoa (i:Int)++[32]) p) fun _ p=>bitsP b w.toNat p [])else first:=rfl
 rw [hV];generalize (bnd q fun _ p=>wordP b (tItoa (i:Int)++[32]) p)=q1 at *;refine yB Tryz.func52 rfl trivial (fun hn=>?_) (fun hn=>?_)
 ·have hn:(!((⟨first.toArray⟩:ByteArray).toList==(⟨([]:List UInt8).toArray⟩:ByteArray).toList))=true:=hn;rw [strEq,Bool.not_eq_true',decide_eq_false_iff_not]at hn;rw [hF hn];refine yW [0] Tryz.func52 rfl trivial (z43 b first hb hf h q1 ok1) ⟨⟨_,rfl,.refl _⟩,trivial⟩ (.refl _) ?_;refine yW [0] Tryz.func52 rfl trivial (z43 b [10] hb (by decide) h _ (z9r ok1)) ⟨⟨_,rfl,.refl _⟩,trivial⟩ (.refl _) ?_;rw [z7f (f:=fun _=>first)];rw [if_neg hn];exact yL Tryz.func52 rfl trivial (.refl _) (oAl rfl) ⟨rfl,rfl⟩ (o2:=[some (bRd b _ h)])
 ·have hn:(!((⟨first.toArray⟩:ByteArray).toList==(⟨([]:List UInt8).toArray⟩:ByteArray).toList))=false:=hn;rw [strEq,Bool.not_eq_false',decide_eq_true_eq]at hn;subst hn;rw [hB,if_pos rfl];obtain⟨q2,hq2⟩:∃q2,(bnd q1 fun _ p=>bitsP b w.toNat p [])=q2:=⟨_,rfl⟩
  rw [hq2];have ok2:OkS b q2:=by
   rw [←hq2];exact ok1.bnd fun _ p _ h0 h1=>by
    have:=(zbk (b:=b) w.toNat [] p.toNat (by omega)).okS;rwa [Int.toNat_of_nonneg h0]at this
  obtain⟨k2,k3⟩:=zqj ok1;obtain⟨l2,l3⟩:=zqj ok2;refine yS Tryz.func52 rfl trivial ?_;apply letK (p:=(stP q1).1≤(stP q2).1∧lstP q2=(b.drop (stP q1).1.toNat).take ((stP q2).1.toNat-(stP q1).1.toNat)→ASat Tryz.prog 52 Tryz.f52.ntmps C _ [(0,.ptr 0 0),(9,vI .i64 (stP q1).1)] [some (bRd b (stP q2) h)] (fun r o=>r=vTx (lstP q2)∧o=[some (bRd b (stP (bnd q2 fun s p=>bnd (wordP b [10] p) fun _ r=>.inr (s,r))) h)]))
  ·intro key;rcases q1 with⟨a,e⟩|⟨u,p0⟩
   ·have k1:e≠0:=ok1.1;obtain rfl:q2=.inl (a,e):=hq2.symm;refine zab ?_;refine yB Tryz.func52 rfl trivial (fun _=>?_) (fun hh=>?_);rotate_left
    ·have hh:decide ((0:Int)<w)=false:=hh;rw [decide_eq_false_iff_not]at hh;omega
    refine yB Tryz.func52 rfl trivial (fun hh=>?_) (fun _=>?_)
    ·have hh:(e==0)=true:=hh;rw [beq_iff_eq]at hh;exact absurd hh k1
    refine yX 2 Tryz.func52 rfl trivial ?_;exact yE (key ⟨Int.le_refl _,by show([]:List UInt8)=List.take (a.toNat-a.toNat) (List.drop a.toNat b);rw [Nat.sub_self];rfl⟩) (eAl rfl) (oAl rfl)
   ·have e0:0≤p0∧p0≤b.length:=ok1;obtain⟨P,rfl⟩:∃P:Nat,p0=P:=⟨p0.toNat,by omega⟩
    rw [z16]at hq2;refine z8 (α:=Nat) (fun k=>[(0,.ptr 0 0),(2,vI .i64 w),(9,vI .i64 (P:Int)),(10,vI .i64 (k:Int))]) (fun k=>[some (bRd b (((P+k:Nat):Int),0) h)]) (fun k=>(k:Int)≤w∧P+k≤b.length∧bitsP b (w.toNat-k) ((P+k:Nat):Int) ((b.drop P).take k)=q2) (fun k=>w.toNat-k) 0 ⟨by omega,by omega,hq2⟩ ?_ ?_
    ·exact fun hh=>yE hh (eAl rfl) (oAl rfl)
    rintro k ⟨c1,c2,c3⟩ ih;refine yB Tryz.func52 rfl trivial (fun hk=>?_) (fun hk=>?_)
    ·have hk:decide ((k:Int)<w)=true:=hk;rw [decide_eq_true_eq]at hk;rw [show w.toNat-k=(w.toNat-(k+1))+1 by omega,bitsP,Int.toNat_natCast]at c3;refine yT Tryz.func52 rfl trivial ?_;refine yO 23 Tryz.func52 rfl trivial ?_;refine yb rfl trivial (fun hb2=>?_) (fun hb2=>?_)
     ·have hb2:decide (((P+k:Nat):Int)≥(((b.map eU8).length:Nat):Int))=true:=hb2;rw [decide_eq_true_eq,List.length_map]at hb2;rw [if_neg (by rintro⟨g,-⟩;omega)]at c3;subst c3;refine yq rfl trivial ?_;refine yT Tryz.func52 rfl trivial ?_;exact yL Tryz.func52 rfl trivial (.refl _) (oAl rfl) ⟨rfl,rfl⟩ (o2:=[some (bRd b (((P+k:Nat):Int),2) h)])
     ·have hb2:decide (((P+k:Nat):Int)≥(((b.map eU8).length:Nat):Int))=false:=hb2;rw [decide_eq_false_iff_not,List.length_map]at hb2;refine yq rfl trivial ?_;refine yV Tryz.func52 rfl ?_ (zq6 (b.getD (P+k) 0)) (.refl _) ?_
      ·rw [List.length_map];exact⟨⟨by omega,by omega⟩,trivial⟩
      refine yB Tryz.func52 rfl trivial (fun hb3=>?_) (fun hb3=>?_)
      ·have hb3:decide (Go.Lib.indexByte z3n (b.getD (P+k) 0)<0)=true:=hb3;rw [zmb]at hb3;rw [if_neg (by rintro⟨-,g⟩;rw [g]at hb3;cases hb3)]at c3;subst c3;exact yL Tryz.func52 rfl trivial (.refl _) (oAl rfl) ⟨rfl,rfl⟩ (o2:=[some (bRd b (((P+k:Nat):Int),2) h)])
      ·have hb3:decide (Go.Lib.indexByte z3n (b.getD (P+k) 0)<0)=false:=hb3;rw [zmb,Bool.not_eq_false']at hb3;rw [if_pos ⟨by omega,hb3⟩]at c3;refine yS Tryz.func52 rfl trivial ?_;refine yE (ih (k+1) ⟨by omega,by omega,?_⟩ (by omega)) ⟨erl rfl,erl rfl,erl rfl,erw rfl,trivial⟩ ⟨.of ?_,trivial⟩
       ·rw [←c3,show((P+(k+1):Nat):Int)=((P+k:Nat):Int)+1 by omega,List.take_add_one];congr 1;simp [List.getD_eq_getElem?_getD,show P+k<b.length by omega]
       ·show bRd b (IntKind.i64.wrap (((P+k:Nat):Int)+1),0) h=_;rw [z7 (by omega) (by omega),show((P+k:Nat):Int)+1=((P+(k+1):Nat):Int)by omega]
    ·have hk:decide ((k:Int)<w)=false:=hk;rw [decide_eq_false_iff_not]at hk;rw [show w.toNat-k=0 by omega,bitsP]at c3;subst c3;refine yF Tryz.func52 rfl trivial ?_;refine yX 2 Tryz.func52 rfl trivial ?_;refine yE (key ⟨?_,?_⟩) (eAl rfl) (oAl rfl)
     ·show(P:Int)≤((P+k:Nat):Int);omega
     ·show(b.drop P).take k=(b.drop ((P:Nat):Int).toNat).take (((P+k:Nat):Int).toNat-((P:Nat):Int).toNat);rw [Int.toNat_natCast,Int.toNat_natCast,show P+k-P=k by omega]
  ·rintro⟨hle,hs⟩;generalize (stP q1).1=f at *;refine yO 11 Tryz.func52 rfl trivial ?_;refine yq rfl trivial ?_;have hcut:List.take ((stP q2).1-f).toNat (List.drop f.toNat (List.map eU8 b))=((b.drop f.toNat).take ((stP q2).1.toNat-f.toNat)).map eU8:=by
    rw [←List.map_drop,←List.map_take,show((stP q2).1-f).toNat=(stP q2).1.toNat-f.toNat by omega]
   refine yW [0] Tryz.func52 rfl ?_ (z43 b [10] hb (by decide) h q2 ok2) ⟨⟨_,rfl,.refl _⟩,trivial⟩ (.refl _) ?_
   ·rw [hcut,List.length_map];exact⟨zfh _,⟨k2,hle,l3⟩,trivial⟩
   refine yL Tryz.func52 rfl trivial (.of ?_) (oAl rfl) ⟨rfl,?_⟩ (o2:=[some (bRd b _ h)])
   ·show vS (strD _)=_;rw [hcut,zkm,hs]
   ·rcases q2 with e|⟨s,p⟩
    ·rfl
    ·rw [z16,z16];exact congrArg (fun z=>[some (bRd b z h)]) (z7f (wordP b [10] p) (fun _=>s)).symm
def rowQ(b:List UInt8)(i:Nat)(w:Int×List UInt8)(q:PR (List (List UInt8))):PR (List (List UInt8)):=bnd q fun l p=>bnd (rowP b i w p) fun s p2=>.inr (l++[s],p2)
theorem zl2(b:List UInt8)(i:Nat)(w:Int×List UInt8)(q:PR (List (List UInt8))):stP (rowQ b i w q)=stP (bnd q fun _ p=>rowP b i w p):=by
 unfold rowQ;rcases q with e|⟨l,p⟩
 ·rfl
 ·rw [z16,z16];exact z7f (rowP b i w p) (fun s=>l++[s])
theorem zhz{b:List UInt8}{i:Nat}{w:Int×List UInt8}{q:PR (List (List UInt8))}{out:List (List UInt8)}(h1:∀l p,q=.inr (l,p)→l=out):∀l p,rowQ b i w q=.inr (l,p)→l=out++[rowV b i w q]:=fun l p h=>by
 have h2:=fun s p=>@zrg _ b i w q s p
 generalize rowV b i w q=s at *;unfold rowQ at h;rcases q with e|⟨l0,p0⟩
 ·cases h
 ·rw [z16]at h h2;obtain rfl:=h1 _ _ rfl;rcases hr:rowP b i w p0 with e|⟨s0,p1⟩
  ·rw [hr]at h;cases h
  ·rw [hr,z16]at h;rw [hr]at h2;obtain rfl:=h2 _ _ rfl;cases h;rfl
def rowsV(b:List UInt8):Nat→List (Int×List UInt8)→PR (List (List UInt8))→List (List UInt8)→List (List UInt8)
 | _,[],_,out=>out
 | i,w::ws,q,out=>rowsV b (i+1) ws (rowQ b i w q) (out++[rowV b i w q])
theorem zl3{b:List UInt8}{i:Nat}{w:Int×List UInt8}(hw:0≤w.1∧(w.2=[]∨rowB w.2 w.1=true)){q:PR (List (List UInt8))}(h:OkS b q):OkS b (rowQ b i w q):=by
 unfold rowQ;refine h.bnd fun l p _ h0 h1=>?_;have:=(zhx (b:=b) (i:=i) hw (p:=p.toNat) (by omega)).okS;rw [Int.toNat_of_nonneg h0]at this;exact zar this _
theorem z8s(b:List UInt8)(i:Nat)(w:Int×List UInt8)(ws:List (Int×List UInt8))(q:PR (List (List UInt8))):bnd q (fun l p=>rowsP b i (w::ws) p l)=bnd (rowQ b i w q) fun l p=>rowsP b (i+1) ws p l:=by
 unfold rowQ;rw [z4c];congr 1;funext l p;rw [rowsP,z4c];rfl
theorem zhw{b:List UInt8}:∀(ws:List (Int×List UInt8)) (i:Nat) (q:PR (List (List UInt8))) (out:List (List UInt8)),(∀l p,q=.inr (l,p)→l=out)→∀l p,(bnd q fun l p=>rowsP b i ws p l)=.inr (l,p)→l=rowsV b i ws q out
 | [],i,q,out,h,l,p,he=>by
  rcases q with e|⟨l0,p0⟩
  ·cases he
  ·rw [z16,rowsP]at he;cases he;exact h _ _ rfl
 | w::ws,i,q,out,h,l,p,he=>by
  rw [z8s]at he;exact zhw ws (i+1) _ _ (zhz h) l p he
theorem znc{α:Type}(q:PR α):(bnd q fun a p=>.inr (a,p))=q:=by
 rcases q with e|⟨a,p⟩<;>rfl
def Wid(ws:List (Int×List UInt8)):Prop:=ws.length≤1000000∧∀w∈ws,1≤w.1∧w.1≤1000000∧w.2.length≤1000000
def headQ{α:Type}(b:List UInt8)(k:Nat)(q:PR α):PR (List (List UInt8)):=bnd (bnd q fun _ p=>wordP b ([64]++tItoa (k:Int)++[10]) p) fun _ p=>.inr ([],p)
def zij{α:Type}(b:List UInt8)(k:Nat)(ws:List (Int×List UInt8))(q:PR α):List (List UInt8):=rowsV b 0 ws (headQ b k q) []
theorem zba{α:Type}(b:List UInt8)(k:Nat)(ws:List (Int×List UInt8))(q:PR α):(bnd q fun _ p=>z4b b k ws p)=bnd (headQ b k q) fun l p=>rowsP b 0 ws p l:=by
 unfold headQ;rw [z4c,z4c];rfl
theorem zsb{α:Type}{b:List UInt8}{k:Nat}{q:PR α}:∀l p,headQ b k q=.inr (l,p)→l=[]:=fun l p he=>by
 unfold headQ at he;generalize (bnd q fun _ p=>wordP b ([64]++tItoa (k:Int)++[10]) p)=q0 at he;rcases q0 with e|⟨a,p⟩
 ·cases he
 ·cases he;rfl
theorem zml{α:Type}{b:List UInt8}{k:Nat}{ws:List (Int×List UInt8)}{q:PR α}{l:List (List UInt8)}{p:Int}(h:(bnd q fun _ p=>z4b b k ws p)=.inr (l,p)):l=zij b k ws q:=by
 rw [zba]at h;exact zhw ws 0 _ [] zsb l p h
theorem zjo{α:Type}(b:List UInt8)(hb:b.length≤1000000)(h:Sh)(hin:∀w∈h.inw,w.2=[])(hw:Wid h.inw)(q:PR α)(ok:OkS b q)(k:Nat)(hk:k≤1000000):
  ACall Tryz.prog 54 [.ptr 0 0,vI .i64 (k:Int)] [some (bRd b (stP q) h)] (fun r o=>r=.d (eSs (zij b k h.inw q))∧o=[some (bRd b (stP (bnd q fun _ p=>z4b b k h.inw p)) h)]):=by
 refine yN Tryz.func54 fun C hC hCl hDs hGk=>?_;have hit:=z7s (l:=(k:Int)) (by omega) (by omega);refine yO 7 Tryz.func54 rfl trivial ?_;refine yQ Tryz.func25 rfl trivial (z6p (k:Int) (by omega) (by omega)) (.refl _) ?_;refine yq rfl ?_ ?_
 ·simp only [zbi,sizeL,List.length_append];exact⟨by show(1+(tItoa (k:Int)).length)+1≤_;omega,by show 1+(tItoa (k:Int)).length≤_;omega,trivial⟩
 refine yW [0] Tryz.func54 rfl trivial (z43 b ([64]++tItoa (k:Int)++[10]) hb (by simp only [List.length_append,List.length_singleton];omega) h q ok) ⟨⟨_,rfl,.refl _⟩,trivial⟩ ⟨.refl _,.of ?_,trivial⟩ ?_
 ·show AV.d (.v (.string _))=vTx _;simp only [zbi]
 have ok1:=z9r (s:=[64]++tItoa (k:Int)++[10]) ok;have hst:stP (headQ b k q)=stP (bnd q fun _ p=>wordP b ([64]++tItoa (k:Int)++[10]) p):=z7f _ fun _=>[]
 have ok2:OkS b (headQ b k q):=zar ok1 fun _=>[]
 rw [zba,←hst];unfold zij;generalize headQ b k q=Q0 at *;obtain⟨W,hW⟩:∃W,h.inw=W:=⟨_,rfl⟩
 rw [hW]at hin hw ⊢;have hwl:=hw.1;refine yS Tryz.func54 rfl trivial ?_;refine z45 (s:=1) (e:=9) (t:=5) (.inl rfl) (fun i=>dSL (([]:List (List UInt8)).getD i [])) ?_;refine z8 (α:=Nat×List (List UInt8)×PR (List (List UInt8))) (fun s=>[(0,.ptr 0 0),(5,.gs 1),(20,.d (eIs (W.map (·.1)))),(21,vI .i64 (W.length:Int)),(22,vI .i64 (s.1:Int))]) (fun s=>[some (bRd b (stP s.2.2) h),some (gSs s.2.1)])
  (fun s=>s.1≤W.length∧s.2.1.length=s.1∧OkS b s.2.2∧rowsV b 0 W Q0 []=rowsV b s.1 (W.drop s.1) s.2.2 s.2.1∧bnd Q0 (fun l p=>rowsP b 0 W p l)=bnd s.2.2 fun l p=>rowsP b s.1 (W.drop s.1) p l) (fun s=>W.length-s.1) (0,[],Q0) ⟨Nat.zero_le _,rfl,ok2,rfl,rfl⟩ ?_ ?_
 ·refine fun hh=>yE hh ⟨erl rfl,erl rfl,⟨_,rfl,.of ?_⟩,⟨_,rfl,.of ?_⟩,erl rfl,trivial⟩ ⟨.refl _,.gL rfl,trivial⟩
  ·show AV.d (eIs (h.inw.map (·.1)))=_;rw [hW]
  ·show vI .i64 ((((h.inw.map (·.1)).map eI).length:Nat):Int)=_;rw [hW,List.length_map,List.length_map]
 rintro⟨i,out,qi⟩ ⟨c1,c2,c3,c4,c5⟩ ih;simp only at c1 c2 c3 c4 c5 ih ⊢;refine yB Tryz.func54 rfl trivial (fun hb2=>?_) (fun hb2=>?_)
 ·have hb2:decide ((i:Int)<(W.length:Int))=true:=hb2;rw [decide_eq_true_eq]at hb2;have hlt:i<W.length:=by omega
  have hm:=List.getElem_mem hlt;obtain⟨w1,w2,w3⟩:=hw.2 _ hm;have w4:=hin _ hm;have ew:W[i]=(W[i].1,[]):=by rw [←w4]
  have eg:(W.map (·.1)).getD i 0=W[i].1:=by simp [hlt]
  have hrow:=zhy b [] hb (by decide) h qi c3 i (by omega) W[i].1 w1 w2;rw [←ew]at hrow;rw [List.drop_eq_getElem_cons hlt,z8s]at c5;rw [List.drop_eq_getElem_cons hlt,rowsV]at c4;have c6:OkS b (rowQ b i W[i] qi):=zl3 ⟨by omega,.inl w4⟩ c3;rw [←eg]at hrow;refine yW [0] Tryz.func54 rfl (by simp [andP]<;>omega) hrow ⟨⟨_,rfl,.refl _⟩,trivial⟩ (.refl _) ?_;refine yS Tryz.func54 rfl ?_ ?_
  ·show((out.map dSL).length+1)*16≤140737488355328∧True;rw [List.length_map,c2];exact⟨by omega,trivial⟩
  refine yE (ih (i+1,out++[rowV b i W[i] qi],rowQ b i W[i] qi) ⟨by simp only;omega,by simp [c2],c6,c4,c5⟩ (by simp only;omega)) ⟨erl rfl,erl rfl,erl rfl,erl rfl,erw rfl,trivial⟩ ⟨.of (by rw [zl2];rfl),.gL (by rw [List.map_append];rfl),trivial⟩
 ·have hb2:decide ((i:Int)<(W.length:Int))=false:=hb2;rw [decide_eq_false_iff_not]at hb2;obtain rfl:i=W.length:=by omega
  rw [List.drop_length]at c5 c4;have e5:bnd Q0 (fun l p=>rowsP b 0 W p l)=qi:=c5.trans (znc qi);rw [e5,c4,rowsV];refine zj 1 rfl ?_;exact yL Tryz.func54 rfl trivial (.refl _) (oAl rfl) ⟨rfl,rfl⟩ (o2:=[some (bRd b (stP qi) h)])
@[reducible] def zWt:D:=.ag [eI 0,nilD,nilD]
@[reducible] def zWtO:AObj:=.cells 28 [.d (eI 0),.d nilD,.d nilD]
@[reducible] def wtG(bad:Int)(i j:Nat):AObj:=.cells 28 [vI .i64 bad,.gs i,.gs j]
@[reducible] def wtN(bad:Int):AObj:=.cells 28 [vI .i64 bad,.d nilD,.d nilD]
@[reducible] def parW(x:PR Wt):AV:=match x with
 | .inl (a,e)=>tupOf [.d zWt,vI .i64 a,vI .i64 e]
 | .inr (t,e)=>tupOf [.d (eWt t),vI .i64 e,vI .i64 0]
def badQ(h:Sh)(b:List UInt8):PR Int:=bnd (wordP b kSat 0) fun _ p=>numP b (h.bads-1) p
def iniQ(h:Sh)(b:List UInt8):PR (List (List UInt8)):=bnd (bnd (badQ h b) fun _ p=>wordP b z58 p) fun _ p=>.inr ([],p)
def endI(h:Sh)(b:List UInt8):PR (List (List UInt8)):=bnd (iniQ h b) fun l p=>rowsP b 0 h.st p l
def insQ(h:Sh)(b:List UInt8):PR (List (List (List UInt8))):=bnd (endI h b) fun _ p=>.inr ([],p)
def endF(h:Sh)(b:List UInt8):PR (List (List (List UInt8))):=bnd (insQ h b) fun l p=>z2y b h.inw 201 p l
def lastQ(h:Sh)(b:List UInt8):PR (List (List (List UInt8))):=bnd (endF h b) fun l e=>if e<b.length then .inl (e,2)else .inr (l,e)
theorem zo2{h:Sh}{b:List UInt8}(hb:b.length≤100000):wtP h b=bnd (lastQ h b) fun l e=>.inr (⟨valP (badQ h b),lstP (endI h b),l⟩,e):=by
 unfold wtP lastQ endF insQ endI iniQ;rw [if_neg (by omega)];have hbq:badQ h b=bnd (wordP b kSat 0) fun _ p=>numP b (h.bads-1) p:=rfl
 rcases h1:wordP b kSat 0 with e|⟨u,p1⟩
 ·rw [hbq,h1];rfl
 ·rw [h1,z16]at hbq;rw [z16,hbq];rcases h2:numP b (h.bads-1) p1 with e|⟨bad,p2⟩
  ·rfl
  ·simp only [z16,zo3];rcases h3:wordP b z58 p2 with e|⟨u,p3⟩
   ·rfl
   ·simp only [z16];rcases h4:rowsP b 0 h.st p3 []with e|⟨ini,p4⟩
    ·rfl
    ·simp only [z16];rcases h5:z2y b h.inw 201 p4 []with e|⟨ins,p5⟩
     ·rfl
     ·simp only [z16];split
      ·rfl
      ·rfl
theorem zji{b s t:List UInt8}{p:Int}(h:isAt b p (s++t)=true):isAt b p s=true:=by
 unfold isAt at h ⊢;rw [Bool.and_eq_true]at h ⊢;refine⟨h.1,List.isPrefixOf_iff_prefix.2 ((List.prefix_append s t).trans (List.isPrefixOf_iff_prefix.1 h.2))⟩
theorem zmm{b:List UInt8}{k:Nat}{ws:List (Int×List UInt8)}{p:Int}(h:isAt b p [64]=false):z4b b k ws p=.inl (p,2):=by
 unfold z4b wordP;rw [if_neg]
 ·rfl
 ·intro h2;rw [List.append_assoc]at h2;rw [zji h2]at h;cases h
theorem zjp{α:Type}{b:List UInt8}{ws:List (Int×List UInt8)}(hw:WOk ws){q:PR α}(k:Nat)(h:OkS b q):OkS b (bnd q fun _ p=>z4b b k ws p):=
 h.bnd fun _ p _ h0 h1=>by
  have:=(zcm (b:=b) (k:=k) hw (p:=p.toNat) (by omega)).okS;rwa [Int.toNat_of_nonneg h0]at this
theorem zsq{h:Sh}{b:List UInt8}:OkS b (badQ h b):=by
 unfold badQ;exact(OkS.word (s:=kSat) (Int.le_refl 0) (by omega)).bnd fun _ p _ h0 h1=>.num h0 h1
theorem zt4{l:List Nd}(ty:Ty l):Wid (shL l).st∧Wid (shL l).inw:=by
 obtain⟨h1,h2⟩:=sh_in ty;have h3:=sh_st ty;have hl:=ty.small;refine⟨⟨?_,fun w hw=>?_⟩,⟨?_,fun w hw=>?_⟩⟩
 ·unfold shL;rw [List.length_map];have:=z1s l ze l.length;omega
 ·obtain⟨_,g2⟩:=h3 w hw;obtain⟨s,hs,rfl⟩:=List.mem_map.1 hw;obtain⟨_,_,_,s4,s5⟩:=z38 ty rfl hs;have e:(stL l s).1=wdN l (ln l s):=rfl;refine⟨by rw [e];exact s4,by rw [e];omega,?_⟩;rcases g2 with g2|g2
  ·rw [g2];decide
  ·unfold rowB at g2;rw [Bool.and_eq_true,decide_eq_true_eq]at g2;omega
 ·unfold shL;rw [List.length_map];have:=z1s l zy l.length;omega
 ·have g2:=h2 w hw;obtain⟨s,hs,rfl⟩:=List.mem_map.1 hw;obtain⟨_,_,_,s4,s5⟩:=z38 ty rfl hs;have e:(inL l s).1=wdN l (ln l s):=rfl;exact⟨by rw [e];exact s4,by rw [e];omega,by rw [g2];decide⟩
end Go.Proofs.YtbodbhpdelgpnaaGreatDoor
