/- A part of the proof. -/
import Derived.Test.YtbodbhpdelgpnaaGreatDoorP19
import Derived.Lib.ItoaLen
import Derived.Shelf.Strings.Search2
import Derived.Recover
import Derived.Shelf.Strings.OnBuilder
import Derived.Shelf.Small.Strs
set_option linter.unusedVariables false
set_option linter.unusedSimpArgs false
set_option linter.unusedSectionVars false
set_option maxRecDepth 100000
set_option maxHeartbeats 8000000
namespace Go.Proofs.YtbodbhpdelgpnaaGreatDoor
open Go Ab Go.RowKit Go.Lib
theorem z7i{l:Int}(h0:-9223372036854775808≤l)(h1:l≤9223372036854775807):(tItoa l).length≤21:=by
 have:=Go.Lib.itoa_length_le l h0 h1;simp only [tItoa];omega
structure SmW(t:Wt)(most:Nat):Prop where
 n:t.ins.length≤most
 i:t.init.length≤40
 r:∀s∈t.init,s.length≤200
 l:∀l∈t.ins,l.length≤40∧∀s∈l,s.length≤200
theorem z6q:∀(l:List (List UInt8)) (i:Nat),(∀s∈l,s.length≤200)→i+l.length≤1000000→(z1g i l).length≤l.length*223
 | [],i,_,_=>Nat.zero_le _
 | s::l,i,h,hi=>by
  rw [List.length_cons]at hi ⊢;have h1:=z6q l (i+1) (fun x hx=>h x (List.mem_cons_of_mem _ hx)) (by omega);have h2:=h s List.mem_cons_self;have h3:=z7i (l:=(i:Int)) (by omega) (by omega);rw [z1g];simp only [rowT,List.length_append,List.length_cons,List.length_nil];omega
theorem zax:∀(l:List (List (List UInt8))) (k:Nat),(∀x∈l,x.length≤40∧∀s∈x,s.length≤200)→k+l.length≤1000000→(z28 k l).length≤l.length*8943
 | [],k,_,_=>Nat.zero_le _
 | x::l,k,h,hi=>by
  rw [List.length_cons]at hi ⊢;have h1:=zax l (k+1) (fun x hx=>h x (List.mem_cons_of_mem _ hx)) (by omega);obtain⟨h2,h3⟩:=h x List.mem_cons_self;have h4:=z6q x 0 h3 (by omega);have h5:=z7i (l:=(k:Int)) (by omega) (by omega);rw [z28];simp only [z6z,List.length_append,List.length_cons,List.length_nil];omega
theorem zk0{t:Wt}{n:Nat}(h:SmW t n)(hn:n≤1000)(hb:0≤t.bad∧t.bad≤1000000):(wtT t).length≤9000+n*8943:=by
 have h1:=z6q t.init 0 h.r (by have:=h.i;omega);have h2:=zax t.ins 0 h.l (by have:=h.n;omega);have h3:=z7i (l:=t.bad) (by omega) (by omega);have h4:=h.n;have h5:=h.i;have h6:t.ins.length*8943≤n*8943:=Nat.mul_le_mul_right _ h4;simp only [wtT,kSat,z4z,kEnd,List.length_append,List.length_cons,List.length_nil];omega
def sameW(t u:Wt):Bool:=t.bad==u.bad&&decide (t.init=u.init)&&decide (t.ins=u.ins)
theorem z5t{t u:Wt}:sameW t u=true↔t=u:=by
 unfold sameW;rw [Bool.and_eq_true,Bool.and_eq_true,beq_iff_eq,decide_eq_true_eq,decide_eq_true_eq];constructor
 ·rintro⟨⟨h1,h2⟩,h3⟩;cases t;cases u;simp only at h1 h2 h3;rw [h1,h2,h3]
 ·rintro rfl;exact⟨⟨rfl,rfl⟩,rfl⟩
section
variable {h:Sh}(hi:∀w∈h.inw,w.2=[])(hb:h.bads≤1000000)
include hi hb
theorem zh6{t:Wt}(hr:z2a h t=true)(hl:(wtT t).length≤100000):wtP h (wtT t)=.inr (t,((wtT t).length:Int)):=by
 have:=zqm hi hr [] (by simpa using hl) hb;rwa [List.append_nil,if_pos rfl]at this
end
end Go.Proofs.YtbodbhpdelgpnaaGreatDoor
namespace Go.Proofs.YtbodbhpdelgpnaaGreatDoor
open Go Ab Go.RowKit
theorem z4w:∀{l:List (List UInt8)} {ws:List (Int×List UInt8)},rowsB l ws=true↔l.length=ws.length∧∀j,j<l.length→rowB (l.getD j []) ((ws.map (·.1)).getD j 0)=true
 | [],[]=>by simp [rowsB]
 | [],w::ws=>by simp [rowsB]
 | s::l,[]=>by simp [rowsB]
 | s::l,w::ws=>by
  rw [rowsB,Bool.and_eq_true,z4w];constructor
  ·rintro⟨h1,h2,h3⟩;refine⟨by simp [h2],fun j hj=>?_⟩;cases j with
   | zero=>simpa using h1
   | succ j=>simpa using h3 j (by simpa using hj)
  ·rintro⟨h1,h2⟩;refine⟨by simpa using h2 0 (by simp),by simpa using h1,fun j hj=>by simpa using h2 (j+1) (by simpa using hj)⟩
theorem zlw(c:UInt8):is01x c=isB c:=by
 unfold is01x isB;have h (n:Nat) (hn:n<256):(c.toNat==n)=(c==UInt8.ofNat n):=by
  rw [Bool.eq_iff_iff,beq_iff_eq,beq_iff_eq,←UInt8.toNat_inj,UInt8.toNat_ofNat',Nat.mod_eq_of_lt hn]
 rw [h 48 (by decide),h 49 (by decide),h 120 (by decide)];rfl
theorem zj4(s:List UInt8)(w:Int)(hl:s.length≤1000000000):ACall Tryz.prog 65 [vSL s,vI .i64 w] [] (fun r o=>r=vB (rowB s w)):=by
 refine yN Tryz.func65 fun C hC hCl hDs hGk=>?_;refine yB Tryz.func65 rfl trivial (fun h=>?_) (fun h=>?_);rotate_left
 ·have h:((((⟨s.toArray⟩:ByteArray).size:Nat):Int)==w)=false:=h;rw [zo,beq_eq_false_iff_ne]at h;refine yR Tryz.func65 rfl trivial ?_;unfold rowB;rw [decide_eq_false h];rfl
 have h:((((⟨s.toArray⟩:ByteArray).size:Nat):Int)==w)=true:=h;rw [zo,beq_iff_eq]at h;refine yC Tryz.func65 rfl trivial (zfm true s hl) (.refl _) ?_ (hr:=by rintro r o ⟨t,rfl,-⟩;rfl);rintro r o ⟨u,rfl,hu⟩;refine yR Tryz.func65 rfl trivial ?_;show vB ((⟨u.toArray⟩:ByteArray).toList==(⟨#[]⟩:ByteArray).toList)=_;rw [z5l];unfold rowB;rw [decide_eq_true h,Bool.true_and];congr 3;rw [Bool.eq_iff_iff,List.isEmpty_iff,List.all_eq_true];exact hu.trans ⟨fun hh c hc=>by rw [←zlw];exact hh c hc,fun hh c hc=>by
  show is01x c=true;rw [zlw];exact hh c hc⟩
theorem zjs(l:List (List UInt8))(ws:List (Int×List UInt8))(hs:∀s∈l,s.length≤1000000000):ACall Tryz.prog 64 [.d (eSs l),.d (eIs (ws.map (·.1))),.d (.v (.func (.func 65) #[] #[]))] [] (fun r o=>r=vB (rowsB l ws)):=by
 have hq:=@z4w l ws;generalize hv:ws.map (·.1)=v at *;have hvl:ws.length=v.length:=by rw [←hv,List.length_map]
 rw [hvl]at hq;generalize rowsB l ws=res at *;refine yN Tryz.func64 fun C hC hCl hDs hGk=>?_;refine z7a (t:=0) rfl fun hlen=>?_;rw [List.length_map]at hlen;have no:¬(l.length=v.length∧∀j,j<l.length→rowB (l.getD j []) (v.getD j 0)=true)→vB false=vB res:=fun h=>by
  cases res with
  | false=>rfl
  | true=>exact absurd (hq.1 rfl) h
 refine yB Tryz.func64 rfl trivial (fun h=>?_) (fun h=>?_)
 ·refine yR Tryz.func64 rfl trivial (no fun hh=>?_);simp [hh.1]at h
 have hl:l.length=v.length:=by simp at h;omega
 refine yS Tryz.func64 rfl trivial ?_;refine z8 (α:=Nat) (fun i=>[(1,.d (eIs v)),(2,.d (.v (.func (.func 65) #[] #[]))),(15,.d (eSs l)),(16,vI .i64 l.length),(17,vI .i64 i)]) (fun _=>[]) (fun i=>i≤l.length∧∀j,j<i→rowB (l.getD j []) (v.getD j 0)=true) (fun i=>l.length-i) 0 ⟨Nat.zero_le _,fun j hj=>by omega⟩ ?_ ?_
 ·exact fun h=>yE h ⟨erl rfl,erl rfl,erl rfl,⟨_,rfl,.of (by rw [List.length_map])⟩,erl rfl,trivial⟩ trivial
 rintro i ⟨hi,hc⟩ ih;refine yB Tryz.func64 rfl trivial (fun hb=>?_) (fun hb=>?_)<;>simp only [decide_eq_true_eq,decide_eq_false_iff_not,List.length_map]at hb
 ·have hlt:i<l.length:=by omega
  have hm:l.getD i []∈l:=by simp [hlt]
  refine yV Tryz.func64 rfl (by simp [andP]<;>omega) (zj4 (l.getD i []) (v.getD i 0) (hs _ hm)) (.refl _) ?_;refine yB Tryz.func64 rfl trivial (fun hb2=>?_) (fun hb2=>?_)
  ·refine yR Tryz.func64 rfl trivial (no fun hh=>?_);rw [hh.2 i hlt]at hb2;cases hb2
  ·refine yS Tryz.func64 rfl trivial ?_;refine yE (ih (i+1) ⟨by omega,fun j hj=>?_⟩ (by omega)) ⟨erl rfl,erl rfl,erl rfl,erl rfl,erw rfl,trivial⟩ trivial;rcases Nat.lt_or_ge j i with h2|h2
   ·exact hc j h2
   ·obtain rfl:j=i:=by omega
    simpa using hb2
 ·obtain rfl:i=l.length:=by omega
  refine yR Tryz.func64 rfl trivial ?_;rw [hq.2 ⟨hl,hc⟩];rfl
theorem zeo(l:List (List UInt8))(ws:List (Int×List UInt8))(hs:∀s∈l,s.length≤1000000000):ACall Tryz.prog 31 [.d (eSs l),.d (eIs (ws.map (·.1)))] [] (fun r o=>r=vB (rowsB l ws)):=by
 refine yN Tryz.func31 fun C hC hCl hDs hGk=>?_;refine yV Tryz.func31 rfl trivial (zjs l ws hs) (.refl _) ?_;exact yR Tryz.func31 rfl trivial rfl
theorem zn7{α:Type}{l:List α}{d:α}{p:α→Bool}(h:∀q,q<l.length→p (l.getD q d)=false):l.any p=false:=by
 rw [List.any_eq_false];intro a ha;obtain⟨q,hq,rfl⟩:=List.getElem_of_mem ha;have:=h q hq;rw [List.getD_eq_getElem?_getD,List.getElem?_eq_getElem hq]at this;simpa using this
theorem z3q{α:Type}{l:List α}{d:α}{q:Nat}(h:q<l.length):l.getD q d∈l:=by simp [h]
structure Plain(ob:AObj):Prop where
 ren:∀ρ,ob=ob.ren ρ
 refs:∀m,z60 m ob=true
theorem Plain.ro{ob:AObj}(h:Plain ob)(m:Nat):refsO m [some ob]=true:=by
 simp only [refsO,h.refs]
theorem zow(g:FuncId)(ob:AObj)(hob:Plain ob)(p:List (List UInt8)→Bool)(l:List (List (List UInt8)))(hp:∀a∈l,ACall Tryz.prog g [.d (eSs a),.ptr 0 0] [some ob] (fun r o=>r=vB (p a)∧o=[some ob]))(hl:l.length≤1000000):
  ACall Tryz.prog 66 [.d (eSss l),.fn (.func g) [.ptr 0 0]] [some ob] (fun r o=>∃k:Int,r=vI .i64 k∧decide (k≥0)=l.any p∧o=[some ob]):=by
 refine yN Tryz.func66 fun C hC hCl hDs hGk=>?_;refine yS Tryz.func66 rfl trivial ?_;refine z8 (α:=Nat) (fun j=>[(0,.d (eSss l)),(1,.fn (.func g) [.ptr 0 0]),(7,vI .i64 (l.length:Int)),(8,vI .i64 (j:Int))]) (fun j=>[some ob]) (fun j=>j≤l.length∧∀q,q<j→p (l.getD q [])=false) (fun j=>l.length-j) 0 ⟨Nat.zero_le _,fun q hq=>by omega⟩ ?_ ?_
 ·exact fun h=>yE h ⟨erl rfl,erl rfl,⟨_,rfl,.of (by rw [List.length_map])⟩,erl rfl,trivial⟩ (oAl rfl) (hro:=hob.ro _)
 rintro j ⟨hj,hall⟩ ih;refine yB Tryz.func66 rfl trivial (fun hb=>?_) (fun hb=>?_)<;>simp only [decide_eq_true_eq,decide_eq_false_iff_not]at hb
 ·have hlt:j<l.length:=by omega
  refine yW [0] Tryz.func66 rfl (by simp [andP]<;>omega) (hp (l.getD j []) (z3q hlt)) ⟨⟨_,rfl,.of (hob.ren _)⟩,trivial⟩ (.refl _) ?_ (hro:=hob.ro _);refine yB Tryz.func66 rfl trivial (fun g=>?_) (fun g=>?_)
  ·refine yL Tryz.func66 rfl trivial (.refl _) ⟨.of (hob.ren _).symm,trivial⟩ ⟨_,rfl,?_,rfl⟩ (hro:=hob.ro _) (o2:=[some ob]);have:l.any p=true:=List.any_eq_true.2 ⟨_,z3q hlt,g⟩;rw [this];exact decide_eq_true (by omega)
  ·have g:p (l.getD j [])=false:=g;refine yS Tryz.func66 rfl trivial ?_;refine yE (ih (j+1) ⟨by omega,fun q hq=>?_⟩ (by omega)) ⟨erl rfl,erl rfl,erl rfl,erw rfl,trivial⟩ ⟨.of (hob.ren _).symm,trivial⟩ (hro:=hob.ro _);rcases Nat.lt_or_ge q j with h|h
   ·exact hall q h
   ·obtain rfl:q=j:=by omega
    exact g
 ·obtain rfl:j=l.length:=by omega
  refine yL Tryz.func66 rfl trivial (.refl _) (oAl rfl) ⟨-1,rfl,?_,rfl⟩ (hro:=hob.ro _) (o2:=[some ob]);rw [zn7 hall];rfl
theorem zfh(g:FuncId)(ob:AObj)(hob:Plain ob)(p:List (List UInt8)→Bool)(l:List (List (List UInt8)))(hp:∀a∈l,ACall Tryz.prog g [.d (eSs a),.ptr 0 0] [some ob] (fun r o=>r=vB (p a)∧o=[some ob]))(hl:l.length≤1000000):
  ACall Tryz.prog 32 [.d (eSss l),.fn (.func g) [.ptr 0 0]] [some ob] (fun r o=>r=vB (l.any p)∧o=[some ob]):=by
 refine yN Tryz.func32 fun C hC hCl hDs hGk=>?_;refine yG [0] Tryz.func32 rfl trivial (zow g ob hob p l hp hl) ⟨⟨_,rfl,.of (hob.ren _)⟩,trivial⟩ (.refl _) ?_ (hro:=hob.ro _);rintro r o ⟨k,rfl,hk,rfl⟩;refine yL Tryz.func32 rfl trivial (.refl _) ⟨.of (hob.ren _).symm,trivial⟩ ⟨?_,rfl⟩ (hro:=hob.ro _) (o2:=[some ob]);show vB (decide (k≥0))=_;rw [hk]
@[reducible] def bSh(h:Sh):AObj:=.cells 63 [.d (eI h.bads),.d (eIs (h.st.map (·.1))),.d (eSs (h.st.map (·.2))),.d (eIs (h.inw.map (·.1))),.d (eI 200)]
theorem zn3(h:Sh):Plain (bSh h):=⟨fun _=>rfl,fun _=>rfl⟩
theorem zg0(h:Sh)(l:List (List UInt8))(hs:∀s∈l,s.length≤1000000000):ACall Tryz.prog 33 [.d (eSs l),.ptr 0 0] [some (bSh h)] (fun r o=>r=vB (!rowsB l h.inw)∧o=[some (bSh h)]):=by
 refine yN Tryz.func33 fun C hC hCl hDs hGk=>?_;refine yV Tryz.func33 rfl trivial (zeo l h.inw hs) (.refl _) ?_;exact yL Tryz.func33 rfl trivial (.refl _) (oAl rfl) ⟨rfl,rfl⟩ (o2:=[some (bSh h)])
theorem z8n:∀{l:List (List UInt8)} {ws:List (Int×List UInt8)},l.length=ws.length→(z4g l ws=true↔∀j,j<ws.length→(ws.map (·.2)).getD j []=[]∨l.getD j []=(ws.map (·.2)).getD j [])
 | [],[],_=>by simp [z4g]
 | s::l,w::ws,h=>by
  rw [z4g,Bool.and_eq_true,z8n (by simpa using h),Bool.or_eq_true,List.isEmpty_iff,beq_iff_eq];constructor
  ·rintro⟨h1,h2⟩ j hj;cases j with
   | zero=>simpa using h1
   | succ j=>simpa using h2 j (by simpa using hj)
  ·intro h1;exact⟨by simpa using h1 0 (by simp),fun j hj=>by simpa using h1 (j+1) (by simpa using hj)⟩
 | [],_::_,h=>by simp at h
 | _::_,[],h=>by simp at h
theorem strEq(a b:List UInt8):((⟨a.toArray⟩:ByteArray).toList==(⟨b.toArray⟩:ByteArray).toList)=decide (a=b):=by
 rw [ByteArray.toList_mk,ByteArray.toList_mk];by_cases h:a=b
 ·simp [h]
 ·simp [h]
theorem z71(l:List Nd)(hm:MdB l)(ty:Ty l)(t:Wt)(hi:∀s∈t.init,s.length≤1000000000)(hs:∀f∈t.ins,∀s∈f,s.length≤1000000000):ACall Tryz.prog 13 [.d (eBt l),.d (eWt t)] [] (fun r o=>r=vB (z2a (shL l) t)):=by
 refine yN Tryz.func13 fun C hC hCl hDs hGk=>?_;refine yV Tryz.func13 rfl trivial (zbp l hm ty) (.refl _) ?_;have hq:=@z2o (shL l) t;have hfl:(shL l).st.length≤1000000:=by
  unfold shL;simp only [List.length_map];exact Nat.le_trans (z1j l zb l.length) (Nat.le_of_lt ty.small)
 generalize shL l=h at *;have no:¬((0≤t.bad∧t.bad<h.bads∧1≤t.ins.length∧t.ins.length≤200)∧rowsB t.init h.st=true∧z4g t.init h.st=true∧∀l∈t.ins,rowsB l h.inw=true)→vB false=vB (z2a h t):=fun hn=>by
  cases hr:z2a h t with
  | false=>rfl
  | true=>exact absurd (hq.1 hr) hn
 refine yB Tryz.func13 rfl trivial (fun h1=>?_) (fun h1=>?_)
 ·have h1:decide (t.bad<0)=true:=h1;rw [decide_eq_true_eq]at h1;repeat refine yT Tryz.func13 rfl trivial ?_
  exact yR Tryz.func13 rfl trivial (no fun hh=>by omega)
 have h1:decide (t.bad<0)=false:=h1;rw [decide_eq_false_iff_not]at h1;refine yB Tryz.func13 rfl trivial (fun h2=>?_) (fun h2=>?_)
 ·have h2:decide (t.bad≥h.bads)=true:=h2;rw [decide_eq_true_eq]at h2;repeat refine yT Tryz.func13 rfl trivial ?_
  exact yR Tryz.func13 rfl trivial (no fun hh=>by omega)
 have h2:decide (t.bad≥h.bads)=false:=h2;rw [decide_eq_false_iff_not]at h2;refine yB Tryz.func13 rfl trivial (fun h3=>?_) (fun h3=>?_)
 ·have h3:decide (((t.ins.map eSs).length:Int)<1)=true:=h3;rw [decide_eq_true_eq,List.length_map]at h3;repeat refine yT Tryz.func13 rfl trivial ?_
  exact yR Tryz.func13 rfl trivial (no fun hh=>by omega)
 have h3:decide (((t.ins.map eSs).length:Int)<1)=false:=h3;rw [decide_eq_false_iff_not,List.length_map]at h3;refine yB Tryz.func13 rfl trivial (fun h4=>?_) (fun h4=>?_)
 ·have h4:decide (((t.ins.map eSs).length:Int)>200)=true:=h4;rw [decide_eq_true_eq,List.length_map]at h4;repeat refine yT Tryz.func13 rfl trivial ?_
  exact yR Tryz.func13 rfl trivial (no fun hh=>by omega)
 have h4:decide (((t.ins.map eSs).length:Int)>200)=false:=h4;rw [decide_eq_false_iff_not,List.length_map]at h4;refine yV Tryz.func13 rfl trivial (zeo t.init h.st hi) (.refl _) ?_;cases hr:rowsB t.init h.st with
 | false=>
  refine yT Tryz.func13 rfl trivial ?_;exact yR Tryz.func13 rfl trivial (no fun hh=>by rw [hr]at hh;cases hh.2.1)
 | true=>
  refine yF Tryz.func13 rfl trivial ?_;refine yS Tryz.func13 rfl trivial ?_;have hlen:=(z4w.1 hr).1;have hf:=z8n hlen;have hvl:h.st.length=(h.st.map (·.2)).length:=by rw [List.length_map]
  generalize hv:h.st.map (·.2)=v at *;rw [hvl]at hlen hf hfl;refine z8 (α:=Nat) (fun i=>[(3,.ptr 1 0),(5,.ptr 2 0),(43,.d (eSs v)),(44,vI .i64 (v.length:Int)),(45,vI .i64 (i:Int))]) (fun i=>[none,some (bWt t),some (bSh h)]) (fun i=>i≤v.length∧∀j,j<i→v.getD j []=[]∨t.init.getD j []=v.getD j []) (fun i=>v.length-i) 0 ⟨Nat.zero_le _,fun j hj=>by omega⟩ ?_ ?_
  ·refine fun hh=>yE hh ⟨erl rfl,erl rfl,erl rfl,⟨_,rfl,.of (by rw [List.length_map])⟩,erl rfl,trivial⟩ ⟨.refl _,.of ?_,trivial⟩;show _=AObj.cells 63 [.d (eI h.bads),.d (eIs (h.st.map (·.1))),.d (eSs (h.st.map (·.2))),.d (eIs (h.inw.map (·.1))),.d (eI 200)];rw [hv];rfl
  rintro i ⟨hi2,hc⟩ ih;refine yB Tryz.func13 rfl trivial (fun hb=>?_) (fun hb=>?_)<;>simp only [decide_eq_true_eq,decide_eq_false_iff_not]at hb
  ·have hlt:i<v.length:=by omega
   have ih:=ih (i+1);refine yB Tryz.func13 rfl (by simp [andP]<;>omega) (fun hb2=>?_) (fun hb2=>?_)
   ·have hb2:(!((⟨(v.getD (i:Int).toNat []).toArray⟩:ByteArray).toList==(⟨([]:List UInt8).toArray⟩:ByteArray).toList))=true:=hb2;rw [strEq,Int.toNat_natCast,Bool.not_eq_true',decide_eq_false_iff_not]at hb2;refine yB Tryz.func13 rfl (by simp [andP]<;>omega) (fun hb3=>?_) (fun hb3=>?_)
    ·have hb3:(!((⟨(t.init.getD (i:Int).toNat []).toArray⟩:ByteArray).toList==(⟨(v.getD (i:Int).toNat []).toArray⟩:ByteArray).toList))=true:=hb3;rw [strEq,Int.toNat_natCast,Bool.not_eq_true',decide_eq_false_iff_not]at hb3;refine yR Tryz.func13 rfl trivial (no fun hh=>?_);rcases(hf.1 hh.2.2.1) i hlt with h5|h5
     ·exact hb2 h5
     ·exact hb3 h5
    ·have hb3:(!((⟨(t.init.getD (i:Int).toNat []).toArray⟩:ByteArray).toList==(⟨(v.getD (i:Int).toNat []).toArray⟩:ByteArray).toList))=false:=hb3;rw [strEq,Int.toNat_natCast,Bool.not_eq_false',decide_eq_true_eq]at hb3;refine yS Tryz.func13 rfl trivial ?_;refine yE (ih ⟨by omega,fun j hj=>?_⟩ (by omega)) ⟨erl rfl,erl rfl,erl rfl,erl rfl,erw rfl,trivial⟩ (oAl rfl);rcases Nat.lt_or_ge j i with h5|h5
     ·exact hc j h5
     ·obtain rfl:j=i:=by omega
      exact .inr hb3
   ·have hb2:(!((⟨(v.getD (i:Int).toNat []).toArray⟩:ByteArray).toList==(⟨([]:List UInt8).toArray⟩:ByteArray).toList))=false:=hb2;rw [strEq,Int.toNat_natCast,Bool.not_eq_false',decide_eq_true_eq]at hb2;refine yF Tryz.func13 rfl trivial ?_;refine yS Tryz.func13 rfl trivial ?_;refine yE (ih ⟨by omega,fun j hj=>?_⟩ (by omega)) ⟨erl rfl,erl rfl,erl rfl,erl rfl,erw rfl,trivial⟩ (oAl rfl);rcases Nat.lt_or_ge j i with h5|h5
    ·exact hc j h5
    ·obtain rfl:j=i:=by omega
     exact .inl hb2
  ·obtain rfl:i=v.length:=by omega
   refine yW [2] Tryz.func13 rfl trivial (zfh _ _ (zn3 h) (fun f=>!rowsB f h.inw) t.ins (fun f hf=>zg0 h f (hs f hf)) (by omega)) ⟨⟨_,rfl,.refl _⟩,trivial⟩ (.refl _) ?_;refine yR Tryz.func13 rfl trivial ?_;show vB (!(t.ins.any fun f=>!rowsB f h.inw))=vB (z2a h t);congr 3;unfold z2a;rw [decide_eq_true (by omega),hr,hf.2 (by rw [←hvl]at hc ⊢;exact hc),Bool.true_and,Bool.true_and,Bool.true_and,List.not_any_eq_all_not];simp
theorem zh4(s:List UInt8)(c:UInt8):ACall Tryz.prog 96 [vTx s,vTx [c]] [] (fun r o=>r=vI .i64 (Go.Lib.indexByte s c)):=
 z6f (fun _ _=>Nat.le_refl _) rfl (vs:=[.string ⟨s.toArray⟩,.string ⟨#[c]⟩]) (fun w ok π us h=>by
  cases h with|cons h1 h=>cases h with|cons h2 h=>cases h with|nil=>
  cases h1 with|d h1=>cases h1 with|v _=>cases h2 with|d h2=>cases h2 with|v _=>rfl) (fun args w=>ze Tryz.func96 rfl rfl args w) fun w ht=>(Any.stringslite_Index_one Tryz.idxL ⟨s.toArray⟩ c w).mono fun e w' ⟨he,hw⟩=>⟨he,hw▸⟨rfl,rfl,rfl,Nat.le_refl _,fun b hb=>rfl⟩⟩
theorem zly(c:UInt8):∀s:List UInt8,-1≤Go.Lib.indexByte s c∧decide (Go.Lib.indexByte s c≥0)=s.any (·==c)
 | []=>by simp [Go.Lib.indexByte]
 | b::s=>by
  obtain⟨h1,h2⟩:=zly c s;rw [Go.Lib.indexByte,List.any_cons];cases hb:b==c with
  | true=>simp
  | false=>
   simp only [Bool.false_eq_true,if_false,Bool.false_or];by_cases h3:Go.Lib.indexByte s c=-1
   ·rw [h3]at h2 ⊢;rw [←h2];decide
   ·rw [if_neg (by rw [beq_iff_eq];exact h3),←h2];refine⟨by omega,?_⟩;rw [decide_eq_true (by omega),decide_eq_true (by omega)]
theorem zek(s:List UInt8)(c:UInt8):ACall Tryz.prog 70 [vSL s,vSL [c]] [] (fun r o=>r=vI .i64 (Go.Lib.indexByte s c)):=by
 refine yN Tryz.func70 fun C hC hCl hDs hGk=>?_;refine yV Tryz.func70 rfl trivial (zh4 s c) (.refl _) ?_;exact yR Tryz.func70 rfl trivial rfl
theorem zpu(s:List UInt8)(c:UInt8):ACall Tryz.prog 41 [vSL s,vSL [c]] [] (fun r o=>r=vB (s.any (·==c))):=by
 refine yN Tryz.func41 fun C hC hCl hDs hGk=>?_;refine yV Tryz.func41 rfl trivial (zek s c) (.refl _) ?_;refine yR Tryz.func41 rfl trivial ?_;rw [←(zly c s).2];rfl
def xS(s:List UInt8):Bool:=s.any (·==120)
def xL(l:List (List UInt8)):Bool:=l.any xS
def totB(t:Wt):Bool:=!(t.init::t.ins).any xL
@[reducible] def dFn(g:Nat):D:=.v (.func (.func g) #[] #[])
theorem zm2(s:List UInt8):ACall Tryz.prog 40 [vSL s] [] (fun r o=>r=vB (xS s)):=by
 refine yN Tryz.func40 fun C hC hCl hDs hGk=>?_;refine yV Tryz.func40 rfl trivial (zpu s 120) (.refl _) ?_;exact yR Tryz.func40 rfl trivial rfl
theorem zov(l:List (List UInt8)):ACall Tryz.prog 71 [.d (eSs l),.d (dFn 40)] [] (fun r o=>∃k:Int,r=vI .i64 k∧decide (k≥0)=xL l):=by
 refine yN Tryz.func71 fun C hC hCl hDs hGk=>?_;refine z7a (t:=0) rfl fun hlen=>?_;rw [List.length_map]at hlen;refine yS Tryz.func71 rfl trivial ?_;refine z8 (α:=Nat) (fun j=>[(0,.d (eSs l)),(1,.d (dFn 40)),(7,vI .i64 (l.length:Int)),(8,vI .i64 (j:Int))]) (fun j=>[]) (fun j=>j≤l.length∧∀q,q<j→xS (l.getD q [])=false) (fun j=>l.length-j) 0 ⟨Nat.zero_le _,fun q hq=>by omega⟩ ?_ ?_
 ·exact fun h=>yE h ⟨erl rfl,erl rfl,⟨_,rfl,.of (by rw [List.length_map])⟩,erl rfl,trivial⟩ trivial
 rintro j ⟨hj,hall⟩ ih;refine yB Tryz.func71 rfl trivial (fun hb=>?_) (fun hb=>?_)<;>simp only [decide_eq_true_eq,decide_eq_false_iff_not]at hb
 ·have hlt:j<l.length:=by omega
  refine yV Tryz.func71 rfl (by simp [andP]<;>omega) (zm2 (l.getD j [])) (.refl _) ?_;refine yB Tryz.func71 rfl trivial (fun g=>?_) (fun g=>?_)
  ·refine yR Tryz.func71 rfl trivial ⟨_,rfl,?_⟩;have:xL l=true:=List.any_eq_true.2 ⟨_,z3q hlt,g⟩;rw [this];exact decide_eq_true (by omega)
  ·have g:xS (l.getD j [])=false:=g;refine yS Tryz.func71 rfl trivial ?_;refine yE (ih (j+1) ⟨by omega,fun q hq=>?_⟩ (by omega)) ⟨erl rfl,erl rfl,erl rfl,erw rfl,trivial⟩ trivial;rcases Nat.lt_or_ge q j with h|h
   ·exact hall q h
   ·obtain rfl:q=j:=by omega
    exact g
 ·obtain rfl:j=l.length:=by omega
  refine yR Tryz.func71 rfl trivial ⟨-1,rfl,?_⟩;rw [xL,zn7 hall];rfl
theorem zmt(l:List (List UInt8)):ACall Tryz.prog 43 [.d (eSs l),.d (dFn 40)] [] (fun r o=>r=vB (xL l)):=by
 refine yN Tryz.func43 fun C hC hCl hDs hGk=>?_;refine yC Tryz.func43 rfl trivial (zov l) (.refl _) ?_ (hr:=by rintro r o ⟨k,rfl,-⟩;rfl);rintro r o ⟨k,rfl,hk⟩;refine yR Tryz.func43 rfl trivial ?_;show vB (decide (k≥0))=_;rw [hk]
@[reducible] def bHas:AObj:=.cells 73 [.d (dFn 40)]
theorem zjp:Plain bHas:=⟨fun _=>rfl,fun _=>rfl⟩
theorem zfr(l:List (List UInt8)):ACall Tryz.prog 42 [.d (eSs l),.ptr 0 0] [some bHas] (fun r o=>r=vB (xL l)∧o=[some bHas]):=by
 refine yN Tryz.func42 fun C hC hCl hDs hGk=>?_;refine yV Tryz.func42 rfl trivial (zmt l) (.refl _) ?_;exact yL Tryz.func42 rfl trivial (.refl _) (oAl rfl) ⟨rfl,rfl⟩ (o2:=[some bHas])
@[reducible] def gSss(l:List (List (List UInt8))):AObj:=gL 25 1 eSs [] l
theorem z8s(t:Wt)(hl:t.ins.length≤100000):ACall Tryz.prog 17 [.d (eWt t)] [] (fun r o=>r=vB (totB t)):=by
 refine yN Tryz.func17 fun C hC hCl hDs hGk=>?_;refine yX 14 Tryz.func17 rfl trivial ?_;refine zcx _ tabOk rfl rfl rfl rfl rfl trivial rfl ?_;refine yX 4 Tryz.func17 rfl ?_ ?_
 ·show([eSs t.init].length+(t.ins.map eSs).length)*24≤140737488355328∧True;rw [List.length_map];exact⟨by show(1+t.ins.length)*24≤_;omega,trivial⟩
 refine zh 2 rfl ?_;refine yW [1] Tryz.func17 rfl trivial (zfh _ _ zjp xL (t.init::t.ins) (fun f hf=>zfr f) (by simp;omega)) ⟨⟨_,rfl,.refl _⟩,trivial⟩ ⟨.eL rfl,.refl _,trivial⟩ ?_;exact yR Tryz.func17 rfl trivial rfl
theorem zpw(a b:List (List UInt8)):ACall Tryz.prog 37 [.d (eSs a),.d (eSs b)] [] (fun r o=>r=vB (decide (a=b))):=by
 refine yN Tryz.func37 fun C hC hCl hDs hGk=>?_;refine z7a (t:=0) rfl fun hlen=>?_;rw [List.length_map]at hlen;refine yB Tryz.func37 rfl trivial (fun h=>?_) (fun h=>?_)
 ·refine yR Tryz.func37 rfl trivial ?_;show vB false=vB _;have:a≠b:=by rintro rfl;simp at h
  simp [this]
 have hl:a.length=b.length:=by simp at h;omega
 refine yS Tryz.func37 rfl trivial ?_;refine z8 (α:=Nat) (fun i=>[(0,.d (eSs a)),(1,.d (eSs b)),(12,vI .i64 a.length),(13,vI .i64 i)]) (fun _=>[]) (fun i=>i≤a.length∧a.take i=b.take i) (fun i=>a.length-i) 0 ⟨Nat.zero_le _,rfl⟩ ?_ ?_
 ·exact fun h=>yE h ⟨erl rfl,erl rfl,⟨_,rfl,.of (by rw [List.length_map])⟩,erl rfl,trivial⟩ trivial
 rintro i ⟨hi,hc⟩ ih;refine yB Tryz.func37 rfl trivial (fun hb=>?_) (fun hb=>?_)<;>simp only [decide_eq_true_eq,decide_eq_false_iff_not,List.length_map]at hb
 ·have hlt:i<a.length:=by omega
  have hlb:i<b.length:=by omega
  have ea:a.getD i []=a[i]:=by simp [hlt]
  have eb:b.getD i []=b[i]:=by simp [hlb]
  refine yO 8 Tryz.func37 rfl trivial ?_;refine yq rfl ?_ ?_
  ·exact(by simp [andP]<;>omega)
  refine yB Tryz.func37 rfl trivial (fun hb2=>?_) (fun hb2=>?_)
  ·have hb2:(!((⟨(a.getD (i:Int).toNat []).toArray⟩:ByteArray).toList==(⟨(b.getD (i:Int).toNat []).toArray⟩:ByteArray).toList))=true:=hb2;rw [strEq,Int.toNat_natCast,Bool.not_eq_true',decide_eq_false_iff_not]at hb2;refine yR Tryz.func37 rfl trivial ?_;show vB false=vB _;have:a≠b:=by rintro rfl;exact hb2 rfl
   simp [this]
  ·have hb2:(!((⟨(a.getD (i:Int).toNat []).toArray⟩:ByteArray).toList==(⟨(b.getD (i:Int).toNat []).toArray⟩:ByteArray).toList))=false:=hb2;rw [strEq,Int.toNat_natCast,Bool.not_eq_false',decide_eq_true_eq,ea,eb]at hb2;refine yS Tryz.func37 rfl trivial ?_;refine yE (ih (i+1) ⟨by omega,?_⟩ (by omega)) ⟨erl rfl,erl rfl,erl rfl,erw rfl,trivial⟩ trivial;rw [List.take_add_one,List.take_add_one,hc,List.getElem?_eq_getElem hlt,List.getElem?_eq_getElem hlb,hb2]
 ·obtain rfl:i=a.length:=by omega
  rw [List.take_length,hl,List.take_length]at hc;refine yR Tryz.func37 rfl trivial ?_;show vB true=vB _;simp [hc]
theorem zbu(a b:List (List UInt8)):ACall Tryz.prog 36 [.d (eSs a),.d (eSs b)] [] (fun r o=>r=vB (decide (a=b))):=by
 refine yN Tryz.func36 fun C hC hCl hDs hGk=>?_;refine yV Tryz.func36 rfl trivial (zpw a b) (.refl _) ?_;exact yR Tryz.func36 rfl trivial rfl
theorem znj(a b:List (List (List UInt8))):ACall Tryz.prog 38 [.d (eSss a),.d (eSss b),.d (dFn 36)] [] (fun r o=>r=vB (decide (a=b))):=by
 refine yN Tryz.func38 fun C hC hCl hDs hGk=>?_;refine z7a (t:=0) rfl fun hlen=>?_;rw [List.length_map]at hlen;refine yB Tryz.func38 rfl trivial (fun h=>?_) (fun h=>?_)
 ·refine yR Tryz.func38 rfl trivial ?_;show vB false=vB _;have:a≠b:=by rintro rfl;simp at h
  simp [this]
 have hl:a.length=b.length:=by simp at h;omega
 refine yS Tryz.func38 rfl trivial ?_;refine z8 (α:=Nat) (fun i=>[(1,.d (eSss b)),(2,.d (dFn 36)),(15,.d (eSss a)),(16,vI .i64 a.length),(17,vI .i64 i)]) (fun _=>[]) (fun i=>i≤a.length∧a.take i=b.take i) (fun i=>a.length-i) 0 ⟨Nat.zero_le _,rfl⟩ ?_ ?_
 ·exact fun h=>yE h ⟨erl rfl,erl rfl,erl rfl,⟨_,rfl,.of (by rw [List.length_map])⟩,erl rfl,trivial⟩ trivial
 rintro i ⟨hi,hc⟩ ih;refine yB Tryz.func38 rfl trivial (fun hb=>?_) (fun hb=>?_)<;>simp only [decide_eq_true_eq,decide_eq_false_iff_not,List.length_map]at hb
 ·have hlt:i<a.length:=by omega
  have hlb:i<b.length:=by omega
  have ea:a.getD i []=a[i]:=by simp [hlt]
  have eb:b.getD i []=b[i]:=by simp [hlb]
  refine yV Tryz.func38 rfl (by simp [andP]<;>omega) (zbu (a.getD i []) (b.getD i [])) (.refl _) ?_;refine yB Tryz.func38 rfl trivial (fun hb2=>?_) (fun hb2=>?_)
  ·have hb2:a.getD i []≠b.getD i []:=by simpa using hb2
   refine yR Tryz.func38 rfl trivial ?_;show vB false=vB _;have:a≠b:=by rintro rfl;exact hb2 rfl
   simp [this]
  ·have hb2:a.getD i []=b.getD i []:=by simpa using hb2
   rw [ea,eb]at hb2;refine yS Tryz.func38 rfl trivial ?_;refine yE (ih (i+1) ⟨by omega,?_⟩ (by omega)) ⟨erl rfl,erl rfl,erl rfl,erl rfl,erw rfl,trivial⟩ trivial;rw [List.take_add_one,List.take_add_one,hc,List.getElem?_eq_getElem hlt,List.getElem?_eq_getElem hlb,hb2]
 ·obtain rfl:i=a.length:=by omega
  refine yR Tryz.func38 rfl trivial ?_;rw [List.take_length,hl,List.take_length]at hc;rw [decide_eq_true hc];rfl
theorem zim(s t:Wt):ACall Tryz.prog 15 [.d (eWt s),.d (eWt t)] [] (fun r o=>r=vB (sameW s t)):=by
 refine yN Tryz.func15 fun C hC hCl hDs hGk=>?_;refine yB Tryz.func15 rfl trivial (fun h1=>?_) (fun h1=>?_);rotate_left
 ·have h1:(s.bad==t.bad)=false:=h1;repeat refine yF Tryz.func15 rfl trivial ?_
  refine yR Tryz.func15 rfl trivial ?_;unfold sameW;rw [h1];rfl
 have h1:(s.bad==t.bad)=true:=h1;refine yV Tryz.func15 rfl trivial (zbu s.init t.init) (.refl _) ?_;cases h2:decide (s.init=t.init)with
 | false=>
  repeat refine yF Tryz.func15 rfl trivial ?_
  refine yR Tryz.func15 rfl trivial ?_;unfold sameW;rw [h1,h2];rfl
 | true=>
  refine yT Tryz.func15 rfl trivial ?_;refine yV Tryz.func15 rfl trivial (znj s.ins t.ins) (.refl _) ?_;refine yR Tryz.func15 rfl trivial ?_;unfold sameW;rw [h1,h2];rfl
end Go.Proofs.YtbodbhpdelgpnaaGreatDoor
namespace Ab
open Go
variable [Draws]
section
variable {P:Program}[Globals P]{T:Tab}{f:FuncId}{fn:Func}{n m:Nat}{C:Cx}{R:AV→List (Option AObj)→Prop}{todo todo' k:List Item}{env env0 env' envF:Env}{objs objs':List (Option AObj)}{nd:Prop}{ops:Array Oper}{l:List Oper}{K:Env→Prop}{X:Nat→Prop}
def memB(L:List Nat)(q:Nat):Bool:=L.any fun a=>Nat.beq a q
def dyB(DL:List (Tmp×Nat))(L:List Nat)(t:Tmp):Bool:=DL.any fun x=>Nat.beq x.1 t&&memB L x.2
structure StepK(C:Cx)(O:List Nat→List (Option AObj))(envF:Env)(DL:List (Tmp×Nat))(L:List Nat)(j:Nat)(π:List Value)(w:World)(π':List Value)(w2:World):Prop where
 mem:Mem C.X π' (O (j::L)) w2
 hist:Hist C.π C.objs C.w π (O L) w→Hist C.π C.objs C.w π' (O (j::L)) w2
 keep:∀t a v,look envF t=some a→dyB DL (j::L) t=false→RelV w (okOf C.X π (O L)) π a v→RelV w2 (okOf C.X π' (O (j::L))) π' a v
end
end Ab
namespace Ab
open Go
variable [Draws]
section
variable {P:Program}[Globals P]{T:Tab}{f:FuncId}{fn:Func}{n m:Nat}{C:Cx}{R:AV→List (Option AObj)→Prop}{todo todo' k:List Item}{env env0 env' envF:Env}{objs objs':List (Option AObj)}{nd:Prop}{ops:Array Oper}{l:List Oper}{K:Env→Prop}{X:Nat→Prop}
end
end Ab
namespace Ab
open Go
variable [Draws]
def znl(P:Program)[Globals P](f:FuncId)(az:List AV)(objs:List (Option AObj))(R:AV→List (Option AObj)→Prop)(Pn:D→Prop):Prop:=
 ∀X π w vs,GOk P π objs w→Mem X π objs w→RelVs w (okOf X π objs) π az vs→Invokes P f vs.toArray w (APost ⟨X,π,objs,w,[],Pn⟩ R)
theorem znl.mono{P:Program}[Globals P]{f:FuncId}{az:List AV}{objs:List (Option AObj)}{R R':AV→List (Option AObj)→Prop}{Pn Pn':D→Prop}(h:znl P f az objs R Pn)(hr:∀r o,R r o→R' r o)(hp:∀x,Pn x→Pn' x):znl P f az objs R' Pn':=
 fun X π w vs g m hv=>(h X π w vs g m hv).mono fun e w' hq=>hq.imp (fun⟨v,r,o,π',h1,h2,h3⟩=>⟨v,r,o,π',h1,hr _ _ h2,h3⟩) (fun⟨v,x,o,π',h1,h2,h3⟩=>⟨v,x,o,π',h1,hp _ h2,h3⟩)
section
variable {P:Program}[Globals P]{T:Tab}{f:FuncId}{fn:Func}{n:Nat}{C:Cx}{R:AV→List (Option AObj)→Prop}{todo todo':List Item}{env env':Env}{objs objs':List (Option AObj)}{nd:Prop}
end
end Ab
namespace Ab
open Go
variable [Draws]
section
variable {P:Program}[Globals P]{T:Tab}{f:FuncId}{fn:Func}{n:Nat}{C:Cx}{R:AV→List (Option AObj)→Prop}{todo todo' k:List Item}{env env':Env}{objs objs':List (Option AObj)}{nd:Prop}
end
section
variable {P:Program}[Globals P]
end
end Ab
namespace Ab
open Go
variable [Draws]
section
variable {P:Program}[Globals P]{T:Tab}{f:FuncId}{fn:Func}{n:Nat}{C:Cx}{R:AV→List (Option AObj)→Prop}{todo todo' k:List Item}{env env':Env}{objs objs':List (Option AObj)}{nd:Prop}
end
end Ab
namespace Ab
open Go
end Ab
namespace Ab
open Go
variable [Draws]
theorem VLe.dead{a:AV}:VLe a .dead:=fun _ _ _ _ _=>.dead
theorem VLe.tp{cs ds:List AV}(h:VLs cs ds):VLe (.tp cs) (.tp ds):=by
 intro w ok π v hv;cases hv with
 | tp h1=>exact .tp (h.rel h1)
end Ab
namespace Ab
open Go
variable [Draws]
section
variable {P:Program}[Globals P]{T:Tab}{f:FuncId}{fn:Func}{n:Nat}{C:Cx}{R:AV→List (Option AObj)→Prop}{todo k:List Item}{env env':Env}{objs:List (Option AObj)}{nd:Prop}{ops:Array Oper}
theorem zke(e:TypeId)(s:Nat)(rd:Nat→D)(kk:ASat P f n C todo env (objs++[some (.grow e s [] rd)]) R):ASat P f n C todo env objs R:=by
 intro π w tmps hn hm hh he;have htr:Tr C.X π objs w none (π++[.slice none 0 0]) (objs++[some (.grow e s [] rd)]) w:=z4k hm rfl rfl ⟨rfl,z17 (Nat.le_refl _)⟩ (Nat.le_refl _) (fun _ _=>rfl) _ _ (by intro b e;cases e) .gnil;exact kk _ w tmps hn htr.mem (z1y hh htr) (z52 he htr)
theorem ziu(i q j:Nat){e e':TypeId}{cs:List AV}{s:Nat}{rd:Nat→D}(hij:i≠j)(ho:nth objs i=some (some (.cells e cs)))(hc:nth (AV.drops j cs) q=some (.d (.v (.slice none 0 0))))(hj:nth objs j=some (some (.grow e' s [] rd)))
  (kk:ASat P f n C todo (z4o j env) (za (za (dropO j objs) j (some (.grow e' s [] rd))) i (some (.cells e (za (AV.drops j cs) q (.gs j))))) R):ASat P f n C todo env objs R:=by
 intro π w tmps hn hm hh he;obtain⟨h,hp,hrel⟩:=hm.obj j _ hj;have hsl:isSl h=true:=by cases hrel<;>rfl
 have htr:Tr C.X π objs w (some j) (za π j (.slice none 0 0)) (za (dropO j objs) j (some (.grow e' s [] rd))) w:=
  z4r hm hj hp hsl rfl rfl ⟨rfl,z17 (Nat.le_refl _)⟩ (Nat.le_refl _) (fun _ _ _=>rfl) (by intro b e;cases e) .gnil
 have hm1:=htr.mem;have hdrop:∀(l:List (Option AObj)) (i:Nat),nth l i=some (some (.cells e cs))→nth (dropO j l) i=some (some (.cells e (AV.drops j cs))):=by
  intro l;induction l with
  | nil=>intro i h;simp [nth]at h
  | cons a r ih=>
   intro i h;cases i with
   | zero=>
    simp only [nth,Option.some.injEq]at h;subst h;rfl
   | succ i=>
    have:=ih i (by simpa [nth]using h);cases a<;>simpa [dropO,nth]using this
 have ho1:nth (za (dropO j objs) j (some (.grow e' s [] rd))) i=some (some (.cells e (AV.drops j cs))):=by
  rw [z3o hij];exact hdrop objs i ho
 obtain⟨h',h5,h6⟩:=hm1.obj i _ ho1;cases h6 with
 | cells hb hcs hf=>
  rename_i b vs;obtain⟨v,hv1,hv2⟩:=hcs.get hc;have hv3:v=.slice none 0 0:=by cases hv2 with|d h=>cases h;rfl
  subst hv3;have htr2:=ze8 (o':=.cells e (za (AV.drops j cs) q (.gs j))) hm1 ho1 h5 (b:=b) rfl rfl rfl ⟨rfl,z17 (Nat.le_refl _)⟩ rfl (fun _ _=>rfl) ?_
  ·exact kk _ w tmps hn htr2.mem (z1y (z1y hh htr) htr2) (z52 (z52 he htr) htr2)
  ·have hrel:=hcs.set q (x:=.gs j) (v:=.slice none 0 0) (.gs (z1e hp));have hvs:vs.set q (.slice none 0 0)=vs:=by
    have:=z64 (l:=vs) (i:=q) (x:=.slice none 0 0) (by rw [z1i];exact hv1);rwa [z1n]at this
   rw [hvs]at hrel;exact .cells hb (hrel.mono (fun c off u h1 h2=>⟨(zda ho1 c).2 h1,h2⟩) (fun _ _ h=>h)) hf
theorem ziv{i:Nat}{r:List Nat}{o:Oper}{e2:Env}{xo yo:Operand}{t t2 e:TypeId}{inf:TypeInfo}(ho:ops[i]?=some o)(hw:wantE ops env o=.yes)(hop:o.op=.call { callee:=.builtin .append,args:=#[xo,yo],argTypes:=#[t,t2] })
  (hx:opnd env xo=some (.d (.v (.slice none 0 0)))) (hy:opnd env yo=some (.d (.v (.string ⟨#[]⟩)))) (ht:P.underlying t=some (.slice e)) (ht2:P.underlying t2=some .string) (hi:P.info? e=some inf) (hput:putE n o.dst (.d (.v (.slice none 0 0))) env=some e2)
  (h:ASat P f n C (.inRegion ops r::k) e2 objs R):ASat P f n C (.inRegion ops (i::r)::k) env objs R:=by
 refine z4s (.d (.v (.slice none 0 0))) ho hw (fun X π w tmps m he=>?_) hput h;have hax:=z5h (P:=P) he hx;have hay:=z5h (P:=P) he hy;have hrun:=z3m (P:=P) (w:=w) (w':=w) (t:=t) (t2:=t2) (ty:=o.type) (rest:=[]) ht (.inr ht2) hi (A:=none) (n:=0) (c:=0) (m:=0) (x:=.string ⟨#[]⟩) (us:=[]) (fun w'=>by simp [Builtin.lenOf];rfl) (by omega) (by simp [Builtin.firstCells]) (by simp);refine⟨.slice none 0 0,?_,.d (.v rfl)⟩;unfold execOp;simp only [hop];have hrun':(Builtin.append_ #[t,t2] o.type #[.slice none 0 0,.string ⟨#[]⟩]).run P w=.ok (.slice none 0 0) w:=hrun;simp [resolve,invoke,builtin,hax,hay,hrun']
end
end Ab
namespace Go.Proofs.YtbodbhpdelgpnaaGreatDoor
open Go Ab
@[reducible] def bld(i j:Nat)(a:Bool):List UInt8→AObj
 | []=>.cells 100 [match a with|true=>.ptr i 0|false=>.d (.v (.pointer none)),nilS]
 | _::_=>.cells 100 [.ptr i 0,.gs j]
theorem zmy(ρ:Nat→Nat)(i j:Nat)(a:Bool)(bs:List UInt8):(bld i j a bs).ren ρ=bld (ρ i) (ρ j) a bs:=by
 cases bs with
 | nil=>cases a<;>rfl
 | cons b r=>rfl
theorem zpm{i j m:Nat}(hi:i<m)(hj:j<m)(a:Bool)(bs:List UInt8):z60 m (bld i j a bs)=true:=by
 have h1:Nat.blt i m=true:=by simpa [Nat.blt_eq]using hi
 have h2:Nat.blt j m=true:=by simpa [Nat.blt_eq]using hj
 cases bs with
 | nil=>cases a<;>simp [z60,refsBs,refsB,h1,bld]
 | cons b r=>simp [z60,refsBs,refsB,h1,h2,bld]
@[reducible] def vStr(l:List UInt8):AV:=.d (.v (.string ⟨l.toArray⟩))
theorem zb6(a:Bool)(bs:List UInt8):refsO 2 [some (bld 0 1 a bs),some (gB bs)]=true:=by
 simp only [refsO,zpm (show 0<2 by decide) (show 1<2 by decide)];rfl
@[reducible] def wsR(s:List UInt8):AV:=.tp [vI .i64 (s.length:Int),.d (.v .nilIface)]
theorem zb5(a b:List UInt8):(⟨a.toArray⟩:ByteArray)++⟨b.toArray⟩=⟨(a++b).toArray⟩:=by
 apply ByteArray.ext;simp
theorem zec(s:List UInt8):(strEs ⟨s.toArray⟩).length=s.length:=by simp [strEs]
theorem zqi(s:List UInt8):vI .i64 (((⟨s.toArray⟩:ByteArray).size:Nat):Int)=vI .i64 (s.length:Int):=by
 rw [show(⟨s.toArray⟩:ByteArray).size=s.length by simp [ByteArray.size]]
theorem znb(a:Bool)(bs s:List UInt8)(hl:bs.length≤100000000)(hs:s.length≤100000000):ACall Tryz.prog 58 [.ptr 0 0,vStr s] [some (bld 0 1 a bs),some (gB bs)] (fun r o=>r=wsR s∧o=[some (bld 0 1 true (bs++s)),some (gB (bs++s))]):=by
 refine yN Tryz.func58 fun C hC hCl hDs hGk=>?_;cases bs with
 | nil=>
  cases a;all_goals
   first
   |refine yG [0] Tryz.func58 rfl trivial (z6v false) ⟨⟨_,rfl,.refl _⟩,trivial⟩ (.refl _) ?_
   |refine yG [0] Tryz.func58 rfl trivial (z6v true) ⟨⟨_,rfl,.refl _⟩,trivial⟩ (.refl _) ?_
   rintro r o ⟨rfl,rfl⟩;cases s with
   | nil=>
    refine yX 9 Tryz.func58 rfl trivial ?_;refine ziv rfl rfl rfl rfl rfl Tryz.underlying43 Tryz.underlying9 (by rfl) rfl ?_;refine yL Tryz.func58 rfl trivial (.of ?_) (oAl rfl) ⟨rfl,rfl⟩ (o2:=[some (bld 0 1 true []),some (gB [])]);rfl
   | cons c s=>
    refine ziu 0 1 1 (by decide) rfl rfl rfl ?_;refine yL Tryz.func58 rfl ?nd (.of ?_) ⟨.refl _,.gL ?_,trivial⟩ ⟨rfl,rfl⟩ (o2:=[some (bld 0 1 true (c::s)),some (gB (c::s))]);case nd=>
     show(0+(strEs ⟨(c::s).toArray⟩).length)*1≤140737488355328∧True;rw [zec];exact⟨by omega,trivial⟩
    ·show AV.tp [vI .i64 (((⟨(c::s).toArray⟩:ByteArray).size:Nat):Int),_]=_;rw [zqi]
    ·rfl
 | cons b bs=>
  refine yW [0,1] Tryz.func58 rfl trivial (zcg (b::bs)) ⟨⟨_,rfl,.refl _⟩,⟨_,rfl,.refl _⟩,trivial⟩ (.refl _) ?_;refine yL Tryz.func58 rfl ?nd (.of ?_) ⟨.refl _,.gL ?_,trivial⟩ ⟨rfl,rfl⟩ (o2:=[some (bld 0 1 true (b::bs++s)),some (gB (b::bs++s))])
  ·show(((b::bs).map eU8).length+(strEs ⟨s.toArray⟩).length)*1≤140737488355328∧True;rw [zec,List.length_map];exact⟨by omega,trivial⟩
  ·show AV.tp [vI .i64 (((⟨s.toArray⟩:ByteArray).size:Nat):Int),_]=_;rw [zqi]
  ·rw [List.map_append];rfl
theorem znk(a:Bool)(bs:List UInt8):ACall Tryz.prog 59 [.ptr 0 0] [some (bld 0 1 a bs),some (gB bs)] (fun r o=>r=vStr bs∧o=[none,none]):=by
 cases bs with
 | cons b bs=>exact z98 (b::bs) (by simp)
 | nil=>
  refine yN Tryz.func59 fun C hC hCl hDs hGk=>?_;cases a;all_goals
   refine yO 10 Tryz.func59 rfl trivial ?_;refine z2w 4 tabOk rfl trivial ?_;refine zji rfl Tryz.underlying139 rfl rfl rfl rfl rfl ?_;refine yq rfl trivial ?_;refine zfv rfl rfl rfl rfl rfl rfl ?_;exact yL Tryz.func59 rfl trivial (.refl _) trivial ⟨rfl,rfl⟩ (o2:=[none,none])
end Go.Proofs.YtbodbhpdelgpnaaGreatDoor
namespace Go.Proofs.YtbodbhpdelgpnaaGreatDoor
open Go Ab Go.RowKit
@[reducible] def bldT(a:Bool)(bs:List UInt8):List (Option AObj):=[some (bld 0 1 a bs),some (gB bs)]
theorem zhd{objs:List (Option AObj)}{i j:Nat}{a:Bool}{bs:List UInt8}(h1:nth objs i=some (some (bld i j a bs)))(h2:nth objs j=some (some (gB bs))):subR (rho [i,j] objs.length) objs [i,j] [some (bld 0 1 a bs),some (gB bs)]:=by
 refine⟨⟨_,h1,?_⟩,⟨_,h2,.refl _⟩,trivial⟩;rw [zmy];exact .refl _
theorem zap:∀(l:List (List UInt8)) (k:Nat) (s:List UInt8),z1g k (l++[s])=z1g k l++rowT (k+l.length) s
 | [],k,s=>by simp [z1g]
 | x::l,k,s=>by
  rw [List.cons_append,z1g,z1g,zap l (k+1) s,List.append_assoc,List.length_cons,show k+1+l.length=k+(l.length+1)by omega]
theorem zgc(l:List (List UInt8))(h:∀s∈l,s.length≤200)(hl:l.length≤1000)(i:Nat):(z1g 0 (l.take i)).length≤223000:=by
 have h1:=z6q (l.take i) 0 (fun s hs=>h s (List.mem_of_mem_take hs)) (by rw [List.length_take];omega);rw [List.length_take]at h1;omega
theorem zr1(i:Nat)(s:List UInt8):rowT i s=tItoa (i:Int)++[32]++s++[10]:=by
 unfold rowT;simp [List.append_assoc]
theorem sizeL(l:List UInt8):(⟨l.toArray⟩:ByteArray).size=l.length:=by
 show l.toArray.size=l.length;simp
theorem zc3(l:List (List UInt8))(hA:∀s∈l,s.length≤200)(hl:l.length≤1000):ACall Tryz.prog 26 [.d (eSs l)] [] (fun r o=>r=vStr (z1g 0 l)):=by
 refine yN Tryz.func26 fun C hC hCl hDs hGk=>?_;refine yX 7 Tryz.func26 rfl trivial ?_;refine zke 5 1 (fun i=>eU8 (([]:List UInt8).getD i 0)) ?_;refine yS Tryz.func26 rfl trivial ?_;have hlim:=zgc l hA hl;refine z8 (α:=Nat×Bool) (fun s=>[(3,.ptr 0 0),(6,.d (eSs l)),(7,vI .i64 l.length),(8,vI .i64 (s.1:Int))]) (fun s=>bldT s.2 (z1g 0 (l.take s.1))) (fun s=>s.1≤l.length) (fun s=>l.length-s.1) (0,false) (Nat.zero_le _) ?_ ?_
 ·exact fun h=>yE h ⟨erl rfl,erl rfl,⟨_,rfl,.of (by rw [List.length_map])⟩,erl rfl,trivial⟩ (oAl rfl)
 rintro⟨i,a⟩ hi ih;simp only at hi ih ⊢;refine yB Tryz.func26 rfl trivial (fun h=>?_) (fun h=>?_);rotate_left
 ·have h:decide ((i:Int)<(l.length:Int))=false:=h;rw [decide_eq_false_iff_not]at h;obtain rfl:i=l.length:=by omega
  rw [List.take_length];refine yW [0,1] Tryz.func26 rfl trivial (znk a (z1g 0 l)) (zhd rfl rfl) (.refl _) ?_ (hro:=zb6 _ _);exact yR Tryz.func26 rfl trivial rfl
 have h:decide ((i:Int)<(l.length:Int))=true:=h;rw [decide_eq_true_eq]at h;have hlt:i<l.length:=by omega
 have eg:l.getD i []=l[i]:=by simp [hlt]
 have hs:=hA _ (List.getElem_mem hlt);have hT0:=hlim i;have hi10:=z7i (l:=(i:Int)) (by omega) (by omega);have hnext:z1g 0 (l.take (i+1))=z1g 0 (l.take i)++rowT i (l.getD i []):=by
  rw [List.take_succ_eq_append_getElem hlt,zap,←eg,Nat.zero_add,List.length_take,Nat.min_eq_left (by omega)]
 rw [zr1]at hnext;rw [←eg]at hs;have ih:=fun a2=>ih (i+1,a2) (show i+1≤l.length by omega) (show l.length-(i+1)<l.length-i by omega)
 simp only [hnext]at ih;generalize z1g 0 (l.take i)=T0 at *;generalize hsi:l.getD i []=s at *;refine yV Tryz.func26 rfl (by simp [andP]<;>omega) (z6h (i:Int) (by omega) (by omega)) (.refl _) ?_;generalize tItoa (i:Int)=n at *;refine yW [0,1] Tryz.func26 rfl ?_ (znb a T0 (n++[32]++s++[10]) (by omega) (by simp only [List.length_append,List.length_cons,List.length_nil];omega)) (zhd rfl rfl) ⟨.refl _,.of ?_,trivial⟩ ?_ (hro:=zb6 _ _)
 ·rw [Int.toNat_natCast,hsi];simp only [zb5,sizeL,List.length_append,List.length_cons,List.length_nil];exact⟨by omega,by omega,by omega,trivial⟩
 ·show vStr _=vStr _;rw [Int.toNat_natCast,hsi];simp only [zb5]
 refine yS Tryz.func26 rfl trivial ?_;exact yE (ih true) ⟨erl rfl,erl rfl,erl rfl,erw rfl,trivial⟩ ⟨.of (zmy _ _ _ _ _),.refl _,trivial⟩ (hro:=zb6 _ _)
theorem joinX:Go.Proofs.Builder.Extra Tryz.prog Tryz.joinL_ren:={
 sizeBuilder:=by kernel_rfl
 liesBuilder:=by kernel_rfl
 t5:=Tryz.underlying5
 a5:=Tryz.isAgg5
 z5:=Tryz.sizeOf5
 v5:=Tryz.zeroValue5
 infoByte:=by kernel_rfl
 cellsByte:=by kernel_rfl
 sizeByte:=by kernel_rfl
 neB5:=by decide }
theorem znh(xs:List (List UInt8))(sep:List UInt8)(hne:xs≠[])(hN:xs.length≤1000000)(hl:(Go.Lib.join xs sep).length≤140737488355328):ACall Tryz.prog 27 [.d (eL 1 (fun x:List UInt8=>.v (.string ⟨x.toArray⟩)) [] xs),vTx sep] [] (fun r o=>r=vTx (Go.Lib.join xs sep)):=by
 intro X π w us hgk m hv;refine .inl ⟨ze Tryz.func27 rfl rfl _ _,?_⟩;cases hv with|cons hv ht=>cases ht with|cons hv2 ht=>cases ht with|nil=>
 cases hv2 with|d hv2=>cases hv2 with|v _=>
 cases hv with|d hv=>
 have hv':RelD w (okOf X π []) (.sl 1 (xs.map fun x=>D.v (.string ⟨x.toArray⟩)) (fun i=>D.v (Value.string ⟨(xs.getD i []).toArray⟩))) _:=hv;generalize hxs:(xs.map fun x=>D.v (Value.string ⟨x.toArray⟩))=ys at hv';cases hv' with
 | nil hb=>exact absurd (List.map_eq_nil_iff.1 hxs) hne
 | sl he hm hc hb hr=>
  rename_i b o c us;subst hxs;obtain rfl:=zd3 (enc:=fun x:List UInt8=>Value.string ⟨x.toArray⟩) he;have hcell:∀(j:Nat) x,(xs.map fun x=>(⟨x.toArray⟩:ByteArray))[j]?=some x→w.cell? ⟨b,o+j,none⟩=some (.string x):=by
   intro j x hj;rw [List.getElem?_map]at hj;obtain⟨y,hy,rfl⟩:=Option.map_eq_some_iff.1 hj;have hjl:=(List.getElem?_eq_some_iff.1 hy).1;rw [(hm j (by simpa using hjl)).2,List.getElem?_map,hy];rfl
  have hpos:0<xs.length:=List.length_pos_iff.2 hne;have hb0:b<w.heap.size:=z2x (hcell 0 _ (by rw [List.getElem?_map,List.getElem?_eq_getElem hpos];rfl));have hmm:(xs.map fun x=>(⟨x.toArray⟩:ByteArray)).map (·.data.toList)=xs:=by
   rw [List.map_map]
   conv=>rhs;rw [←List.map_id xs]
   exact List.map_congr_left fun x _=>rfl
  have hcall:=Any.strings_Join Tryz.joinL joinX b o c (xs.map fun x=>(⟨x.toArray⟩:ByteArray)) ⟨sep.toArray⟩ w hcell hb0 (by rw [List.length_map];omega) (by rw [List.length_map];simpa using hc) (by rw [hmm];exact hl);rw [hmm,List.length_map]at hcall;have hll:(xs.map fun x=>D.v (Value.string ⟨x.toArray⟩)).length=xs.length:=by simp
  rw [hll];refine Calls.mono hcall ?_;rintro e w' ⟨rfl,bl⟩;have t:=z38 m bl.os bl.tape ⟨bl.output,Nat.le_refl _⟩ bl.size bl.block;exact⟨_,_,[],π,rfl,rfl,t.mem,.d (.v rfl),t.hist⟩
@[reducible] def prW(h:Sh)(t:Wt):AV:=if z2a h t=true then tupOf [vTx (wtT t),vI .i64 0]else tupOf [vTx [],vI .i64 1]
def z92(t:Wt):List (List UInt8):=[kSat,tItoa t.bad,z4z,z1g 0 t.init]
def z3c:Nat→List (List (List UInt8))→List (List UInt8)
 | _,[]=>[]
 | k,l::r=>[[64]++tItoa (k:Int)++[10],z1g 0 l]++z3c (k+1) r
theorem zad:∀(r:List (List (List UInt8))) (k:Nat) (l:List (List UInt8)),z3c k (r++[l])=z3c k r++[[64]++tItoa ((k+r.length:Nat):Int)++[10],z1g 0 l]
 | [],k,l=>by simp [z3c]
 | x::r,k,l=>by
  rw [List.cons_append,z3c,z3c,zad r (k+1) l,←List.append_assoc,List.length_cons,show k+1+r.length=k+(r.length+1)by omega]
theorem zae:∀(r:List (List (List UInt8))) (k:Nat),(z3c k r).flatten=z28 k r
 | [],k=>rfl
 | x::r,k=>by
  rw [z3c,List.flatten_append,zae r (k+1),z28,z6z];simp
theorem zlr(x:List UInt8)(r:List (List UInt8)):Go.Lib.join (x::r) []=(x::r).flatten:=by
 rw [Go.Lib.join_cons,Go.Lib.joinTail,show(fun y:List UInt8=>[]++y)=id from rfl,List.map_id,List.flatten_cons]
theorem ze1(t:Wt):Go.Lib.join (z92 t++z3c 0 t.ins++[kEnd]) []=wtT t:=by
 unfold z92;rw [List.cons_append,List.cons_append,zlr,wtT];simp [zae,List.append_assoc]
theorem z73(l:List Nd)(hm:MdB l)(ty:Ty l)(t:Wt)(sm:SmW t 1000):ACall Tryz.prog 11 [.d (eBt l),.d (eWt t)] [] (fun r o=>r=prW (shL l) t):=by
 refine yN Tryz.func11 fun C hC hCl hDs hGk=>?_;refine yV Tryz.func11 rfl trivial (z71 l hm ty t (fun s hs=>by have:=sm.r s hs;omega) (fun f hf s hs=>by have:=(sm.l f hf).2 s hs;omega)) (.refl _) ?_;unfold prW;cases hr:z2a (shL l) t with
 | false=>
  refine yT Tryz.func11 rfl trivial ?_;exact yR Tryz.func11 rfl trivial rfl
 | true=>
  refine yF Tryz.func11 rfl trivial ?_;obtain⟨⟨b0,b1,n0,n1⟩,r1,r2,r3⟩:=z2o.1 hr;have hbl:(shL l).bads≤1000000:=by
   have:=z1j l kBad l.length;have:=ty.small;show(((allL l kBad l.length).length:Nat):Int)≤1000000;omega
  generalize shL l=h at *;refine yO 5 Tryz.func11 rfl trivial ?_;refine yQ Tryz.func25 rfl trivial (z6h t.bad (by omega) (by omega)) (.refl _) ?_;refine yq rfl trivial ?_;refine yV Tryz.func11 rfl trivial (zc3 t.init sm.r (by have:=sm.i;omega)) (.refl _) ?_;refine zcx _ tabOk rfl rfl rfl rfl rfl trivial rfl ?_;refine yS Tryz.func11 rfl trivial ?_;have hlen:∀i,i≤t.ins.length→((z92 t++z3c 0 (t.ins.take i)).map dSL).length=4+i*2:=fun i hi=>by
   have hp:∀(r:List (List (List UInt8))) (k:Nat),(z3c k r).length=r.length*2:=by
    intro r;induction r with
    | nil=>intro k;rfl
    | cons x r ih=>intro k;rw [z3c,List.length_append,ih,List.length_cons];simp;omega
   rw [List.length_map,List.length_append,hp,List.length_take,Nat.min_eq_left hi];rfl
  refine z8 (α:=Nat) (fun i=>[(6,.gs 2),(21,.d (eSss t.ins)),(22,vI .i64 (t.ins.length:Int)),(23,vI .i64 (i:Int))]) (fun i=>[none,none,some (gSs (z92 t++z3c 0 (t.ins.take i)))]) (fun i=>i≤t.ins.length) (fun i=>t.ins.length-i) 0 (Nat.zero_le _) ?_ ?_
  ·exact fun hh=>yE hh ⟨erl rfl,erl rfl,⟨_,rfl,.of (by rw [List.length_map])⟩,erl rfl,trivial⟩ ⟨.gL rfl,trivial⟩
  rintro i hi ih;refine yB Tryz.func11 rfl trivial (fun hb=>?_) (fun hb=>?_)<;>simp only [decide_eq_true_eq,decide_eq_false_iff_not]at hb
  ·have hlt:i<t.ins.length:=by omega
   have eg:t.ins.getD i []=t.ins[i]:=by simp [hlt]
   obtain⟨s1,s2⟩:=sm.l _ (List.getElem_mem hlt);have ih:=ih (i+1) (by omega) (by omega);have hl4:=hlen i hi;rw [List.take_succ_eq_append_getElem hlt,zad,←eg,Nat.zero_add,List.length_take,Nat.min_eq_left hi,←List.append_assoc]at ih;rw [←eg]at s1 s2;generalize z92 t++z3c 0 (t.ins.take i)=P at *;have hi10:=z7i (l:=(i:Int)) (by omega) (by omega);refine yV Tryz.func11 rfl (by simp [andP]<;>omega) (z6h (i:Int) (by omega) (by omega)) (.refl _) ?_;generalize tItoa (i:Int)=n at *;refine yV Tryz.func11 rfl ?_ (zc3 (t.ins.getD i []) s2 (by omega)) (.refl _) ?_
   ·simp only [zb5,sizeL,List.length_append,List.length_cons,List.length_nil];exact⟨by omega,by omega,trivial⟩
   refine yS Tryz.func11 rfl ?_ ?_
   ·show((P.map dSL).length+2)*16≤140737488355328∧True;rw [hl4];exact⟨by have:=sm.n;omega,trivial⟩
   refine yE ih ⟨erl rfl,erl rfl,erl rfl,erw rfl,trivial⟩ ⟨.gL ?_,trivial⟩;rw [List.map_append];simp only [zb5];rfl
  ·obtain rfl:i=t.ins.length:=by omega
   rw [List.take_length];refine yX 7 Tryz.func11 rfl ?_ ?_
   ·show(((z92 t++z3c 0 t.ins).map dSL).length+1)*16≤140737488355328∧True;have:=hlen _ (Nat.le_refl _);rw [List.take_length]at this;rw [this];exact⟨by have:=sm.n;omega,trivial⟩
   refine zh 2 rfl ?_;refine yV Tryz.func11 rfl trivial (znh (z92 t++z3c 0 t.ins++[kEnd]) [] (by simp) ?_ ?_) ⟨.eL ?_,.refl _,trivial⟩ ?_
   ·have:=hlen _ (Nat.le_refl _);rw [List.take_length,List.length_map]at this;rw [List.length_append,this,List.length_singleton];have:=sm.n;omega
   ·rw [ze1];have:=zk0 sm (Nat.le_refl _) (by omega);omega
   ·rw [List.map_append (l₁:=z92 t++z3c 0 t.ins)];rfl
   rw [ze1];exact yR Tryz.func11 rfl trivial rfl
end Go.Proofs.YtbodbhpdelgpnaaGreatDoor
namespace Ab
open Go
variable [Draws]
section
variable {P:Program}[Globals P]{T:Tab}{f:FuncId}{fn:Func}{n m:Nat}{C:Cx}{R:AV→List (Option AObj)→Prop}{todo todo' k:List Item}{env env0 env' envF:Env}{objs objs' objs1:List (Option AObj)}{nd:Prop}{ops:Array Oper}{X:Nat→Prop}{O:List Nat→List (Option AObj)}
def befB(ops:Array Oper):Nat→Nat→Nat→Bool
 | 0,_,_=>false
 | f+1,a,b=>z18 ops a b||(List.range a).any fun q=>z18 ops a q&&befB ops f q b
theorem z8d{L:List Nat}(hcl:∀q∈L,∀q',z18 ops q q'=true→q'∈L):∀f a b,befB ops f a b=true→a∈L→b∈L
 | 0,_,_,h,_=>by cases h
 | f+1,a,b,h,ha=>by
  simp only [befB,Bool.or_eq_true,List.any_eq_true,Bool.and_eq_true]at h;rcases h with h|⟨q,_,h1,h2⟩
  ·exact hcl a ha b h
  ·exact z8d hcl f q b h2 (hcl a ha q h1)
theorem zc7{o:Oper}{E:Env}{a:AV}{d:Nat}(hT:TabOk P T)(hw:wantE ops (restr E (o.looksAt ops)) o=.yes)
  (hs:pstep T o (restr E (o.looksAt ops)) objs=.ok a) (hdst:o.dst=some d) (hdn:Nat.blt d n=true) (hlook:look E d=some a):z34 P n X objs ops E o:=by
 intro π w tmps hsz hm hgk hlk;have he:z15 w (okOf X π objs) π (restr E (o.looksAt ops)) tmps:=fun t b ht=>by
  obtain⟨h1,h2⟩:=z19 ht;exact hlk t h1 b h2
 have hdo:=z3n (ds:=[]) hT hm he o;rw [hs]at hdo;obtain⟨v,d1,d2⟩:=hdo;refine .inr ⟨(zp he).1 hw,.inl ⟨v,w,d2 w (.refl w),.refl w,fun d' hd=>?_⟩⟩;rw [hdst]at hd;cases hd;exact⟨by simpa [Nat.blt_eq]using hdn,_,hlook,d1⟩
theorem zdo{L:List Nat}{j:Nat}{o:Oper}{o0:List (Option AObj)}(hOL:O L=o0)(hOj:O (j::L)=O L)(h:z34 P n X o0 ops envF o){π:List Value}{w:World}{tmps:Array Value}(hs:tmps.size=n)(hm:Mem X π (O L) w)(hgk:GOk P π (O L) w)(hl:∀t∈o.looksAt ops,∀a,look envF t=some a→RelV w (okOf X π (O L)) π a (tmps.getD t undef)):
  (Region.wanted o (yielded ops tmps)=false∧∃π',StepX X O m ops envF L j π w π' w∧PutOk n w (okOf X π' (O (j::L))) π' envF o undef) ∨
  (Region.wanted o (yielded ops tmps)=true ∧
   ((∃v w2 π',(execOp (Act.eval ⟨tmps,[]⟩) o).run P w=.ok (.value v) w2∧StepX X O m ops envF L j π w π' w2∧PutOk n w2 (okOf X π' (O (j::L))) π' envF o v) ∨
    (∃w2 π',(execOp (Act.eval ⟨tmps,[]⟩) o).run P w=.ok .skip w2∧StepX X O m ops envF L j π w π' w2∧PutOk n w2 (okOf X π' (O (j::L))) π' envF o undef) ∨
    (∃g args,(execOp (Act.eval ⟨tmps,[]⟩) o).run P w=.ok (.enter g args) w∧Calls P g args w fun e w2=>∃v π',e=.returned v∧StepX X O m ops envF L j π w π' w2∧PutOk n w2 (okOf X π' (O (j::L))) π' envF o v))):=by
 subst hOL;rcases h π w tmps hs hm hgk hl with⟨hw,hp⟩|⟨hw,⟨v,w2,hr,hlt,hp⟩|⟨g,args,hr,hc⟩⟩
 ·exact .inl ⟨hw,π,z2i hOj hm (.refl w),by rw [hOj];exact hp⟩
 ·exact .inr ⟨hw,.inl ⟨v,w2,π,hr,z2i hOj hm hlt,by rw [hOj];exact hp⟩⟩
 ·exact .inr ⟨hw,.inr (.inr ⟨g,args,hr,hc.mono fun e w2 ⟨v,h1,h2,h3⟩=>⟨v,π,h1,z2i hOj hm h2,by rw [hOj];exact h3⟩⟩)⟩
theorem zhz{j:Nat}{o:Oper}{E:Env}{a:AV}{c:Option Prop}{L:List Nat}(hT:TabOk P T)(hw:wantE ops (restr E (o.looksAt ops)) o=.yes)(hE:∀t∈o.looksAt ops,∀b,look E t=some b→look envF t=some b)
  (hs:estep T o (restr E (o.looksAt ops)) (O L)=some ⟨c,true,a,none,O (j::L)⟩) (hc:cond c) (hdst:o.dst=none) {π:List Value} {w:World} {tmps:Array Value} (hm:Mem X π (O L) w) (hlk:∀t∈o.looksAt ops,∀a,look envF t=some a→RelV w (okOf X π (O L)) π a (tmps.getD t undef)) :
  Region.wanted o (yielded ops tmps)=true∧∃w2 π',(execOp (Act.eval ⟨tmps,[]⟩) o).run P w=.ok .skip w2∧StepX X O m ops envF L j π w π' w2∧PutOk n w2 (okOf X π' (O (j::L))) π' envF o undef:=by
 have he:z15 w (okOf X π (O L)) π (restr E (o.looksAt ops)) tmps:=fun t b ht=>by
  obtain⟨h1,h2⟩:=z19 ht;exact hlk t h1 b (hE t h1 b h2)
 have hst:=z4h (ds:=[]) hT hm he o;rw [hs]at hst;obtain⟨v,w',π',h1,h2,_⟩:=hst hc;refine⟨(zp he).1 hw,w',π',h1,⟨h2.mem,h2.hist,fun t a u _ _ hu=>h2.keep _ _ hu⟩,fun d hd=>?_⟩;rw [hdst]at hd;cases hd
end
end Ab
namespace Ab
open Go
variable [Draws]
section
variable {P:Program}[Globals P]{T:Tab}{f:FuncId}{fn:Func}{n m:Nat}{C:Cx}{R:AV→List (Option AObj)→Prop}{todo todo' k:List Item}{env env0 env' envF:Env}{objs objs' objs1 objs2:List (Option AObj)}{nd:Prop}{ops:Array Oper}{X:Nat→Prop}{O:List Nat→List (Option AObj)}
theorem zis(m j1 j2 fuel:Nat)(late:List Nat){os1 os2:Oper}{E:Env}{a1 a2:AV}{c1 c2:Option Prop}{id:Nat}(hT:TabOk P T)(hf:P.funcs[f]?=some fn)(hmx:P.follows .mixedOrders=true)(h:srun T n fn.results.toList 2000 True todo env objs=.draw nd id ops k env' objs')(hn:nd)
  (hB:drawB ops m=true) (h1m:Nat.blt j1 m=true) (h2m:Nat.blt j2 m=true) (hne:Nat.beq j1 j2=false) (h21:befB ops fuel j2 j1=true) (hear:((List.range m).all fun j=>Nat.beq j j1||Nat.beq j j2||late.any (Nat.beq j)||befB ops fuel j1 j)=true)
  (hD:DSat P n C.X objs' ops (fun x=>x=E) (z13 ops m [(j1,none),(j2,none)]) env')
  (ho1:ops[j1]?=some os1) (hd1:os1.dst=none) (hw1:wantE ops (restr E (os1.looksAt ops)) os1=.yes)
  (hs1:estep T os1 (restr E (os1.looksAt ops)) objs'=some ⟨c1,true,a1,none,objs1⟩) (hc1:cond c1)
  (ho2:ops[j2]?=some os2) (hd2:os2.dst=none) (hw2:wantE ops (restr E (os2.looksAt ops)) os2=.yes)
  (hs2:estep T os2 (restr E (os2.looksAt ops)) objs1=some ⟨c2,true,a2,none,objs2⟩) (hc2:cond c2)
  (hlate:∀j∈late,∃o,ops[j]?=some o∧z34 P n C.X objs1 ops E o∧z34 P n C.X objs2 ops E o)
  (hk:ASat P f n C (.inRegion ops (List.range' m (ops.size-m))::k) E objs2 R) (hGk:GOk P C.π C.objs C.w:=by with_reducible assumption):ASat P f n C todo env objs R:=by
 obtain⟨E0,b1,b2,b3,rfl⟩:=hD;have hne:j1≠j2:=Nat.ne_of_beq_eq_false hne;have hq:∀{j:Nat} {o:Oper},j<m→j≠j1→j≠j2→ops[j]?=some o→o∈z13 ops m [(j1,none),(j2,none)]:=by
  intro j o hj n1 n2 ho;unfold z13;rw [List.mem_filterMap];refine⟨j,List.mem_filter.2 ⟨List.mem_range.2 hj,?_⟩,ho⟩;simp only [actB,List.any_cons,List.any_nil,Bool.or_false,Bool.not_eq_true',Bool.or_eq_false_iff];exact⟨by cases hx:Nat.beq j1 j with
   | false=>rfl
   | true=>exact absurd (Nat.eq_of_beq_eq_true hx).symm n1,by cases hx:Nat.beq j2 j with
   | false=>rfl
   | true=>exact absurd (Nat.eq_of_beq_eq_true hx).symm n2⟩
 suffices hcc:Cont P f n C R (.draw nd id ops k env' objs')from(z1k hT hf 2000 True todo env objs (by rw [h];exact hcc)).2
 refine⟨hn,z95 (O:=twoO j2 j1 objs' objs1 objs2) (envF:=E0) hmx hB ?_ (by simp [twoO]) (fun L hL=>by rw [twoO,if_pos (hL j2 (by simpa [Nat.blt_eq]using h2m))]) ?_ hk⟩
 ·intro j o hj ho L hLm hjL hdeps hcl π w tmps hsz hm hgk hlk;by_cases hj1:j=j1
  ·subst hj1;rw [ho1]at ho;cases ho;have h2L:j2∉L:=fun hh=>hjL (z8d hcl _ _ _ h21 hh)
   have hOL:twoO j2 j objs' objs1 objs2 L=objs':=by rw [twoO,if_neg h2L,if_neg hjL]
   have hOj:twoO j2 j objs' objs1 objs2 (j::L)=objs1:=by rw [twoO,if_neg (by rw [List.mem_cons];exact fun hh=>hh.elim (fun e=>hne e.symm) h2L),if_pos (List.mem_cons_self ..)]
   obtain⟨g1,w2,π',g2⟩:=zhz (n:=n) (m:=m) (ops:=ops) (O:=twoO j2 j objs' objs1 objs2) (L:=L) hT hw1 (fun _ _ _ h=>h) (by rw [hOL,hOj];exact hs1) hc1 hd1 hm hlk;exact .inr ⟨g1,.inr (.inl ⟨w2,π',g2⟩)⟩
  by_cases hj2:j=j2
  ·subst hj2;rw [ho2]at ho;cases ho;have h1L:j1∈L:=by
    have key:∀f b,befB ops f j b=true→b∈L:=by
     intro f b hb;cases f with
     | zero=>cases hb
     | succ f=>
      simp only [befB,Bool.or_eq_true,List.any_eq_true,Bool.and_eq_true]at hb;rcases hb with hb|⟨q,_,g1,g2⟩
      ·exact hdeps b hb
      ·exact z8d hcl f q b g2 (hdeps q g1)
    exact key _ _ h21
   have hOL:twoO j j1 objs' objs1 objs2 L=objs1:=by rw [twoO,if_neg hjL,if_pos h1L]
   have hOj:twoO j j1 objs' objs1 objs2 (j::L)=objs2:=by rw [twoO,if_pos (List.mem_cons_self ..)]
   obtain⟨g1,w2,π',g2⟩:=zhz (n:=n) (m:=m) (ops:=ops) (O:=twoO j j1 objs' objs1 objs2) (L:=L) hT hw2 (fun _ _ _ h=>h) (by rw [hOL,hOj];exact hs2) hc2 hd2 hm hlk;exact .inr ⟨g1,.inr (.inl ⟨w2,π',g2⟩)⟩
  have hOj:twoO j2 j1 objs' objs1 objs2 (j::L)=twoO j2 j1 objs' objs1 objs2 L:=zcs hj2 hj1;have inl:j1∈L→∃o2,ops[j]?=some o2∧z34 P n C.X objs1 ops E0 o2∧z34 P n C.X objs2 ops E0 o2:=fun hL=>by
   have g1:=List.all_eq_true.1 hear j (List.mem_range.2 hj);simp only [Bool.or_eq_true,List.any_eq_true]at g1;rcases g1 with((g1|g1)|⟨q,g2,g3⟩)|g1
   ·exact absurd (Nat.eq_of_beq_eq_true g1) hj1
   ·exact absurd (Nat.eq_of_beq_eq_true g1) hj2
   ·obtain rfl:=Nat.eq_of_beq_eq_true g3;exact hlate j g2
   ·exact absurd (z8d hcl _ _ _ g1 hL) hjL
  by_cases h2L:j2∈L
  ·have hOL:twoO j2 j1 objs' objs1 objs2 L=objs2:=by rw [twoO,if_pos h2L]
   obtain⟨o2,g4,_,g5⟩:=inl (z8d hcl _ _ _ h21 h2L);rw [ho]at g4;cases g4;exact zdo hOL hOj g5 hsz hm hgk hlk
  by_cases h1L:j1∈L
  ·have hOL:twoO j2 j1 objs' objs1 objs2 L=objs1:=by rw [twoO,if_neg h2L,if_pos h1L]
   obtain⟨o2,g4,g5,_⟩:=inl h1L;rw [ho]at g4;cases g4;exact zdo hOL hOj g5 hsz hm hgk hlk
  ·have hOL:twoO j2 j1 objs' objs1 objs2 L=objs':=by rw [twoO,if_neg h2L,if_neg h1L]
   exact zdo hOL hOj (b3 o (hq hj hj1 hj2 ho)) hsz hm hgk hlk
 ·intro t ht a ha;refine b1 t (fun o ho hd=>?_) a ha;unfold z13 at ho;rw [List.mem_filterMap]at ho;obtain⟨j,hj,ho⟩:=ho;have hj:=List.mem_range.1 (List.mem_filter.1 hj).1;have:=ht j hj;rw [zm.2 ⟨o,ho,hd⟩]at this;cases this
end
end Ab
namespace Go.Proofs.YtbodbhpdelgpnaaGreatDoor
open Go Ab Go.RowKit
@[reducible] def bRd(b:List UInt8)(st:Int×Int)(h:Sh):AObj:=.cells 88 [.d (eBy b),vI .i64 st.1,vI .i64 st.2,.d (eI h.bads),.d (eIs (h.st.map (·.1))),.d (eSs (h.st.map (·.2))),.d (eIs (h.inw.map (·.1))),.d (eI 200)]
theorem z3y{α:Type}(b s:List UInt8)(hb:b.length≤1000000)(hs:s.length≤1000000)(h:Sh)(q:PR α)(ok:OkS b q):ACall Tryz.prog 50 [.ptr 0 0,vTx s] [some (bRd b (stP q) h)] (fun r o=>r=.tp []∧o=[some (bRd b (stP (bnd q fun _ p=>wordP b s p)) h)]):=by
 refine yN Tryz.func50 fun C hC hCl hDs hGk=>?_;rcases q with⟨a,e⟩|⟨a,p⟩
 ·have hne:e≠0:=ok.1;refine yB Tryz.func50 rfl trivial (fun hh=>?_) (fun hh=>?_);rotate_left
  ·have hh:(!(e==0))=false:=hh;rw [Bool.not_eq_false',beq_iff_eq]at hh;exact absurd hh hne
  exact yL Tryz.func50 rfl trivial (.refl _) (oAl rfl) ⟨rfl,rfl⟩ (o2:=[some (bRd b (a,e) h)])
 ·obtain⟨p0,p1⟩:0≤p∧p≤b.length:=ok;refine yF Tryz.func50 rfl trivial ?_;refine yO 14 Tryz.func50 rfl trivial ?_;refine yQ Tryz.func53 rfl trivial (zh2 b p s hb hs) (.refl _) ?_;refine yq rfl trivial ?_;rw [z11];unfold wordP;cases hi:isAt b p s with
  | true=>
   rw [if_pos rfl];refine yF Tryz.func50 rfl trivial ?_;exact yL Tryz.func50 rfl trivial (.refl _) (oAl rfl) ⟨rfl,rfl⟩ (o2:=[some (bRd b (isTo b p s,0) h)])
  | false=>
   rw [if_neg (by decide)];have ht:=zrm p0 p1 hi;rw [ht];refine yT Tryz.func50 rfl trivial ?_;exact yL Tryz.func50 rfl trivial (.refl _) (oAl rfl) ⟨rfl,rfl⟩ (o2:=[some (bRd b (p,2) h)])
theorem z45{α β γ:Type}(q:PR α)(f:α→Int→PR β)(g:β→Int→PR γ):bnd (bnd q f) g=bnd q fun a p=>bnd (f a p) g:=by
 rcases q with e|⟨a,p⟩<;>rfl
theorem z78{α β:Type}(q:PR α)(f:α→β):stP (bnd q fun a p=>.inr (f a,p))=stP q:=by
 rcases q with e|⟨a,p⟩<;>rfl
theorem zq5{α:Type}{b:List UInt8}{q:PR α}(h:OkS b q):0≤(stP q).1∧(stP q).1≤b.length:=by
 rcases q with e|⟨a,p⟩
 ·exact h.2
 ·exact h
theorem zag{α β:Type}{b:List UInt8}{q:PR α}(h:OkS b q)(f:α→β):OkS b (bnd q fun a p=>.inr (f a,p)):=by
 rcases q with e|⟨a,p⟩
 ·exact h
 ·exact h
theorem z9g{α:Type}{b s:List UInt8}{q:PR α}(h:OkS b q):OkS b (bnd q fun _ p=>wordP b s p):=h.bnd fun _ _ _ h0 h1=>.word h0 h1
theorem zbv{α:Type}(b:List UInt8)(i:Nat)(w:Int){first:List UInt8}(hf:first≠[])(q:PR α):bnd q (fun _ p=>rowP b i (w,first) p)=bnd (bnd (bnd (bnd q fun _ p=>wordP b (tItoa (i:Int)++[32]) p) fun _ p=>wordP b first p) fun _ p=>wordP b [10] p) fun _ p=>.inr (first,p):=by
 have he:first.isEmpty=false:=by cases first with|nil=>exact absurd rfl hf|cons=>rfl
 rw [z45,z45,z45];unfold rowP;congr 1;funext _ p;congr 1;funext _ p;simp only [he,Bool.false_eq_true,if_false];rw [z45];rfl
theorem zep{α:Type}(b:List UInt8)(i:Nat)(w:Int)(q:PR α):bnd q (fun _ p=>rowP b i (w,[]) p)=bnd (bnd (bnd q fun _ p=>wordP b (tItoa (i:Int)++[32]) p) fun _ p=>bitsP b w.toNat p []) fun s p=>bnd (wordP b [10] p) fun _ r=>.inr (s,r):=by
 rw [z45,z45];rfl
theorem zpt(c:UInt8):ACall Tryz.prog 82 [vTx z3i,vI .u8 (c.toNat:Int)] [] (fun r o=>r=vI .i64 (Go.Lib.indexByte z3i c)):=
 z6f (fun _ _=>Nat.le_refl _) rfl (vs:=[.string ⟨z3i.toArray⟩,.int .u8 (c.toNat:Int)]) (fun w ok π us h=>by
  cases h with|cons h1 h=>cases h with|cons h2 h=>cases h with|nil=>
  cases h1 with|d h1=>cases h1 with|v _=>cases h2 with|d h2=>cases h2 with|v _=>rfl) (fun args w=>ze Tryz.func82 rfl rfl args w) fun w ht=>(Any.strings_IndexByte Tryz.ibL ⟨z3i.toArray⟩ (c.toNat:Int) w).mono fun e w' ⟨he,hw⟩=>⟨by rw [he,Int.toNat_natCast,show c.toNat.toUInt8=c from UInt8.ofNat_toNat],hw▸⟨rfl,rfl,rfl,Nat.le_refl _,fun b hb=>rfl⟩⟩
theorem zlx(c:UInt8):decide (Go.Lib.indexByte z3i c<0)=!isB c:=by
 obtain⟨h1,h2⟩:=zly c z3i;have h3:z3i.any (·==c)=isB c:=by
  unfold isB;have e:∀k:UInt8,(k==c)=(c==k):=fun k=>by rw [Bool.eq_iff_iff,beq_iff_eq,beq_iff_eq];exact eq_comm
  simp only [z3i,List.any_cons,List.any_nil,Bool.or_false,Bool.or_assoc,e]
 rw [←h3,←h2];by_cases h:Go.Lib.indexByte z3i c<0
 ·rw [decide_eq_true h,decide_eq_false (by omega)];rfl
 ·rw [decide_eq_false h,decide_eq_true (by omega)];rfl
def lstP{α:Type}(q:PR (List α)):List α:=match q with
 | .inl _=>[]
 | .inr (l,_)=>l
def rowV{α:Type}(b:List UInt8)(i:Nat)(w:Int×List UInt8)(q:PR α):List UInt8:=if w.2=[]then lstP (bnd (bnd q fun _ p=>wordP b (tItoa (i:Int)++[32]) p) fun _ p=>bitsP b w.1.toNat p [])else w.2
theorem zss{α β:Type}(q:PR (List β))(f:List β→Int→PR α){s:List β}{p:Int}(h:(bnd q fun s p=>bnd (f s p) fun _ r=>.inr (s,r))=.inr (s,p)):s=lstP q:=by
 rcases q with e|⟨l,p0⟩
 ·cases h
 ·rw [z11]at h;generalize f l p0=q3 at h;rcases q3 with e|⟨u,p1⟩
  ·cases h
  ·cases h;rfl
theorem zr0{α:Type}{b:List UInt8}{i:Nat}{w:Int×List UInt8}{q:PR α}{s:List UInt8}{p:Int}(h:(bnd q fun _ p=>rowP b i w p)=.inr (s,p)):s=rowV b i w q:=by
 obtain⟨w,first⟩:=w;unfold rowV;by_cases hf:first=[]
 ·subst hf;rw [if_pos rfl];rw [zep]at h;exact zss _ (fun _ p=>wordP b [10] p) h
 ·rw [if_neg hf];rw [zbv b i w hf]at h;generalize (bnd (bnd (bnd q fun _ p=>wordP b (tItoa (i:Int)++[32]) p) fun _ p=>wordP b first p) fun _ p=>wordP b [10] p)=q3 at h;rcases q3 with e|⟨a,p⟩
  ·cases h
  ·cases h;rfl
theorem zhk{α:Type}(b first:List UInt8)(hb:b.length≤1000000)(hf:first.length≤1000000)(h:Sh)(q:PR α)(ok:OkS b q)(i:Nat)(hi:i≤1000000)(w:Int)(w0:1≤w)(w1:w≤1000000):
  ACall Tryz.prog 52 [.ptr 0 0,vI .i64 (i:Int),vI .i64 w,vTx first] [some (bRd b (stP q) h)] (fun r o=>r=vTx (rowV b i (w,first) q)∧o=[some (bRd b (stP (bnd q fun _ p=>rowP b i (w,first) p)) h)]):=by
 refine yN Tryz.func52 fun C hC hCl hDs hGk=>?_;have hit:=z7i (l:=(i:Int)) (by omega) (by omega);refine yO 6 Tryz.func52 rfl trivial ?_;refine yQ Tryz.func25 rfl trivial (z6h (i:Int) (by omega) (by omega)) (.refl _) ?_;refine yq rfl ?_ ?_
 ·simp only [sizeL];exact⟨by show(tItoa (i:Int)).length+1≤_;omega,trivial⟩
 refine yW [0] Tryz.func52 rfl trivial (z3y b (tItoa (i:Int)++[32]) hb (by rw [List.length_append,List.length_singleton];omega) h q ok) ⟨⟨_,rfl,.refl _⟩,trivial⟩ ⟨.refl _,.of (congrArg (fun s=>AV.d (.v (.string s))) (zb5 _ _)),trivial⟩ ?_;have ok1:=z9g (s:=tItoa (i:Int)++[32]) ok;have hF:=fun hne=>zbv b i w (first:=first) hne q
 have hB:=zep b i w q;have hV:rowV b i (w,first) q=if first=[]then lstP (bnd (bnd q fun _ p=>wordP b (tItoa (i:Int)++[32]) p) fun _ p=>bitsP b w.toNat p [])else first:=rfl
 rw [hV];generalize (bnd q fun _ p=>wordP b (tItoa (i:Int)++[32]) p)=q1 at *;refine yB Tryz.func52 rfl trivial (fun hn=>?_) (fun hn=>?_)
 ·have hn:(!((⟨first.toArray⟩:ByteArray).toList==(⟨([]:List UInt8).toArray⟩:ByteArray).toList))=true:=hn;rw [strEq,Bool.not_eq_true',decide_eq_false_iff_not]at hn;rw [hF hn];refine yW [0] Tryz.func52 rfl trivial (z3y b first hb hf h q1 ok1) ⟨⟨_,rfl,.refl _⟩,trivial⟩ (.refl _) ?_;refine yW [0] Tryz.func52 rfl trivial (z3y b [10] hb (by decide) h _ (z9g ok1)) ⟨⟨_,rfl,.refl _⟩,trivial⟩ (.refl _) ?_;rw [z78 (f:=fun _=>first)];rw [if_neg hn];exact yL Tryz.func52 rfl trivial (.refl _) (oAl rfl) ⟨rfl,rfl⟩ (o2:=[some (bRd b _ h)])
 ·have hn:(!((⟨first.toArray⟩:ByteArray).toList==(⟨([]:List UInt8).toArray⟩:ByteArray).toList))=false:=hn;rw [strEq,Bool.not_eq_false',decide_eq_true_eq]at hn;subst hn;rw [hB,if_pos rfl];obtain⟨q2,hq2⟩:∃q2,(bnd q1 fun _ p=>bitsP b w.toNat p [])=q2:=⟨_,rfl⟩
  rw [hq2];have ok2:OkS b q2:=by
   rw [←hq2];exact ok1.bnd fun _ p _ h0 h1=>by
    have:=(zb7 (b:=b) w.toNat [] p.toNat (by omega)).okS;rwa [Int.toNat_of_nonneg h0]at this
  obtain⟨k2,k3⟩:=zq5 ok1;obtain⟨l2,l3⟩:=zq5 ok2;refine yS Tryz.func52 rfl trivial ?_;apply letK (p:=(stP q1).1≤(stP q2).1∧lstP q2=(b.drop (stP q1).1.toNat).take ((stP q2).1.toNat-(stP q1).1.toNat)→ASat Tryz.prog 52 Tryz.f52.ntmps C _ [(0,.ptr 0 0),(9,vI .i64 (stP q1).1)] [some (bRd b (stP q2) h)] (fun r o=>r=vTx (lstP q2)∧o=[some (bRd b (stP (bnd q2 fun s p=>bnd (wordP b [10] p) fun _ r=>.inr (s,r))) h)]))
  ·intro key;rcases q1 with⟨a,e⟩|⟨u,p0⟩
   ·have k1:e≠0:=ok1.1;obtain rfl:q2=.inl (a,e):=hq2.symm;refine za0 ?_;refine yB Tryz.func52 rfl trivial (fun _=>?_) (fun hh=>?_);rotate_left
    ·have hh:decide ((0:Int)<w)=false:=hh;rw [decide_eq_false_iff_not]at hh;omega
    refine yB Tryz.func52 rfl trivial (fun hh=>?_) (fun _=>?_)
    ·have hh:(e==0)=true:=hh;rw [beq_iff_eq]at hh;exact absurd hh k1
    refine yX 2 Tryz.func52 rfl trivial ?_;exact yE (key ⟨Int.le_refl _,by show([]:List UInt8)=List.take (a.toNat-a.toNat) (List.drop a.toNat b);rw [Nat.sub_self];rfl⟩) (eAl rfl) (oAl rfl)
   ·have e0:0≤p0∧p0≤b.length:=ok1;obtain⟨P,rfl⟩:∃P:Nat,p0=P:=⟨p0.toNat,by omega⟩
    rw [z11]at hq2;refine z8 (α:=Nat) (fun k=>[(0,.ptr 0 0),(2,vI .i64 w),(9,vI .i64 (P:Int)),(10,vI .i64 (k:Int))]) (fun k=>[some (bRd b (((P+k:Nat):Int),0) h)]) (fun k=>(k:Int)≤w∧P+k≤b.length∧bitsP b (w.toNat-k) ((P+k:Nat):Int) ((b.drop P).take k)=q2) (fun k=>w.toNat-k) 0 ⟨by omega,by omega,hq2⟩ ?_ ?_
    ·exact fun hh=>yE hh (eAl rfl) (oAl rfl)
    rintro k ⟨c1,c2,c3⟩ ih;refine yB Tryz.func52 rfl trivial (fun hk=>?_) (fun hk=>?_)
    ·have hk:decide ((k:Int)<w)=true:=hk;rw [decide_eq_true_eq]at hk;rw [show w.toNat-k=(w.toNat-(k+1))+1 by omega,bitsP,Int.toNat_natCast]at c3;refine yT Tryz.func52 rfl trivial ?_;refine yO 23 Tryz.func52 rfl trivial ?_;refine yb rfl trivial (fun hb2=>?_) (fun hb2=>?_)
     ·have hb2:decide (((P+k:Nat):Int)≥(((b.map eU8).length:Nat):Int))=true:=hb2;rw [decide_eq_true_eq,List.length_map]at hb2;rw [if_neg (by rintro⟨g,-⟩;omega)]at c3;subst c3;refine yq rfl trivial ?_;refine yT Tryz.func52 rfl trivial ?_;exact yL Tryz.func52 rfl trivial (.refl _) (oAl rfl) ⟨rfl,rfl⟩ (o2:=[some (bRd b (((P+k:Nat):Int),2) h)])
     ·have hb2:decide (((P+k:Nat):Int)≥(((b.map eU8).length:Nat):Int))=false:=hb2;rw [decide_eq_false_iff_not,List.length_map]at hb2;refine yq rfl trivial ?_;refine yV Tryz.func52 rfl ?_ (zpt (b.getD (P+k) 0)) (.refl _) ?_
      ·rw [List.length_map];exact⟨⟨by omega,by omega⟩,trivial⟩
      refine yB Tryz.func52 rfl trivial (fun hb3=>?_) (fun hb3=>?_)
      ·have hb3:decide (Go.Lib.indexByte z3i (b.getD (P+k) 0)<0)=true:=hb3;rw [zlx]at hb3;rw [if_neg (by rintro⟨-,g⟩;rw [g]at hb3;cases hb3)]at c3;subst c3;exact yL Tryz.func52 rfl trivial (.refl _) (oAl rfl) ⟨rfl,rfl⟩ (o2:=[some (bRd b (((P+k:Nat):Int),2) h)])
      ·have hb3:decide (Go.Lib.indexByte z3i (b.getD (P+k) 0)<0)=false:=hb3;rw [zlx,Bool.not_eq_false']at hb3;rw [if_pos ⟨by omega,hb3⟩]at c3;refine yS Tryz.func52 rfl trivial ?_;refine yE (ih (k+1) ⟨by omega,by omega,?_⟩ (by omega)) ⟨erl rfl,erl rfl,erl rfl,erw rfl,trivial⟩ ⟨.of ?_,trivial⟩
       ·rw [←c3,show((P+(k+1):Nat):Int)=((P+k:Nat):Int)+1 by omega,List.take_add_one];congr 1;simp [List.getD_eq_getElem?_getD,show P+k<b.length by omega]
       ·show bRd b (IntKind.i64.wrap (((P+k:Nat):Int)+1),0) h=_;rw [z7 (by omega) (by omega),show((P+k:Nat):Int)+1=((P+(k+1):Nat):Int)by omega]
    ·have hk:decide ((k:Int)<w)=false:=hk;rw [decide_eq_false_iff_not]at hk;rw [show w.toNat-k=0 by omega,bitsP]at c3;subst c3;refine yF Tryz.func52 rfl trivial ?_;refine yX 2 Tryz.func52 rfl trivial ?_;refine yE (key ⟨?_,?_⟩) (eAl rfl) (oAl rfl)
     ·show(P:Int)≤((P+k:Nat):Int);omega
     ·show(b.drop P).take k=(b.drop ((P:Nat):Int).toNat).take (((P+k:Nat):Int).toNat-((P:Nat):Int).toNat);rw [Int.toNat_natCast,Int.toNat_natCast,show P+k-P=k by omega]
  ·rintro⟨hle,hs⟩;generalize (stP q1).1=f at *;refine yO 11 Tryz.func52 rfl trivial ?_;refine yq rfl trivial ?_;have hcut:List.take ((stP q2).1-f).toNat (List.drop f.toNat (List.map eU8 b))=((b.drop f.toNat).take ((stP q2).1.toNat-f.toNat)).map eU8:=by
    rw [←List.map_drop,←List.map_take,show((stP q2).1-f).toNat=(stP q2).1.toNat-f.toNat by omega]
   refine yW [0] Tryz.func52 rfl ?_ (z3y b [10] hb (by decide) h q2 ok2) ⟨⟨_,rfl,.refl _⟩,trivial⟩ (.refl _) ?_
   ·rw [hcut,List.length_map];exact⟨zas _,⟨k2,hle,l3⟩,trivial⟩
   refine yL Tryz.func52 rfl trivial (.of ?_) (oAl rfl) ⟨rfl,?_⟩ (o2:=[some (bRd b _ h)])
   ·show vS (strD _)=_;rw [hcut,zfu,hs]
   ·rcases q2 with e|⟨s,p⟩
    ·rfl
    ·rw [z11,z11];exact congrArg (fun z=>[some (bRd b z h)]) (z78 (wordP b [10] p) (fun _=>s)).symm
def rowQ(b:List UInt8)(i:Nat)(w:Int×List UInt8)(q:PR (List (List UInt8))):PR (List (List UInt8)):=bnd q fun l p=>bnd (rowP b i w p) fun s p2=>.inr (l++[s],p2)
theorem zkn(b:List UInt8)(i:Nat)(w:Int×List UInt8)(q:PR (List (List UInt8))):stP (rowQ b i w q)=stP (bnd q fun _ p=>rowP b i w p):=by
 unfold rowQ;rcases q with e|⟨l,p⟩
 ·rfl
 ·rw [z11,z11];exact z78 (rowP b i w p) (fun s=>l++[s])
theorem zhl{b:List UInt8}{i:Nat}{w:Int×List UInt8}{q:PR (List (List UInt8))}{out:List (List UInt8)}(h1:∀l p,q=.inr (l,p)→l=out):∀l p,rowQ b i w q=.inr (l,p)→l=out++[rowV b i w q]:=fun l p h=>by
 have h2:=fun s p=>@zr0 _ b i w q s p
 generalize rowV b i w q=s at *;unfold rowQ at h;rcases q with e|⟨l0,p0⟩
 ·cases h
 ·rw [z11]at h h2;obtain rfl:=h1 _ _ rfl;rcases hr:rowP b i w p0 with e|⟨s0,p1⟩
  ·rw [hr]at h;cases h
  ·rw [hr,z11]at h;rw [hr]at h2;obtain rfl:=h2 _ _ rfl;cases h;rfl
def rowsV(b:List UInt8):Nat→List (Int×List UInt8)→PR (List (List UInt8))→List (List UInt8)→List (List UInt8)
 | _,[],_,out=>out
 | i,w::ws,q,out=>rowsV b (i+1) ws (rowQ b i w q) (out++[rowV b i w q])
theorem zko{b:List UInt8}{i:Nat}{w:Int×List UInt8}(hw:0≤w.1∧(w.2=[]∨rowB w.2 w.1=true)){q:PR (List (List UInt8))}(h:OkS b q):OkS b (rowQ b i w q):=by
 unfold rowQ;refine h.bnd fun l p _ h0 h1=>?_;have:=(zhj (b:=b) (i:=i) hw (p:=p.toNat) (by omega)).okS;rw [Int.toNat_of_nonneg h0]at this;exact zag this _
theorem z8i(b:List UInt8)(i:Nat)(w:Int×List UInt8)(ws:List (Int×List UInt8))(q:PR (List (List UInt8))):bnd q (fun l p=>rowsP b i (w::ws) p l)=bnd (rowQ b i w q) fun l p=>rowsP b (i+1) ws p l:=by
 unfold rowQ;rw [z45];congr 1;funext l p;rw [rowsP,z45];rfl
theorem zhi{b:List UInt8}:∀(ws:List (Int×List UInt8)) (i:Nat) (q:PR (List (List UInt8))) (out:List (List UInt8)),(∀l p,q=.inr (l,p)→l=out)→∀l p,(bnd q fun l p=>rowsP b i ws p l)=.inr (l,p)→l=rowsV b i ws q out
 | [],i,q,out,h,l,p,he=>by
  rcases q with e|⟨l0,p0⟩
  ·cases he
  ·rw [z11,rowsP]at he;cases he;exact h _ _ rfl
 | w::ws,i,q,out,h,l,p,he=>by
  rw [z8i]at he;exact zhi ws (i+1) _ _ (zhl h) l p he
theorem zmx{α:Type}(q:PR α):(bnd q fun a p=>.inr (a,p))=q:=by
 rcases q with e|⟨a,p⟩<;>rfl
def Wid(ws:List (Int×List UInt8)):Prop:=ws.length≤1000000∧∀w∈ws,1≤w.1∧w.1≤1000000∧w.2.length≤1000000
def headQ{α:Type}(b:List UInt8)(k:Nat)(q:PR α):PR (List (List UInt8)):=bnd (bnd q fun _ p=>wordP b ([64]++tItoa (k:Int)++[10]) p) fun _ p=>.inr ([],p)
def zi5{α:Type}(b:List UInt8)(k:Nat)(ws:List (Int×List UInt8))(q:PR α):List (List UInt8):=rowsV b 0 ws (headQ b k q) []
theorem zay{α:Type}(b:List UInt8)(k:Nat)(ws:List (Int×List UInt8))(q:PR α):(bnd q fun _ p=>z44 b k ws p)=bnd (headQ b k q) fun l p=>rowsP b 0 ws p l:=by
 unfold headQ;rw [z45,z45];rfl
theorem zrv{α:Type}{b:List UInt8}{k:Nat}{q:PR α}:∀l p,headQ b k q=.inr (l,p)→l=[]:=fun l p he=>by
 unfold headQ at he;generalize (bnd q fun _ p=>wordP b ([64]++tItoa (k:Int)++[10]) p)=q0 at he;rcases q0 with e|⟨a,p⟩
 ·cases he
 ·cases he;rfl
theorem zm6{α:Type}{b:List UInt8}{k:Nat}{ws:List (Int×List UInt8)}{q:PR α}{l:List (List UInt8)}{p:Int}(h:(bnd q fun _ p=>z44 b k ws p)=.inr (l,p)):l=zi5 b k ws q:=by
 rw [zay]at h;exact zhi ws 0 _ [] zrv l p h
theorem zja{α:Type}(b:List UInt8)(hb:b.length≤1000000)(h:Sh)(hin:∀w∈h.inw,w.2=[])(hw:Wid h.inw)(q:PR α)(ok:OkS b q)(k:Nat)(hk:k≤1000000):
  ACall Tryz.prog 54 [.ptr 0 0,vI .i64 (k:Int)] [some (bRd b (stP q) h)] (fun r o=>r=.d (eSs (zi5 b k h.inw q))∧o=[some (bRd b (stP (bnd q fun _ p=>z44 b k h.inw p)) h)]):=by
 refine yN Tryz.func54 fun C hC hCl hDs hGk=>?_;have hit:=z7i (l:=(k:Int)) (by omega) (by omega);refine yO 7 Tryz.func54 rfl trivial ?_;refine yQ Tryz.func25 rfl trivial (z6h (k:Int) (by omega) (by omega)) (.refl _) ?_;refine yq rfl ?_ ?_
 ·simp only [zb5,sizeL,List.length_append];exact⟨by show(1+(tItoa (k:Int)).length)+1≤_;omega,by show 1+(tItoa (k:Int)).length≤_;omega,trivial⟩
 refine yW [0] Tryz.func54 rfl trivial (z3y b ([64]++tItoa (k:Int)++[10]) hb (by simp only [List.length_append,List.length_singleton];omega) h q ok) ⟨⟨_,rfl,.refl _⟩,trivial⟩ ⟨.refl _,.of ?_,trivial⟩ ?_
 ·show AV.d (.v (.string _))=vTx _;simp only [zb5]
 have ok1:=z9g (s:=[64]++tItoa (k:Int)++[10]) ok;have hst:stP (headQ b k q)=stP (bnd q fun _ p=>wordP b ([64]++tItoa (k:Int)++[10]) p):=z78 _ fun _=>[]
 have ok2:OkS b (headQ b k q):=zag ok1 fun _=>[]
 rw [zay,←hst];unfold zi5;generalize headQ b k q=Q0 at *;obtain⟨W,hW⟩:∃W,h.inw=W:=⟨_,rfl⟩
 rw [hW]at hin hw ⊢;have hwl:=hw.1;refine yS Tryz.func54 rfl trivial ?_;refine z40 (s:=1) (e:=9) (t:=5) (.inl rfl) (fun i=>dSL (([]:List (List UInt8)).getD i [])) ?_;refine z8 (α:=Nat×List (List UInt8)×PR (List (List UInt8))) (fun s=>[(0,.ptr 0 0),(5,.gs 1),(20,.d (eIs (W.map (·.1)))),(21,vI .i64 (W.length:Int)),(22,vI .i64 (s.1:Int))]) (fun s=>[some (bRd b (stP s.2.2) h),some (gSs s.2.1)])
  (fun s=>s.1≤W.length∧s.2.1.length=s.1∧OkS b s.2.2∧rowsV b 0 W Q0 []=rowsV b s.1 (W.drop s.1) s.2.2 s.2.1∧bnd Q0 (fun l p=>rowsP b 0 W p l)=bnd s.2.2 fun l p=>rowsP b s.1 (W.drop s.1) p l) (fun s=>W.length-s.1) (0,[],Q0) ⟨Nat.zero_le _,rfl,ok2,rfl,rfl⟩ ?_ ?_
 ·refine fun hh=>yE hh ⟨erl rfl,erl rfl,⟨_,rfl,.of ?_⟩,⟨_,rfl,.of ?_⟩,erl rfl,trivial⟩ ⟨.refl _,.gL rfl,trivial⟩
  ·show AV.d (eIs (h.inw.map (·.1)))=_;rw [hW]
  ·show vI .i64 ((((h.inw.map (·.1)).map eI).length:Nat):Int)=_;rw [hW,List.length_map,List.length_map]
 rintro⟨i,out,qi⟩ ⟨c1,c2,c3,c4,c5⟩ ih;simp only at c1 c2 c3 c4 c5 ih ⊢;refine yB Tryz.func54 rfl trivial (fun hb2=>?_) (fun hb2=>?_)
 ·have hb2:decide ((i:Int)<(W.length:Int))=true:=hb2;rw [decide_eq_true_eq]at hb2;have hlt:i<W.length:=by omega
  have hm:=List.getElem_mem hlt;obtain⟨w1,w2,w3⟩:=hw.2 _ hm;have w4:=hin _ hm;have ew:W[i]=(W[i].1,[]):=by rw [←w4]
  have eg:(W.map (·.1)).getD i 0=W[i].1:=by simp [hlt]
  have hrow:=zhk b [] hb (by decide) h qi c3 i (by omega) W[i].1 w1 w2;rw [←ew]at hrow;rw [List.drop_eq_getElem_cons hlt,z8i]at c5;rw [List.drop_eq_getElem_cons hlt,rowsV]at c4;have c6:OkS b (rowQ b i W[i] qi):=zko ⟨by omega,.inl w4⟩ c3;rw [←eg]at hrow;refine yW [0] Tryz.func54 rfl (by simp [andP]<;>omega) hrow ⟨⟨_,rfl,.refl _⟩,trivial⟩ (.refl _) ?_;refine yS Tryz.func54 rfl ?_ ?_
  ·show((out.map dSL).length+1)*16≤140737488355328∧True;rw [List.length_map,c2];exact⟨by omega,trivial⟩
  refine yE (ih (i+1,out++[rowV b i W[i] qi],rowQ b i W[i] qi) ⟨by simp only;omega,by simp [c2],c6,c4,c5⟩ (by simp only;omega)) ⟨erl rfl,erl rfl,erl rfl,erl rfl,erw rfl,trivial⟩ ⟨.of (by rw [zkn];rfl),.gL (by rw [List.map_append];rfl),trivial⟩
 ·have hb2:decide ((i:Int)<(W.length:Int))=false:=hb2;rw [decide_eq_false_iff_not]at hb2;obtain rfl:i=W.length:=by omega
  rw [List.drop_length]at c5 c4;have e5:bnd Q0 (fun l p=>rowsP b 0 W p l)=qi:=c5.trans (zmx qi);rw [e5,c4,rowsV];refine zh 1 rfl ?_;exact yL Tryz.func54 rfl trivial (.refl _) (oAl rfl) ⟨rfl,rfl⟩ (o2:=[some (bRd b (stP qi) h)])
@[reducible] def zWt:D:=.ag [eI 0,nilD,nilD]
@[reducible] def zWtO:AObj:=.cells 28 [.d (eI 0),.d nilD,.d nilD]
@[reducible] def wtG(bad:Int)(i j:Nat):AObj:=.cells 28 [vI .i64 bad,.gs i,.gs j]
@[reducible] def wtN(bad:Int):AObj:=.cells 28 [vI .i64 bad,.d nilD,.d nilD]
@[reducible] def parW(x:PR Wt):AV:=match x with
 | .inl (a,e)=>tupOf [.d zWt,vI .i64 a,vI .i64 e]
 | .inr (t,e)=>tupOf [.d (eWt t),vI .i64 e,vI .i64 0]
def badQ(h:Sh)(b:List UInt8):PR Int:=bnd (wordP b kSat 0) fun _ p=>numP b (h.bads-1) p
def iniQ(h:Sh)(b:List UInt8):PR (List (List UInt8)):=bnd (bnd (badQ h b) fun _ p=>wordP b z4z p) fun _ p=>.inr ([],p)
def endI(h:Sh)(b:List UInt8):PR (List (List UInt8)):=bnd (iniQ h b) fun l p=>rowsP b 0 h.st p l
def insQ(h:Sh)(b:List UInt8):PR (List (List (List UInt8))):=bnd (endI h b) fun _ p=>.inr ([],p)
def endF(h:Sh)(b:List UInt8):PR (List (List (List UInt8))):=bnd (insQ h b) fun l p=>z2v b h.inw 201 p l
def lastQ(h:Sh)(b:List UInt8):PR (List (List (List UInt8))):=bnd (endF h b) fun l e=>if e<b.length then .inl (e,2)else .inr (l,e)
theorem znp{h:Sh}{b:List UInt8}(hb:b.length≤100000):wtP h b=bnd (lastQ h b) fun l e=>.inr (⟨valP (badQ h b),lstP (endI h b),l⟩,e):=by
 unfold wtP lastQ endF insQ endI iniQ;rw [if_neg (by omega)];have hbq:badQ h b=bnd (wordP b kSat 0) fun _ p=>numP b (h.bads-1) p:=rfl
 rcases h1:wordP b kSat 0 with e|⟨u,p1⟩
 ·rw [hbq,h1];rfl
 ·rw [h1,z11]at hbq;rw [z11,hbq];rcases h2:numP b (h.bads-1) p1 with e|⟨bad,p2⟩
  ·rfl
  ·simp only [z11,znq];rcases h3:wordP b z4z p2 with e|⟨u,p3⟩
   ·rfl
   ·simp only [z11];rcases h4:rowsP b 0 h.st p3 []with e|⟨ini,p4⟩
    ·rfl
    ·simp only [z11];rcases h5:z2v b h.inw 201 p4 []with e|⟨ins,p5⟩
     ·rfl
     ·simp only [z11];split
      ·rfl
      ·rfl
theorem zj5{b s t:List UInt8}{p:Int}(h:isAt b p (s++t)=true):isAt b p s=true:=by
 unfold isAt at h ⊢;rw [Bool.and_eq_true]at h ⊢;refine⟨h.1,List.isPrefixOf_iff_prefix.2 ((List.prefix_append s t).trans (List.isPrefixOf_iff_prefix.1 h.2))⟩
theorem zm7{b:List UInt8}{k:Nat}{ws:List (Int×List UInt8)}{p:Int}(h:isAt b p [64]=false):z44 b k ws p=.inl (p,2):=by
 unfold z44 wordP;rw [if_neg]
 ·rfl
 ·intro h2;rw [List.append_assoc]at h2;rw [zj5 h2]at h;cases h
theorem zjb{α:Type}{b:List UInt8}{ws:List (Int×List UInt8)}(hw:WOk ws){q:PR α}(k:Nat)(h:OkS b q):OkS b (bnd q fun _ p=>z44 b k ws p):=
 h.bnd fun _ p _ h0 h1=>by
  have:=(zcb (b:=b) (k:=k) hw (p:=p.toNat) (by omega)).okS;rwa [Int.toNat_of_nonneg h0]at this
theorem zs7{h:Sh}{b:List UInt8}:OkS b (badQ h b):=by
 unfold badQ;exact(OkS.word (s:=kSat) (Int.le_refl 0) (by omega)).bnd fun _ p _ h0 h1=>.num h0 h1
theorem zsl{l:List Nd}(ty:Ty l):Wid (shL l).st∧Wid (shL l).inw:=by
 obtain⟨h1,h2⟩:=sh_in ty;have h3:=sh_st ty;have hl:=ty.small;refine⟨⟨?_,fun w hw=>?_⟩,⟨?_,fun w hw=>?_⟩⟩
 ·unfold shL;rw [List.length_map];have:=z1j l zb l.length;omega
 ·obtain⟨_,g2⟩:=h3 w hw;obtain⟨s,hs,rfl⟩:=List.mem_map.1 hw;obtain⟨_,_,_,s4,s5⟩:=z2n ty rfl hs;have e:(stL l s).1=wdN l (ln l s):=rfl;refine⟨by rw [e];exact s4,by rw [e];omega,?_⟩;rcases g2 with g2|g2
  ·rw [g2];decide
  ·unfold rowB at g2;rw [Bool.and_eq_true,decide_eq_true_eq]at g2;omega
 ·unfold shL;rw [List.length_map];have:=z1j l zv l.length;omega
 ·have g2:=h2 w hw;obtain⟨s,hs,rfl⟩:=List.mem_map.1 hw;obtain⟨_,_,_,s4,s5⟩:=z2n ty rfl hs;have e:(inL l s).1=wdN l (ln l s):=rfl;exact⟨by rw [e];exact s4,by rw [e];omega,by rw [g2];decide⟩
theorem z59(l:List Nd)(hm:MdB l)(ty:Ty l)(b:List UInt8)(hbl:b.length≤9223372036854775807):ACall Tryz.prog 21 [.d (eBt l),.d (eBy b)] [] (fun r o=>r=parW (wtP (shL l) b)):=by
 refine yN Tryz.func21 fun C hC hCl hDs hGk=>?_;refine yB Tryz.func21 rfl trivial (fun hb=>?_) (fun hb=>?_)
 ·have hb:decide ((((b.map eU8).length:Nat):Int)>100000)=true:=hb;rw [decide_eq_true_eq,List.length_map]at hb;refine yR Tryz.func21 rfl trivial ?_;unfold wtP;rw [if_pos (by omega)];rfl
 have hb:decide ((((b.map eU8).length:Nat):Int)>100000)=false:=hb;rw [decide_eq_false_iff_not,List.length_map]at hb;have hb6:b.length≤1000000:=by omega
 refine yV Tryz.func21 rfl trivial (zbp l hm ty) (.refl _) ?_;obtain⟨wi1,wi2⟩:=zsl ty;obtain⟨in1,in2⟩:=sh_in ty;have st1:=sh_st ty;have hbl:(shL l).bads≤1000000∧0≤(shL l).bads:=by
  have:=z1j l kBad l.length;have:=ty.small;show(((allL l kBad l.length).length:Nat):Int)≤1000000∧(0:Int)≤((allL l kBad l.length).length:Nat);omega
 generalize shL l=h at *;rw [znp (by omega)];refine yW [2] Tryz.func21 rfl trivial (z3y b kSat hb6 (by decide) h (.inr ((),0):PR Unit) ⟨Int.le_refl 0,by omega⟩) ⟨⟨_,rfl,.refl _⟩,trivial⟩ (.refl _) ?_;rw [z11];have hbq:badQ h b=bnd (wordP b kSat 0) fun _ p=>numP b (h.bads-1) p:=rfl
 have okB:=zs7 (h:=h) (b:=b);have ok0:OkS b (wordP b kSat 0):=.word (Int.le_refl 0) (by omega);refine zt (env':=[(1,.d (eBy b)),(4,.ptr 1 0),(7,.ptr 2 0),(8,.ptr 3 0)]) (objs':=[none,some zWtO,some (bRd b (stP (wordP b kSat 0)) h),some (wtN 0)]) ?_ hC hCl ⟨⟨_,rfl,.refl _⟩,⟨_,rfl,.refl _⟩,⟨_,rfl,.refl _⟩,⟨_,rfl,.refl _⟩,trivial⟩ ⟨.refl _,.refl _,.refl _,trivial⟩ rfl rfl (Nat.zero_le _);apply letK (p:=ASat Tryz.prog 21 Tryz.f21.ntmps C _ [(1,.d (eBy b)),(4,.ptr 1 0),(7,.ptr 2 0),(8,.ptr 3 0)] [none,some zWtO,some (bRd b (stP (badQ h b)) h),some (wtN (valP (badQ h b)))] (fun r o=>r=parW (bnd (lastQ h b) fun l e=>.inr (⟨valP (badQ h b),lstP (endI h b),l⟩,e))))
 ·intro key;rcases h1:wordP b kSat 0 with⟨a,e⟩|⟨u,p1⟩
  ·rw [h1]at ok0 hbq;refine yB Tryz.func21 rfl trivial (fun hh=>?_) (fun _=>?_)
   ·have hh:(e==0)=true:=hh;rw [beq_iff_eq]at hh;exact absurd hh ok0.1
   refine yX 2 Tryz.func21 rfl trivial ?_;exact yE key (eAl rfl) ⟨.refl _,.of (by rw [hbq];rfl),.of (by rw [hbq];rfl),trivial⟩
  ·rw [h1]at ok0 hbq;obtain⟨p0,pl⟩:0≤p1∧p1≤b.length:=ok0;rw [z11]at hbq;refine yT Tryz.func21 rfl trivial ?_;have hw1:IntKind.i64.wrap (h.bads-1)=h.bads-1:=z7 (by omega) (by omega);refine zis 25 20 24 30 [0,1,17,18,21,22,23] (c1:=none) (c2:=none) tabOk Tryz.func21 rfl rfl trivial (by kernel_rfl) rfl rfl rfl (by kernel_rfl) (by kernel_rfl)
    (yQ Tryz.func51 rfl trivial (zh1 b p1 (h.bads-1) hb6) ⟨.refl _,.refl _,.of (congrArg (fun z=>vI .i64 z) hw1),trivial⟩ (yq rfl trivial rfl))
    rfl rfl rfl rfl trivial rfl rfl rfl rfl trivial ?_ ?_
   ·have hop:∀{j:Nat} {E:Env} {ops:Array Oper} {o1 o2:List (Option AObj)},(∃(o:Oper) (d:Nat) (a:AV),ops[j]?=some o∧wantE ops (restr E (o.looksAt ops)) o=.yes∧pstep tab o (restr E (o.looksAt ops)) o1=.ok a∧pstep tab o (restr E (o.looksAt ops)) o2=.ok a∧o.dst=some d∧Nat.blt d Tryz.f21.ntmps=true∧Ab.look E d=some a)→∃o,ops[j]?=some o∧z34 Tryz.prog Tryz.f21.ntmps C.X o1 ops E o∧z34 Tryz.prog Tryz.f21.ntmps C.X o2 ops E o:=by
     rintro j E ops o1 o2 ⟨o,d,a,g1,g2,g3,g4,g5,g6,g7⟩;exact⟨o,g1,zc7 tabOk g2 g3 g5 g6 g7,zc7 tabOk g2 g4 g5 g6 g7⟩
    refine List.forall_mem_cons.2 ⟨hop ⟨_,_,_,rfl,rfl,rfl,rfl,rfl,rfl,rfl⟩,List.forall_mem_cons.2 ⟨hop ⟨_,_,_,rfl,rfl,rfl,rfl,rfl,rfl,rfl⟩,List.forall_mem_cons.2 ⟨hop ⟨_,_,_,rfl,rfl,rfl,rfl,rfl,rfl,rfl⟩,List.forall_mem_cons.2 ⟨hop ⟨_,_,_,rfl,rfl,rfl,rfl,rfl,rfl,rfl⟩,List.forall_mem_cons.2 ⟨hop ⟨_,_,_,rfl,rfl,rfl,rfl,rfl,rfl,rfl⟩,List.forall_mem_cons.2 ⟨hop ⟨_,_,_,rfl,rfl,rfl,rfl,rfl,rfl,rfl⟩,List.forall_mem_cons.2 ⟨hop ⟨_,_,_,rfl,rfl,rfl,rfl,rfl,rfl,rfl⟩,fun x h=>by cases h⟩⟩⟩⟩⟩⟩⟩
   ·have e1:stP (badQ h b)=((numR b p1 (h.bads-1)).2.1,(numR b p1 (h.bads-1)).2.2)∧valP (badQ h b)=(numR b p1 (h.bads-1)).1:=by
     rw [hbq];unfold numP;by_cases hz:(numR b p1 (h.bads-1)).2.2≠0
     ·rw [if_pos hz];obtain⟨z1,z2⟩:=zrb p0 pl hz;rw [z1,z2];exact⟨rfl,rfl⟩
     ·rw [if_neg hz];refine⟨?_,rfl⟩;rw [Decidable.not_not.1 hz];rfl
    refine yX 5 Tryz.func21 rfl trivial ?_;exact yE key (eAl rfl) ⟨.refl _,.of (by rw [e1.1];rfl),.of (by rw [e1.2];rfl),trivial⟩
 ·refine yW [2] Tryz.func21 rfl trivial (z3y b z4z hb6 (by decide) h (badQ h b) okB) ⟨⟨_,rfl,.refl _⟩,trivial⟩ (.refl _) ?_;have okI:OkS b (iniQ h b):=zag (z9g okB) fun _=>[]
  have hsI:stP (iniQ h b)=stP (bnd (badQ h b) fun _ p=>wordP b z4z p):=z78 _ fun _=>[]
  have hvI:∀l p,iniQ h b=.inr (l,p)→l=[]:=fun l p he=>by
   unfold iniQ at he;generalize (bnd (badQ h b) fun _ p=>wordP b z4z p)=q0 at he;rcases q0 with e|⟨a,p⟩
   ·cases he
   ·cases he;rfl
  have hEI:endI h b=bnd (iniQ h b) fun l p=>rowsP b 0 h.st p l:=rfl
  rw [←hsI];generalize valP (badQ h b)=bad at *;generalize iniQ h b=Q0 at *;refine zt (env':=[(1,.d (eBy b)),(4,.ptr 1 0),(7,.ptr 2 0),(8,.ptr 3 0)]) (objs':=[none,some zWtO,some (bRd b (stP Q0) h),some (wtN bad)]) ?_ hC hCl ⟨⟨_,rfl,.refl _⟩,⟨_,rfl,.refl _⟩,⟨_,rfl,.refl _⟩,⟨_,rfl,.refl _⟩,trivial⟩ ⟨.refl _,.refl _,.refl _,trivial⟩ rfl rfl (Nat.zero_le _);refine z2j 3 1 (e':=9) (s:=1) (fun i=>dSL (([]:List (List UInt8)).getD i [])) rfl rfl ?_;refine z2j 3 2 (e':=25) (s:=1) (fun i=>eSs (([]:List (List (List UInt8))).getD i [])) rfl rfl ?_;refine yS Tryz.func21 rfl trivial ?_;have hws:=wi1.1;obtain⟨W,hW⟩:∃W,h.st=W:=⟨_,rfl⟩
  rw [hW]at hEI st1 wi1 hws;refine z8 (α:=Nat×List (List UInt8)×PR (List (List UInt8))) (fun s=>[(1,.d (eBy b)),(4,.ptr 1 0),(7,.ptr 2 0),(8,.ptr 3 0),(69,.d (eIs (W.map (·.1)))),(70,vI .i64 (W.length:Int)),(71,vI .i64 (s.1:Int))]) (fun s=>[none,some zWtO,some (bRd b (stP s.2.2) h),some (wtG bad 4 5),some (gSs s.2.1),some (gSss [])])
   (fun s=>s.1≤W.length∧s.2.1.length=s.1∧OkS b s.2.2∧(∀l p,s.2.2=.inr (l,p)→l=s.2.1)∧endI h b=bnd s.2.2 fun l p=>rowsP b s.1 (W.drop s.1) p l) (fun s=>W.length-s.1) (0,[],Q0) ⟨Nat.zero_le _,rfl,okI,hvI,hEI⟩ ?_ ?_
  ·refine fun hh=>yE hh ⟨erl rfl,erl rfl,erl rfl,erl rfl,⟨_,rfl,.of ?_⟩,⟨_,rfl,.of ?_⟩,erl rfl,trivial⟩ ⟨.refl _,.refl _,.refl _,.gL rfl,.gL rfl,trivial⟩
   ·show AV.d (eIs (h.st.map (·.1)))=_;rw [hW]
   ·show vI .i64 ((((h.st.map (·.1)).map eI).length:Nat):Int)=_;rw [hW,List.length_map,List.length_map]
  rintro⟨i,out,qi⟩ ⟨c1,c2,c3,c4,c5⟩ ih;simp only at c1 c2 c3 c4 c5 ih ⊢;refine yB Tryz.func21 rfl trivial (fun hb2=>?_) (fun hb2=>?_)
  ·have hb2:decide ((i:Int)<(W.length:Int))=true:=hb2;rw [decide_eq_true_eq]at hb2;have hlt:i<W.length:=by omega
   have hmem:=List.getElem_mem hlt;obtain⟨w1,w2,w3⟩:=wi1.2 _ hmem;have eg:(W.map (·.1)).getD i 0=W[i].1:=by simp [hlt]
   have eg2:(h.st.map (·.2)).getD i []=W[i].2:=by rw [hW];simp [hlt]
   have hrow:=zhk b W[i].2 hb6 w3 h qi c3 i (by omega) W[i].1 w1 w2;rw [List.drop_eq_getElem_cons hlt,z8i]at c5;have c6:OkS b (rowQ b i W[i] qi):=zko (by have:=st1 _ hmem;exact⟨by omega,this.2⟩) c3;have ih:=ih (i+1,out++[rowV b i W[i] qi],rowQ b i W[i] qi) ⟨by simp only;omega,by simp [c2],c6,zhl c4,c5⟩ (by simp only;omega);have hsR:=zkn b i W[i] qi;have hrow2:ACall Tryz.prog 52 [.ptr 0 0,vI .i64 (i:Int),vI .i64 ((W.map (·.1)).getD i 0),vTx ((h.st.map (·.2)).getD i [])] [some (bRd b (stP qi) h)] (fun r o=>r=vTx (rowV b i W[i] qi)∧o=[some (bRd b (stP (rowQ b i W[i] qi)) h)]):=by
    rw [eg,eg2,hsR];exact hrow
   refine zbs 15 13 [(14,some (90,.d (.sl 1 [dSL (rowV b i W[i] qi)] (litRd [dSL (rowV b i W[i] qi)])))),(13,some (89,vTx (rowV b i W[i] qi)))] [none,some zWtO,some (bRd b (stP (rowQ b i W[i] qi)) h),some (wtG bad 4 5),some (gSs out),some (gSss [])] _ tabOk Tryz.func21 rfl rfl (by simp [andP]<;>omega) (by kernel_rfl) (by kernel_rfl) rfl rfl rfl (yq rfl ?n1 rfl) (yq rfl ?n2 rfl) ?_ ?_;case n1|n2=>
    rw [hW];exact(by simp [andP]<;>omega)
   ·refine List.forall_mem_cons.2 ⟨⟨_,rfl,rfl,?_⟩,List.forall_mem_cons.2 ⟨⟨_,rfl,rfl,?_⟩,fun x h=>by cases h⟩⟩
    ·exact zc5 tabOk rfl (fun _ _ _ h=>h) rfl rfl (show(14:Nat)≠13 by decide) trivial rfl rfl rfl
    ·refine zav [2] (fun _ _ _ h=>h) rfl rfl rfl rfl rfl rfl (ze Tryz.func52 rfl rfl) hrow2 ⟨⟨_,rfl,.refl _⟩,trivial⟩ (.refl _) rfl rfl rfl ?_;rintro r o ⟨rfl,rfl⟩;exact⟨rfl,rfl⟩
   refine yS Tryz.func21 rfl ?_ ?_
   ·show((out.map dSL).length+1)*16≤140737488355328∧True;rw [List.length_map,c2];exact⟨by omega,trivial⟩
   refine yE ih ⟨erl rfl,erl rfl,erl rfl,erl rfl,erl rfl,erl rfl,erw rfl,trivial⟩ ⟨.refl _,.refl _,.refl _,.gL (by rw [List.map_append];rfl),.refl _,trivial⟩
  have hb2:decide ((i:Int)<(W.length:Int))=false:=hb2;rw [decide_eq_false_iff_not]at hb2;obtain rfl:i=W.length:=by omega
  rw [List.drop_length]at c5;have e5:endI h b=qi:=c5.trans (zmx qi);have hFF:endF h b=bnd (insQ h b) fun l p=>z2v b h.inw 201 p l:=rfl
  have hLQ:lastQ h b=bnd (endF h b) fun l e=>if e<b.length then .inl (e,2)else .inr (l,e):=rfl
  have hsQ:stP (insQ h b)=stP qi:=by
   rw [←e5];exact z78 _ fun _=>[]
  have okQ:OkS b (insQ h b):=by
   unfold insQ;rw [e5];exact zag c3 fun _=>[]
  have hvQ:∀l p,insQ h b=.inr (l,p)→l=[]:=fun l p he=>by
   unfold insQ at he;generalize endI h b=q0 at he;rcases q0 with e|⟨a,p⟩
   ·cases he
   ·cases he;rfl
  have hld:∀ins e,lastQ h b=.inr (ins,e)→lstP (endI h b)=out:=fun ins e he=>by
   rw [hLQ,hFF]at he;unfold insQ at he;rw [e5]at he ⊢;rcases qi with e|⟨l,p⟩
   ·cases he
   ·exact c4 _ _ rfl
  rw [←hsQ];generalize lstP (endI h b)=iniL at *;generalize insQ h b=G0 at *;have hEF:OkS b (endF h b):=by
   rw [hFF];refine okQ.bnd fun l p he h0 h1=>?_;have:=(z7k (b:=b) in1 201 l p.toNat (by omega) (by rw [hvQ l p he];exact Nat.zero_le _)).okS;rwa [Int.toNat_of_nonneg h0]at this
  apply letK (p:=∀ins,(∀l p,endF h b=.inr (l,p)→l=ins)→ASat Tryz.prog 21 Tryz.f21.ntmps C _ [(1,.d (eBy b)),(4,.ptr 1 0),(7,.ptr 2 0),(8,.ptr 3 0)] [none,some zWtO,some (bRd b (stP (endF h b)) h),some (wtG bad 4 5),some (gSs out),some (gSss ins)] (fun r o=>r=parW (bnd (lastQ h b) fun l e=>.inr (⟨bad,iniL,l⟩,e))))
  ·intro key;refine yS Tryz.func21 rfl trivial ?_;refine z8 (α:=Nat×List (List (List UInt8))×PR (List (List (List UInt8)))) (fun s=>[(1,.d (eBy b)),(4,.ptr 1 0),(7,.ptr 2 0),(8,.ptr 3 0)]) (fun s=>[none,some zWtO,some (bRd b (stP s.2.2) h),some (wtG bad 4 5),some (gSs out),some (gSss s.2.1)])
    (fun s=>OkS b s.2.2∧s.1+s.2.1.length=201∧(∀l p,s.2.2=.inr (l,p)→l=s.2.1∧s.2.1.length≤200)∧endF h b=bnd s.2.2 fun l p=>z2v b h.inw s.1 p l) (fun s=>s.1) (201,[],G0) ⟨okQ,rfl,fun l p he=>⟨hvQ l p he,Nat.zero_le _⟩,hFF⟩ ?_ ?_
   ·exact fun hh=>yE hh (eAl rfl) (oAl rfl)
   rintro⟨f,ins,q⟩ ⟨d1,d2,d3,d4⟩ ih;simp only at d1 d2 d3 d4 ih ⊢;rcases q with⟨a,e⟩|⟨lq,p⟩
   ·have d4:endF h b=.inl (a,e):=d4;refine yB Tryz.func21 rfl trivial (fun hh=>?_) (fun _=>?_)
    ·have hh:(e==0)=true:=hh;rw [beq_iff_eq]at hh;exact absurd hh d1.1
    refine yX 3 Tryz.func21 rfl trivial ?_;exact yE (key ins fun l p he=>by rw [d4]at he;cases he) (eAl rfl) ⟨.refl _,.of (by rw [d4]),.refl _,.refl _,.refl _,trivial⟩
   ·obtain⟨p0,pl⟩:0≤p∧p≤b.length:=d1;obtain⟨rfl,d5⟩:=d3 _ _ rfl;obtain⟨f,rfl⟩:∃k,f=k+1:=⟨f-1,by omega⟩
    rw [z11,z2v]at d4;refine yT Tryz.func21 rfl trivial ?_;refine yV Tryz.func21 rfl trivial (zh2 b p kEnd hb6 (by decide)) (.refl _) ?_;apply letK (p:=¬(isAt b p kEnd=true∧lq≠[])→ASat Tryz.prog 21 Tryz.f21.ntmps C _ [(1,.d (eBy b)),(4,.ptr 1 0),(7,.ptr 2 0),(8,.ptr 3 0)] [none,some zWtO,some (bRd b (p,0) h),some (wtG bad 4 5),some (gSs out),some (gSss lq)] (fun r o=>r=parW (bnd (lastQ h b) fun l e=>.inr (⟨bad,iniL,l⟩,e))))
    ·intro key2;cases hE:isAt b p kEnd with
     | false=>
      refine yF Tryz.func21 rfl trivial ?_;refine yF Tryz.func21 rfl trivial ?_;refine yX 1 Tryz.func21 rfl trivial ?_;exact yE (key2 (by rw [hE];rintro⟨hx,-⟩;cases hx)) (eAl rfl) (oAl rfl)
     | true=>
      refine yT Tryz.func21 rfl trivial ?_;refine yB Tryz.func21 rfl trivial (fun g=>?_) (fun g=>?_)
      ·have g:decide ((((lq.map eSs).length:Nat):Int)>0)=true:=g;rw [decide_eq_true_eq,List.length_map]at g;have hne:lq≠[]:=fun e=>by rw [e]at g;simp at g
       rw [if_pos ⟨hE,hne⟩]at d4;refine yX 12 Tryz.func21 rfl trivial ?_;exact yE (key lq fun l p he=>by rw [d4]at he;cases he;rfl) (eAl rfl) ⟨.refl _,.of (by rw [d4];rfl),.refl _,.refl _,.refl _,trivial⟩
      ·have g:decide ((((lq.map eSs).length:Nat):Int)>0)=false:=g;rw [decide_eq_false_iff_not,List.length_map]at g;refine yX 1 Tryz.func21 rfl trivial ?_;exact yE (key2 (by rintro⟨-,hx⟩;exact hx (List.length_eq_zero_iff.1 (by omega)))) (eAl rfl) (oAl rfl)
    intro hno;rw [if_neg hno]at d4;refine yV Tryz.func21 rfl trivial (zh2 b p [64] hb6 (by decide)) (.refl _) ?_;apply letK (p:=¬(isAt b p [64]=true∧lq.length=200)→ASat Tryz.prog 21 Tryz.f21.ntmps C _ [(1,.d (eBy b)),(4,.ptr 1 0),(7,.ptr 2 0),(8,.ptr 3 0)] [none,some zWtO,some (bRd b (p,0) h),some (wtG bad 4 5),some (gSs out),some (gSss lq)] (fun r o=>r=parW (bnd (lastQ h b) fun l e=>.inr (⟨bad,iniL,l⟩,e))))
    ·intro key3;cases hA:isAt b p [64]with
     | false=>
      refine yO 10 Tryz.func21 rfl trivial ?_;refine yb rfl trivial (fun hx=>by cases hx) (fun _=>?_);refine yq rfl trivial ?_;refine yF Tryz.func21 rfl trivial ?_;refine yX 1 Tryz.func21 rfl trivial ?_;exact yE (key3 (by rw [hA];rintro⟨hx,-⟩;cases hx)) (eAl rfl) (oAl rfl)
     | true=>
      refine yO 10 Tryz.func21 rfl trivial ?_;refine yb rfl trivial (fun _=>?_) (fun hx=>by cases hx);refine yq rfl trivial ?_;refine yB Tryz.func21 rfl trivial (fun g=>?_) (fun g=>?_)
      ·have g:((((lq.map eSs).length:Nat):Int)==200)=true:=g;rw [beq_iff_eq,List.length_map]at g;rw [if_pos ⟨hA,by omega⟩]at d4;refine yX 11 Tryz.func21 rfl trivial ?_;exact yE (key lq fun l p he=>by rw [d4]at he;cases he) (eAl rfl) ⟨.refl _,.of (by rw [d4];rfl),.refl _,.refl _,.refl _,trivial⟩
      ·have g:((((lq.map eSs).length:Nat):Int)==200)=false:=g;rw [beq_eq_false_iff_ne,List.length_map]at g;refine yX 1 Tryz.func21 rfl trivial ?_;exact yE (key3 (by rintro⟨-,hx⟩;omega)) (eAl rfl) (oAl rfl)
    intro hno2;rw [if_neg hno2]at d4;have hfc:=zja b hb6 h in2 wi2 (.inr (lq,p):PR (List (List (List UInt8)))) ⟨p0,pl⟩ lq.length (by omega);have hfv:=fun l2 p2=>@zm6 _ b lq.length h.inw (.inr (lq,p):PR (List (List (List UInt8)))) l2 p2
    have hfo:=zjb (b:=b) in1 lq.length (q:=(.inr (lq,p):PR (List (List (List UInt8))))) ⟨p0,pl⟩;generalize zi5 b lq.length h.inw (.inr (lq,p):PR (List (List (List UInt8))))=fv at *;rw [z11]at hfc hfv hfo;have hst2:stP (bnd (z44 b lq.length h.inw p) fun l p=>(.inr (lq++[l],p):PR (List (List (List UInt8)))))=stP (z44 b lq.length h.inw p):=z78 _ fun l=>lq++[l]
    refine zbs 8 6 [(7,some (155,.d (.sl 1 [eSs fv] (litRd [eSs fv])))),(6,some (154,.d (eSs fv)))] [none,some zWtO,some (bRd b (stP (z44 b lq.length h.inw p)) h),some (wtG bad 4 5),some (gSs out),some (gSss lq)] _ tabOk Tryz.func21 rfl rfl trivial (by kernel_rfl) (by kernel_rfl) rfl rfl rfl (yq rfl trivial rfl) (yq rfl trivial rfl) ?_ ?_
    ·refine List.forall_mem_cons.2 ⟨⟨_,rfl,rfl,?_⟩,List.forall_mem_cons.2 ⟨⟨_,rfl,rfl,?_⟩,fun x h=>by cases h⟩⟩
     ·exact zc5 tabOk rfl (fun _ _ _ h=>h) rfl rfl (show(7:Nat)≠6 by decide) trivial rfl rfl rfl
     ·refine zav [2] (fun _ _ _ h=>h) rfl rfl rfl rfl rfl rfl (ze Tryz.func54 rfl rfl) hfc ⟨⟨_,rfl,.refl _⟩,trivial⟩ ⟨.refl _,.of (by rw [List.length_map];rfl),trivial⟩ rfl rfl rfl ?_;rintro r o ⟨rfl,rfl⟩;exact⟨rfl,rfl⟩
    refine yS Tryz.func21 rfl ?_ ?_
    ·show((lq.map eSs).length+1)*24≤140737488355328∧True;rw [List.length_map];exact⟨by omega,trivial⟩
    refine yE (ih (f,lq++[fv],bnd (z44 b lq.length h.inw p) fun l p=>.inr (lq++[l],p)) ⟨zag hfo _,?_,?_,?_⟩ (by simp only;omega)) (eAl rfl) ⟨.refl _,.of (by rw [hst2];rfl),.refl _,.refl _,.gL (by rw [List.map_append];rfl),trivial⟩
    ·simp only [List.length_append,List.length_singleton];omega
    ·intro l2 p2 he;simp only at he ⊢;rcases hfr:z44 b lq.length h.inw p with e|⟨l3,p3⟩
     ·rw [hfr]at he;cases he
     ·have hat:¬lq.length=200:=fun hx=>by
       cases hA:isAt b p [64]with
       | true=>exact hno2 ⟨hA,hx⟩
       | false=>rw [zm7 hA]at hfr;cases hfr
      rw [hfr,z11]at he;cases he;obtain rfl:=hfv _ _ hfr;refine⟨rfl,?_⟩;simp only [List.length_append,List.length_singleton];omega
    ·rw [d4];simp only;rw [z45];rfl
  ·rintro ins hins;rcases hq:endF h b with⟨a,e⟩|⟨l,p⟩
   ·rw [hq]at hEF hLQ;have hne:e≠0:=hEF.1;refine yB Tryz.func21 rfl trivial (fun hh=>?_) (fun _=>?_)
    ·have hh:(e==0)=true:=hh;rw [beq_iff_eq]at hh;exact absurd hh hne
    refine yF Tryz.func21 rfl trivial ?_;refine yB Tryz.func21 rfl trivial (fun _=>?_) (fun hh=>?_);rotate_left
    ·have hh:(!(e==0))=false:=hh;rw [Bool.not_eq_false',beq_iff_eq]at hh;exact absurd hh hne
    refine z3r 13 11 1 (c:=none) (a:=.dead) (o2:=zWtO) tabOk Tryz.func21 rfl rfl trivial (by kernel_rfl) (by kernel_rfl) rfl rfl (fun _=>yq rfl trivial rfl) rfl rfl rfl rfl trivial ?_;rw [hLQ];exact yR Tryz.func21 rfl trivial rfl
   ·rw [hq]at hEF hLQ;obtain rfl:=hins _ _ hq;rw [z11]at hLQ;refine yT Tryz.func21 rfl trivial ?_;refine yB Tryz.func21 rfl trivial (fun g=>?_) (fun g=>?_)
    ·have g:decide (p<(((b.map eU8).length:Nat):Int))=true:=g;rw [decide_eq_true_eq,List.length_map]at g;rw [if_pos g]at hLQ;refine yB Tryz.func21 rfl trivial (fun _=>?_) (fun hx=>absurd hx (by decide));refine z3r 13 11 1 (c:=none) (a:=.dead) (o2:=zWtO) tabOk Tryz.func21 rfl rfl trivial (by kernel_rfl) (by kernel_rfl) rfl rfl (fun _=>yq rfl trivial rfl) rfl rfl rfl rfl trivial ?_;rw [hLQ];exact yR Tryz.func21 rfl trivial rfl
    ·have g:decide (p<(((b.map eU8).length:Nat):Int))=false:=g;rw [decide_eq_false_iff_not,List.length_map]at g;rw [if_neg g]at hLQ;refine yF Tryz.func21 rfl trivial ?_;refine zh 4 rfl ?_;refine zh 5 rfl ?_;refine z3r 7 6 1 (c:=none) (a:=.dead) (o2:=bWt ⟨bad,out,l⟩) tabOk Tryz.func21 rfl rfl trivial (by kernel_rfl) (by kernel_rfl) rfl rfl (fun _=>yq rfl trivial rfl) rfl rfl rfl rfl trivial ?_;have hini:=hld _ _ hLQ;rw [hLQ,hini];exact yR Tryz.func21 rfl trivial rfl
end Go.Proofs.YtbodbhpdelgpnaaGreatDoor
namespace Go.Proofs.YtbodbhpdelgpnaaGreatDoor
open Go Ab
theorem zsc(l:List UInt8)(w x:Nat)(hl:l.length≤1000000000)(h:mkR l=tupOf [.d (vN w x),vI .i64 0]):ACall Tryz.prog 72 [vSL l] [] (fun r o=>r=tupOf [.d (vN w x),vI .i64 0]):=(z48 l hl).mono fun r o hr=>hr.trans h
end Go.Proofs.YtbodbhpdelgpnaaGreatDoor
namespace Go.Proofs.YtbodbhpdelgpnaaGreatDoor
open Go Ab Go.RowKit
def vecsL(l:List (List UInt8)):List (Nat×Nat):=l.map fun s=>(s.length,mkN s)
theorem zsr{s:List UInt8}(h:mkok s=true):mkR s=tupOf [.d (vN s.length (mkN s)),vI .i64 0]:=by
 unfold mkR;rw [if_pos h]
theorem zf0{s:List UInt8}(h:mkok s=true):1≤s.length∧s.length≤128:=by
 unfold mkok at h;simp only [Bool.and_eq_true,decide_eq_true_eq]at h;exact h.1
theorem ze3(l:List (List UInt8))(h:∀s∈l,mkok s=true)(hl:l.length≤1000000):ACall Tryz.prog 45 [.d (eSs l)] [] (fun r o=>r=.d (eNums (vecsL l))):=by
 refine yN Tryz.func45 fun C hC hCl hDs hGk=>?_;refine yS Tryz.func45 rfl trivial ?_;refine z40 (s:=2) (e:=118) (t:=3) (.inl rfl) (fun i=>vN (nm [] i).1 (nm [] i).2) ?_;refine z8 (α:=Nat) (fun i=>[(3,.gs 0),(8,.d (eSs l)),(9,vI .i64 (l.length:Int)),(10,vI .i64 (i:Int))]) (fun i=>[some (gNums (vecsL (l.take i)))]) (fun i=>i≤l.length) (fun i=>l.length-i) 0 (Nat.zero_le _) ?_ ?_
 ·exact fun h=>yE h ⟨erl rfl,erl rfl,⟨_,rfl,.of (by rw [List.length_map])⟩,erl rfl,trivial⟩ ⟨.gL rfl,trivial⟩
 rintro i hi ih;have ih:=ih (i+1);refine yB Tryz.func45 rfl trivial (fun hb=>?_) (fun hb=>?_)<;>simp only [decide_eq_true_eq,decide_eq_false_iff_not]at hb
 ·have hlt:i<l.length:=by omega
  have eg:l.getD i []=l[i]:=by simp [hlt]
  have hm:=h _ (List.getElem_mem hlt);have hvl:((vecsL (l.take i)).map fun p:Nat×Nat=>vN p.1 p.2).length=i:=by
   unfold vecsL;rw [List.length_map,List.length_map,List.length_take,Nat.min_eq_left hi]
  rw [←eg]at hm;refine yV Tryz.func45 rfl (by simp [andP]<;>omega) (zsc (l.getD i []) _ _ (by have:=zf0 hm;omega) (zsr hm)) (.refl _) ?_;refine yS Tryz.func45 rfl ?_ ?_
  ·rw [hvl];exact⟨by show(i+1)*32≤_;omega,trivial⟩
  refine yE (ih (by omega) (by omega)) ⟨erl rfl,erl rfl,erl rfl,erw rfl,trivial⟩ ⟨.gL ?_,trivial⟩;unfold vecsL;rw [List.take_succ_eq_append_getElem hlt,List.map_append,List.map_append,←eg];rfl
 ·obtain rfl:i=l.length:=by omega
  refine zh 0 rfl ?_;rw [List.take_length];exact yR Tryz.func45 rfl trivial rfl
def goW(l:List Nd)(bad:Nat):List (List (List UInt8))→List (Nat×Nat)→Bool→Int
 | [],_,last=>if last then 0 else 8
 | f::r,s,_=>if(flagL l zg (valL l s (vecsL f) l.length) l.length).contains false=true then 8 else goW l bad r (nextL l (valL l s (vecsL f) l.length)) ((flagL l kBad (valL l s (vecsL f) l.length) l.length).getD bad false)
def ze2(l:List Nd)(t:Wt):Int:=if z2a (shL l) t=true∧totB t=true then goW l t.bad.toNat t.ins (vecsL t.init) false else 7
theorem zsm{s:List UInt8}{w:Int}(h:rowB s w=true)(hx:xS s=false)(h1:1≤w)(h2:w≤128):mkok s=true:=by
 unfold rowB at h;rw [Bool.and_eq_true,decide_eq_true_eq,List.all_eq_true]at h;unfold xS at hx;rw [List.any_eq_false]at hx;unfold mkok;rw [decide_eq_true (by omega),decide_eq_true (by omega),Bool.true_and,Bool.true_and,List.all_eq_true];intro c hc;have a1:=h.2 c hc;have a2:=hx c hc;unfold isB at a1;have a3:(c==48||c==49)=true:=by
  cases e:c==120 with
  | true=>exact absurd e a2
  | false=>rwa [e,Bool.or_false]at a1
 rw [Bool.or_eq_true,beq_iff_eq,beq_iff_eq]at a3;rcases a3 with rfl|rfl<;>rfl
theorem zhh{l:List Nd}(ty:Ty l){op:List UInt8}(ho:isVal op=true){f:List (List UInt8)}{ws:List (Int×List UInt8)}(hw:ws.map (·.1)=(allL l op l.length).map fun s=>wdN l (ln l s))(h:rowsB f ws=true)(hx:xL f=false):(∀s∈f,mkok s=true)∧Fit l op (vecsL f):=by
 obtain⟨h1,h2⟩:=z4w.1 h;have hwl:ws.length=(allL l op l.length).length:=by
  have:=congrArg List.length hw;simpa using this
 rw [hw]at h2;rw [hwl]at h1;have hk:∀j,j<f.length→mkok (f.getD j [])=true∧((f.getD j []).length:Int)=wdN l (ln l ((allL l op l.length).getD j 0)):=fun j hj=>by
  have hjl:j<(allL l op l.length).length:=by omega
  have a1:=h2 j hj;have hm:(allL l op l.length).getD j 0∈allL l op l.length:=zy 0 hjl;obtain⟨_,_,_,s4,s5⟩:=z2n ty ho hm;rw [show((allL l op l.length).map fun s=>wdN l (ln l s)).getD j 0=wdN l (ln l ((allL l op l.length).getD j 0))by simp [hjl]]at a1;have hxj:xS (f.getD j [])=false:=by
   unfold xL at hx;rw [List.any_eq_false]at hx;simpa using hx _ (zy [] hj)
  refine⟨zsm a1 hxj s4 s5,?_⟩;unfold rowB at a1;rw [Bool.and_eq_true,decide_eq_true_eq]at a1;exact a1.1
 refine⟨fun s hs=>?_,⟨by unfold vecsL;rw [List.length_map,h1],fun i hi=>?_⟩⟩
 ·obtain⟨j,hj,rfl⟩:=List.getElem_of_mem hs;have:=(hk j hj).1;rwa [z5k hj]at this
 ·have hi2:i<f.length:=by
   unfold vecsL at hi;rwa [List.length_map]at hi
  have e:nm (vecsL f) i=((f.getD i []).length,mkN (f.getD i [])):=by
   unfold vecsL;simp [hi2]
  obtain⟨a1,a2⟩:=hk i hi2;have:=zf0 a1;rw [e];exact⟨a2,mk_lt _,this.1,this.2⟩
theorem zlt(l:List Bool)(v:Bool):ACall Tryz.prog 75 [.d (eBs l),vB v] [] (fun r o=>∃k:Int,r=vI .i64 k∧decide (k≥0)=l.contains v):=by
 refine yN Tryz.func75 fun C hC hCl hDs hGk=>?_;refine z7a (t:=0) rfl fun hlen=>?_;rw [List.length_map]at hlen;refine yS Tryz.func75 rfl trivial ?_;refine z8 (α:=Nat) (fun j=>[(0,.d (eBs l)),(1,vB v),(7,vI .i64 (l.length:Int)),(8,vI .i64 (j:Int))]) (fun j=>[]) (fun j=>j≤l.length∧∀q,q<j→(v==l.getD q false)=false) (fun j=>l.length-j) 0 ⟨Nat.zero_le _,fun q hq=>by omega⟩ ?_ ?_
 ·exact fun h=>yE h ⟨erl rfl,erl rfl,⟨_,rfl,.of (by rw [List.length_map])⟩,erl rfl,trivial⟩ trivial
 rintro j ⟨hj,hall⟩ ih;refine yB Tryz.func75 rfl trivial (fun hb=>?_) (fun hb=>?_)<;>simp only [decide_eq_true_eq,decide_eq_false_iff_not]at hb
 ·have hlt:j<l.length:=by omega
  refine yB Tryz.func75 rfl (by simp [andP]<;>omega) (fun g=>?_) (fun g=>?_)
  ·have g:(v==l.getD j false)=true:=g;refine yR Tryz.func75 rfl trivial ⟨_,rfl,?_⟩;have:l.contains v=true:=List.contains_iff_mem.2 (by rw [beq_iff_eq.1 g];exact z3q hlt);rw [this];exact decide_eq_true (by omega)
  ·have g:(v==l.getD j false)=false:=g;refine yS Tryz.func75 rfl trivial ?_;refine yE (ih (j+1) ⟨by omega,fun q hq=>?_⟩ (by omega)) ⟨erl rfl,erl rfl,erl rfl,erw rfl,trivial⟩ trivial;rcases Nat.lt_or_ge q j with h|h
   ·exact hall q h
   ·obtain rfl:q=j:=by omega
    exact g
 ·obtain rfl:j=l.length:=by omega
  refine yR Tryz.func75 rfl trivial ⟨-1,rfl,?_⟩;have:l.contains v=false:=by
   rw [List.contains_eq_any_beq,zn7 (p:=fun x=>v==x) hall]
  rw [this];rfl
theorem zjl(l:List Bool)(v:Bool):ACall Tryz.prog 47 [.d (eBs l),vB v] [] (fun r o=>r=vB (l.contains v)):=by
 refine yN Tryz.func47 fun C hC hCl hDs hGk=>?_;refine yC Tryz.func47 rfl trivial (zlt l v) (.refl _) ?_ (hr:=by rintro r o ⟨k,rfl,-⟩;rfl);rintro r o ⟨k,rfl,hk⟩;refine yR Tryz.func47 rfl trivial ?_;show vB (decide (k≥0))=_;rw [hk]
@[reducible] def o2B(a b:List Bool):AObj:=.cells 78 [.d (eBs a),.d (eBs b)]
theorem zmc(l:List Nd)(op:List UInt8)(v:List (Nat×Nat)):(flagL l op v l.length).length=(allL l op l.length).length:=by
 unfold flagL;rw [List.length_map]
theorem z8r(l:List Nd)(hm:MdB l)(ty:Ty l)(t:Wt)(sm:SmW t 1000):ACall Tryz.prog 19 [.d (eBt l),.d (eWt t)] [] (fun r o=>r=vI .i64 (ze2 l t)):=by
 refine yN Tryz.func19 fun C hC hCl hDs hGk=>?_;refine yV Tryz.func19 rfl trivial (z71 l hm ty t (fun s hs=>by have:=sm.r s hs;omega) (fun f hf s hs=>by have:=(sm.l f hf).2 s hs;omega)) (.refl _) ?_;unfold ze2;cases hr:z2a (shL l) t with
 | false=>
  rw [if_neg (by rintro⟨h,-⟩;cases h)];repeat refine yT Tryz.func19 rfl trivial ?_
  exact yR Tryz.func19 rfl trivial rfl
 | true=>
  refine yF Tryz.func19 rfl trivial ?_;refine yV Tryz.func19 rfl trivial (z8s t (by have:=sm.n;omega)) (.refl _) ?_;cases ht:totB t with
  | false=>
   rw [if_neg (by rintro⟨-,h⟩;cases h)];refine yT Tryz.func19 rfl trivial ?_;exact yR Tryz.func19 rfl trivial rfl
  | true=>
   rw [if_pos ⟨rfl,rfl⟩];refine yF Tryz.func19 rfl trivial ?_;obtain⟨⟨b0,b1,n0,n1⟩,r1,r2,r3⟩:=z2o.1 hr;unfold totB at ht;rw [Bool.not_eq_true',List.any_eq_false]at ht;have hxi:xL t.init=false:=by simpa using ht t.init (by simp)
   have hxf:∀f∈t.ins,xL f=false:=fun f hf=>by simpa using ht f (by simp [hf])
   have e1:(shL l).st.map (·.1)=(allL l zb l.length).map fun s=>wdN l (ln l s):=by
    unfold shL;rw [List.map_map];rfl
   have e3:(shL l).inw.map (·.1)=(allL l zv l.length).map fun s=>wdN l (ln l s):=by
    unfold shL;rw [List.map_map];rfl
   obtain⟨k1,k2⟩:=zhh ty rfl e1 r1 hxi;have hkf:=fun f (hf:f∈t.ins)=>zhh ty rfl e3 (r3 f hf) (hxf f hf)
   have hbb:t.bad.toNat<(allL l kBad l.length).length:=by
    have:t.bad<(((allL l kBad l.length).length:Nat):Int):=b1;omega
   refine yV Tryz.func19 rfl trivial (ze3 t.init k1 (by have:=sm.i;omega)) (.refl _) ?_;refine yS Tryz.func19 rfl trivial ?_;refine z8 (α:=Nat×List (Nat×Nat)×Bool) (fun s=>[(2,.ptr 0 0),(3,.ptr 1 0),(5,.d (eNums s.2.1)),(6,vB s.2.2),(25,.d (eSss t.ins)),(26,vI .i64 (t.ins.length:Int)),(27,vI .i64 (s.1:Int))]) (fun s=>[some (bBt l),some (bWt t)])
    (fun s=>s.1≤t.ins.length∧Fit l zb s.2.1∧goW l t.bad.toNat (t.ins.drop s.1) s.2.1 s.2.2=goW l t.bad.toNat t.ins (vecsL t.init) false) (fun s=>t.ins.length-s.1) (0,vecsL t.init,false) ⟨Nat.zero_le _,k2,rfl⟩ ?_ ?_
   ·exact fun h=>yE h ⟨erl rfl,erl rfl,erl rfl,erl rfl,erl rfl,⟨_,rfl,.of (by rw [List.length_map])⟩,erl rfl,trivial⟩ (oAl rfl)
   rintro⟨i,s,last⟩ ⟨hi,hfit,hgo⟩ ih;simp only at hi hfit hgo ih ⊢;rw [←hgo];rw [←hgo]at ih;refine yB Tryz.func19 rfl trivial (fun hb=>?_) (fun hb=>?_)
   ·have hb:decide ((i:Int)<(t.ins.length:Int))=true:=hb;rw [decide_eq_true_eq]at hb;have hlt:i<t.ins.length:=by omega
    have eg:t.ins.getD i []=t.ins[i]:=by simp [hlt]
    have hmem:=List.getElem_mem hlt;obtain⟨f1,f2⟩:=hkf _ hmem;have s1:=(sm.l _ hmem).1;rw [←eg]at f1 f2 s1;have hvo:=zcn ty hfit f2 l.length (Nat.le_refl _);have hdr:goW l t.bad.toNat (t.ins.drop i) s last=goW l t.bad.toNat (t.ins.getD i []::t.ins.drop (i+1)) s last:=by rw [List.drop_eq_getElem_cons hlt,eg]
    rw [goW]at hdr;rw [hdr];rw [hdr]at ih;refine zit 12 9 11 (c:=none) (a:=.dead) (o2:=o2B (flagL l kBad (valL l s (vecsL (t.ins.getD i [])) l.length) l.length) (flagL l zg (valL l s (vecsL (t.ins.getD i [])) l.length) l.length)) tabOk Tryz.func19 rfl rfl (by simp [andP]<;>omega) (by kernel_rfl) (by kernel_rfl) rfl rfl rfl (by kernel_rfl) (by rw [hCl,hC];exact Nat.zero_le _) rfl rfl rfl rfl rfl rfl
     (fun _=>yQ Tryz.func45 rfl trivial (ze3 (t.ins.getD i []) f1 (by omega)) (.refl _) (yQ Tryz.func46 rfl trivial (zsb l hm ty s (vecsL (t.ins.getD i [])) hfit f2) (.refl _) (yq rfl trivial rfl)))
     (by rfl) (by rfl) (by rfl) (by rfl) trivial ?_
    generalize hV:valL l s (vecsL (t.ins.getD i [])) l.length=V at *;refine yV Tryz.func19 rfl trivial (zjl (flagL l zg V l.length) false) (.refl _) ?_;cases hcn:(flagL l zg V l.length).contains false with
    | true=>
     rw [if_pos rfl];refine yT Tryz.func19 rfl trivial ?_;exact yR Tryz.func19 rfl trivial rfl
    | false=>
     rw [if_neg (by decide)];rw [hcn,if_neg (by decide)]at ih;refine yF Tryz.func19 rfl trivial ?_;refine yS Tryz.func19 rfl ?_ ?_
     ·rw [List.length_map,zmc];exact⟨⟨by omega,by omega⟩,trivial⟩
     exact yE (ih (i+1,nextL l V,(flagL l kBad V l.length).getD t.bad.toNat false) ⟨by simp only;omega,zol ty hvo,rfl⟩ (by simp only;omega)) ⟨erl rfl,erl rfl,erl rfl,erl rfl,erl rfl,erl rfl,erw rfl,trivial⟩ (oAl rfl)
   ·have hb:decide ((i:Int)<(t.ins.length:Int))=false:=hb;rw [decide_eq_false_iff_not]at hb;obtain rfl:i=t.ins.length:=by omega
    rw [List.drop_length,goW];cases last with
    | false=>
     refine yT Tryz.func19 rfl trivial ?_;exact yR Tryz.func19 rfl trivial rfl
    | true=>
     refine yF Tryz.func19 rfl trivial ?_;exact yR Tryz.func19 rfl trivial rfl
end Go.Proofs.YtbodbhpdelgpnaaGreatDoor
namespace Go.Proofs.YtbodbhpdelgpnaaGreatDoor
open Go Ab
theorem dleN:DLe (.v (.slice none 0 0)) (eIs []):=fun _ _ _ h=>by cases h with|v _=>exact .nil (Nat.zero_le _)
theorem dleI(l:List Int):DLe (.sl 1 (l.map eI) (litRd (l.map eI))) (eIs l):=DLe.slR rfl (z5p eI 0 l)
theorem cleA{cs ds:List D}(h:DLes cs ds):CLe (.ag cs) (.ag ds):=fun _ _ _ h2=>h.rel h2
theorem dleS{s:Nat}{xs ys:List D}{rd rd':Nat→D}(h:CLes xs ys)(hr:∀i,i<ys.length→ys[i]?=some (rd' i)):DLe (.sl s xs rd) (.sl s ys rd'):=by
 intro w ok v hv;have hf:flat v=true:=by cases hv<;>rfl
 have:=CLe.sl h hr w ok [v] (.cons hv hf .nil);cases this with|cons h _ _=>exact h
end Go.Proofs.YtbodbhpdelgpnaaGreatDoor
