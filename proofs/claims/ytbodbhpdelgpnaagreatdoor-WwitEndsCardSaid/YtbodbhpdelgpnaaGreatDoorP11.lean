/- A part of the proof. -/
import Derived.Test.YtbodbhpdelgpnaaGreatDoorP10
import Derived.Laws.Strings
set_option linter.unusedVariables false
set_option linter.unusedSimpArgs false
set_option linter.unusedSectionVars false
set_option maxRecDepth 100000
set_option maxHeartbeats 8000000
namespace Go.Proofs.YtbodbhpdelgpnaaGreatDoor
open Go Ab
def setP(p:UInt8→Bool):List AV:=(List.range 256).map fun i=>vB (p (UInt8.ofNat i))
def is01(c:UInt8):Bool:=c.toNat==48||c.toNat==49
def is01x(c:UInt8):Bool:=c.toNat==48||c.toNat==49||c.toNat==120
theorem zre(p:UInt8→Bool)(c:UInt8):nth (setP p) c.toNat=some (vB (p c)):=by
 rw [z1k,setP,List.getElem?_map,List.getElem?_range c.toNat_lt];simp
@[reducible] def sO(p:UInt8→Bool):AObj:=.cells 182 (setP p)
theorem z8k(p:UInt8→Bool)(c:UInt8):ACall Tryz.prog 156 [.ptr 0 0,vI .u8 (c.toNat:Int)] [some (sO p)] (fun r o=>r=vB (p c)∧o=[some (sO p)]):=by
 refine yN Tryz.func156 fun C hC hCl hDs hGk=>?_;have hc:c.toNat<256:=c.toNat_lt;refine yX 9 Tryz.func156 rfl trivial ?_;refine zht (.ptr 0 (0+c.toNat*1)) tabOk rfl rfl (by exact zbs (T:=tab) (t:=182) (e:=4) (objs:=[some (sO p)]) (j:=0) (off:=0) (i:=c.toNat) (ki:=.u8) (by rfl) (by rfl) (by rfl) hc) rfl ?_;refine zht (vB (p c)) tabOk rfl rfl (by exact zlc (T:=tab) (t:=4) (objs:=[some (sO p)]) (j:=0) (off:=0+c.toNat*1) (by rfl) (by rfl) (by rfl) (by rw [Nat.zero_add,Nat.mul_one];exact zre p c)) rfl ?_;exact yL Tryz.func156 rfl trivial (.refl _) (oAl rfl) ⟨rfl,rfl⟩ (o2:=[some (sO p)])
@[reducible] def trP(p:UInt8→Bool)(l t:List UInt8):Prop:=t=[]↔∀c∈l,p c=true
@[reducible] def trE(l t:List UInt8):Prop:=trP is01 l t
theorem zj2(p:UInt8→Bool)(l:List UInt8)(hl:l.length≤1000000000):ACall Tryz.prog 130 [vSL l,.ptr 0 0] [some (sO p)] (fun r o=>∃t,r=vSL t∧t.length≤l.length∧(trP p l t∧trP p t t)∧o=[some (sO p)]):=by
 refine yN Tryz.func130 fun C hC hCl hDs hGk=>?_;refine yS Tryz.func130 rfl trivial ?_;refine z8 (α:=Nat) (fun k=>[(0,vSL (l.take k)),(1,.ptr 0 0)]) (fun k=>[some (sO p)]) (fun k=>k≤l.length∧∀c∈l.drop k,p c=true) (fun k=>k) l.length ⟨Nat.le_refl _,by simp⟩ ?_ ?_
 ·refine fun h=>yE h ⟨⟨_,rfl,.of ?_⟩,erl rfl,trivial⟩ (oAl rfl);rw [List.take_length]
 rintro k ⟨hk,hd⟩ ih;have hsz:(⟨(l.take k).toArray⟩:ByteArray).size=k:=by rw [zp,List.length_take];omega
 refine yB Tryz.func130 rfl trivial (fun hb=>?_) (fun hb=>?_)<;>rw [hsz]at hb<;>simp only [decide_eq_true_eq,decide_eq_false_iff_not]at hb
 ·have e1:IntKind.i64.wrap ((k:Int)-1)=((k-1:Nat):Int):=by rw [z7 (by omega) (by omega)];omega
  have ht:(l.take k).take (k-1)=l.take (k-1):=by rw [List.take_take,Nat.min_eq_left (by omega)]
  have hdk:l.drop (k-1)=l.getD (k-1) 0::l.drop k:=by
   rw [List.drop_eq_getElem_cons (by omega)];simp [show k-1<l.length by omega,show k-1+1=k by omega]
  have hm:l.getD (k-1) 0∈l:=by
   have:k-1<l.length:=by omega
   simp [this]
  refine yW [0] Tryz.func130 rfl ?_ (z8k p (l.getD (k-1) 0)) ⟨⟨_,rfl,.refl _⟩,trivial⟩ ⟨.refl _,.of ?_,trivial⟩ ?_
  ·simp only [hsz,e1,Int.toNat_natCast];refine⟨⟨?_,?_⟩,trivial⟩<;>omega
  ·show vI .u8 (bt ⟨(l.take k).toArray⟩ (IntKind.i64.wrap (((⟨(l.take k).toArray⟩:ByteArray).size:Int)-1)).toNat)=vI .u8 _;simp only [hsz,e1,Int.toNat_natCast,zo];rw [show(l.take k).getD (k-1) 0=l.getD (k-1) 0 by simp [List.getD_eq_getElem?_getD,List.getElem?_take,show k-1<k by omega]]
  refine yB Tryz.func130 rfl trivial (fun h=>?_) (fun h=>?_)
  ·refine yL Tryz.func130 rfl trivial (.refl _) (oAl rfl) ⟨l.take k,rfl,?_,?_,rfl⟩ (o2:=[some (sO p)])
   ·rw [List.length_take];omega
   ·have h:p (l.getD (k-1) 0)=false:=by cases e:p (l.getD (k-1) 0)with|true=>rw [e]at h;cases h|false=>rfl
    have hmt:l.getD (k-1) 0∈l.take k:=by
     refine List.mem_iff_getElem?.2 ⟨k-1,?_⟩;simp [List.getElem?_take,show k-1<k by omega,show k-1<l.length by omega]
    have hne:l.take k≠[]:=fun e=>by rw [e]at hmt;cases hmt
    exact⟨⟨fun e=>absurd e hne,fun e=>by rw [e _ hm]at h;cases h⟩,⟨fun e=>absurd e hne,fun e=>by rw [e _ hmt]at h;cases h⟩⟩
  ·refine yS Tryz.func130 rfl ?_ ?_
   ·simp only [hsz,e1,Int.toNat_natCast];refine⟨⟨?_,?_,?_⟩,trivial⟩<;>omega
   refine yE (ih (k-1) ⟨by omega,?_⟩ (by omega)) ⟨⟨_,rfl,.of ?_⟩,erl rfl,trivial⟩ (oAl rfl)
   ·rw [hdk];intro c hc;rcases List.mem_cons.1 hc with rfl|hc
    ·simpa using h
    ·exact hd c hc
   ·show vS _=vS _;simp only [hsz,e1,Int.toNat_natCast];rw [ze4,ht];rfl
 ·obtain rfl:k=0:=by omega
  exact yL Tryz.func130 rfl trivial (.refl _) (oAl rfl) ⟨[],rfl,Nat.zero_le _,⟨by simpa [trP]using hd,by simp [trP]⟩,rfl⟩ (o2:=[some (sO p)])
theorem zj3(p:UInt8→Bool)(l:List UInt8)(hl:l.length≤1000000000):ACall Tryz.prog 129 [vSL l,.ptr 0 0] [some (sO p)] (fun r o=>∃t,r=vSL t∧t.length≤l.length∧trP p l t∧o=[some (sO p)]):=by
 refine yN Tryz.func129 fun C hC hCl hDs hGk=>?_;refine yS Tryz.func129 rfl trivial ?_;refine z8 (α:=Nat) (fun k=>[(0,vSL (l.drop k)),(1,.ptr 0 0)]) (fun k=>[some (sO p)]) (fun k=>k≤l.length∧∀c∈l.take k,p c=true) (fun k=>l.length-k) 0 ⟨Nat.zero_le _,by simp⟩ ?_ ?_
 ·exact fun h=>yE h (eAl rfl) (oAl rfl)
 rintro k ⟨hk,hd⟩ ih;have hsz:(⟨(l.drop k).toArray⟩:ByteArray).size=l.length-k:=by rw [zp,List.length_drop]
 refine yB Tryz.func129 rfl trivial (fun hb=>?_) (fun hb=>?_)<;>rw [hsz]at hb<;>simp only [decide_eq_true_eq,decide_eq_false_iff_not]at hb
 ·have hdk:l.take (k+1)=l.take k++[l.getD k 0]:=by
   rw [List.take_add_one];simp [show k<l.length by omega]
  have hm:l.getD k 0∈l:=by
   have:k<l.length:=by omega
   simp [this]
  refine yW [0] Tryz.func129 rfl ?_ (z8k p (l.getD k 0)) ⟨⟨_,rfl,.refl _⟩,trivial⟩ ⟨.refl _,.of ?_,trivial⟩ ?_
  ·simp only [hsz];refine⟨⟨?_,?_⟩,trivial⟩<;>omega
  ·show vI .u8 (bt ⟨(l.drop k).toArray⟩ (0:Int).toNat)=vI .u8 _;rw [zo];rw [show(l.drop k).getD (0:Int).toNat 0=l.getD k 0 by simp [List.getD_eq_getElem?_getD]]
  refine yB Tryz.func129 rfl trivial (fun h=>?_) (fun h=>?_)
  ·refine yL Tryz.func129 rfl trivial (.refl _) (oAl rfl) ⟨l.drop k,rfl,?_,?_,rfl⟩ (o2:=[some (sO p)])
   ·rw [List.length_drop];omega
   ·have h:p (l.getD k 0)=false:=by cases e:p (l.getD k 0)with|true=>rw [e]at h;cases h|false=>rfl
    constructor
    ·intro e;rw [e]at hsz;simp [zp]at hsz;omega
    ·intro e;rw [e _ hm]at h;cases h
  ·refine yS Tryz.func129 rfl ?_ ?_
   ·simp only [hsz];refine⟨⟨?_,?_,?_⟩,trivial⟩<;>omega
   refine yE (ih (k+1) ⟨by omega,?_⟩ (by omega)) ⟨⟨_,rfl,.of ?_⟩,erl rfl,trivial⟩ (oAl rfl)
   ·rw [hdk];intro c hc;rcases List.mem_append.1 hc with hc|hc
    ·exact hd c hc
    ·rw [List.mem_singleton.1 hc];simpa using h
   ·show vS _=vS _;simp only [hsz];rw [ze4,List.take_of_length_le (by rw [List.length_drop];omega),List.drop_drop];rfl
 ·obtain rfl:k=l.length:=by omega
  exact yL Tryz.func129 rfl trivial (.refl _) (oAl rfl) ⟨[],by rw [List.drop_length];rfl,Nat.zero_le _,by simpa [trP]using hd,rfl⟩ (o2:=[some (sO p)])
def mk01:Nat→List AV
 | 0=>List.replicate 256 (vB false)
 | 1=>(List.replicate 256 (vB false)).set 48 (vB true)
 | 2=>setP is01
 | _=>setP is01x
@[reducible] def mkI(s:List UInt8)(i:Nat):Env:=[(0,vSL s),(2,.ptr 0 0),(4,vI .i64 i)]
@[reducible] def mkO(i:Nat):List (Option AObj):=[some (.cells 182 (mk01 i))]
@[reducible] def kBits:List UInt8:=[48,49]
@[reducible] def z3n:List UInt8:=[48,49,120]
@[reducible] def cutS(x:Bool):List UInt8:=match x with|true=>z3n|false=>kBits
@[reducible] def cutP(x:Bool):UInt8→Bool:=match x with|true=>is01x|false=>is01
theorem zgo(x:Bool):ACall Tryz.prog 128 [vSL (cutS x)] [] (fun r o=>r=tupOf [mkAg (setP (cutP x)),vB true]∧o=[]):=by
 refine yN Tryz.func128 fun C hC hCl hDs hGk=>?_;cases x
 ·refine yS Tryz.func128 rfl trivial ?_;refine zab (zt (env':=mkI kBits 0) (objs':=mkO 0) ?_ hC hCl ⟨⟨_,rfl,.refl _⟩,⟨_,rfl,.refl _⟩,⟨_,rfl,.refl _⟩,trivial⟩ ⟨.of (by kernel_rfl),trivial⟩ rfl rfl (Nat.zero_le _));refine yT Tryz.func128 rfl trivial ?_;refine yF Tryz.func128 rfl ⟨⟨by decide,by decide⟩,trivial⟩ ?_;refine yS Tryz.func128 rfl trivial ?_;refine zac (zt (env':=mkI kBits 1) (objs':=mkO 1) ?_ hC hCl ⟨⟨_,rfl,.refl _⟩,⟨_,rfl,.refl _⟩,⟨_,rfl,.of (by rw [z7 (by omega) (by omega)];rfl)⟩,trivial⟩ ⟨.of (by kernel_rfl),trivial⟩ rfl rfl (Nat.zero_le _));refine yT Tryz.func128 rfl trivial ?_;refine yF Tryz.func128 rfl ⟨⟨by decide,by decide⟩,trivial⟩ ?_;refine yS Tryz.func128 rfl trivial ?_;refine zac (zt (env':=mkI kBits 2) (objs':=mkO 2) ?_ hC hCl ⟨⟨_,rfl,.refl _⟩,⟨_,rfl,.refl _⟩,⟨_,rfl,.of (by rw [z7 (by omega) (by omega)];rfl)⟩,trivial⟩ ⟨.of (by kernel_rfl),trivial⟩ rfl rfl (Nat.zero_le _));refine yF Tryz.func128 rfl trivial ?_;exact yL Tryz.func128 rfl trivial (.of (by kernel_rfl)) trivial ⟨rfl,rfl⟩ (hro:=by kernel_rfl) (r2:=tupOf [mkAg (setP is01),vB true]) (o2:=[])
 ·refine yS Tryz.func128 rfl trivial ?_;refine zab (zt (env':=mkI z3n 0) (objs':=mkO 0) ?_ hC hCl ⟨⟨_,rfl,.refl _⟩,⟨_,rfl,.refl _⟩,⟨_,rfl,.refl _⟩,trivial⟩ ⟨.of (by kernel_rfl),trivial⟩ rfl rfl (Nat.zero_le _));refine yT Tryz.func128 rfl trivial ?_;refine yF Tryz.func128 rfl ⟨⟨by decide,by decide⟩,trivial⟩ ?_;refine yS Tryz.func128 rfl trivial ?_;refine zac (zt (env':=mkI z3n 1) (objs':=mkO 1) ?_ hC hCl ⟨⟨_,rfl,.refl _⟩,⟨_,rfl,.refl _⟩,⟨_,rfl,.of (by rw [z7 (by omega) (by omega)];rfl)⟩,trivial⟩ ⟨.of (by kernel_rfl),trivial⟩ rfl rfl (Nat.zero_le _));refine yT Tryz.func128 rfl trivial ?_;refine yF Tryz.func128 rfl ⟨⟨by decide,by decide⟩,trivial⟩ ?_;refine yS Tryz.func128 rfl trivial ?_;refine zac (zt (env':=mkI z3n 2) (objs':=mkO 2) ?_ hC hCl ⟨⟨_,rfl,.refl _⟩,⟨_,rfl,.refl _⟩,⟨_,rfl,.of (by rw [z7 (by omega) (by omega)];rfl)⟩,trivial⟩ ⟨.of (by kernel_rfl),trivial⟩ rfl rfl (Nat.zero_le _));refine yT Tryz.func128 rfl trivial ?_;refine yF Tryz.func128 rfl ⟨⟨by decide,by decide⟩,trivial⟩ ?_;refine yS Tryz.func128 rfl trivial ?_;refine zac (zt (env':=mkI z3n 3) (objs':=mkO 3) ?_ hC hCl ⟨⟨_,rfl,.refl _⟩,⟨_,rfl,.refl _⟩,⟨_,rfl,.of (by rw [z7 (by omega) (by omega)];rfl)⟩,trivial⟩ ⟨.of (by kernel_rfl),trivial⟩ rfl rfl (Nat.zero_le _));refine yF Tryz.func128 rfl trivial ?_;exact yL Tryz.func128 rfl trivial (.of (by kernel_rfl)) trivial ⟨rfl,rfl⟩ (hro:=by kernel_rfl) (r2:=tupOf [mkAg (setP is01x),vB true]) (o2:=[])
theorem z5s(l:List UInt8):((⟨l.toArray⟩:ByteArray).toList==(⟨#[]⟩:ByteArray).toList)=l.isEmpty:=by
 rw [ByteArray.toList_mk,show(⟨#[]⟩:ByteArray)=⟨([]:List UInt8).toArray⟩from rfl,ByteArray.toList_mk];cases l<;>rfl
theorem zfz(x:Bool)(l:List UInt8)(hl:l.length≤1000000000):ACall Tryz.prog 94 [vSL l,vSL (cutS x)] [] (fun r o=>∃t,r=vSL t∧trP (cutP x) l t):=by
 have mk:=zgo x;have cR:=zj2 (cutP x) l hl;have cL:=zj3 (cutP x);cases x;all_goals
  refine yN Tryz.func94 fun C hC hCl hDs hGk=>?_;refine yB Tryz.func94 rfl trivial (fun h=>?_) (fun h=>?_)<;>rw [z5s]at h
  ·cases l with|cons a l=>simp at h|nil=>
   refine yT Tryz.func94 rfl trivial ?_;exact yR Tryz.func94 rfl trivial ⟨[],rfl,by simp [trP]⟩
  refine yB Tryz.func94 rfl trivial (fun h=>by rw [z5s]at h;cases h) (fun _=>?_);refine yB Tryz.func94 rfl trivial (fun h=>absurd h (by decide)) (fun _=>?_);refine yB Tryz.func94 rfl trivial (fun h=>absurd h (by decide)) (fun _=>?_);refine yW [] Tryz.func94 rfl trivial mk trivial (.refl _) ?_;refine yT Tryz.func94 rfl trivial ?_;refine yG [0] Tryz.func94 rfl trivial cR ⟨⟨_,rfl,.of (by kernel_rfl)⟩,trivial⟩ (.refl _) ?_;rintro r o ⟨t,rfl,ht1,⟨ht2,ht3⟩,rfl⟩;refine yG [0] Tryz.func94 rfl trivial (cL t (by omega)) ⟨⟨_,rfl,.refl _⟩,trivial⟩ (.refl _) ?_;rintro r o ⟨u,rfl,hu1,hu2,rfl⟩;refine yL Tryz.func94 rfl trivial (.refl _) trivial ⟨u,rfl,?_⟩ (o2:=[]);exact⟨fun e=>ht2.1 (ht3.2 (hu2.1 e)),fun e=>hu2.2 (ht3.1 (ht2.2 e))⟩
theorem zhc(l:List UInt8)(hl:l.length≤1000000000):ACall Tryz.prog 94 [vSL l,vS ⟨#[48,49]⟩] [] (fun r o=>∃t,r=vSL t∧trE l t):=zfz false l hl
@[reducible] def vN(w x:Nat):D:=eV w (lmb (z6 w) x)
@[reducible] def z24:D:=.ag [eI 0,.v (.slice none 0 0)]
def mkN(l:List UInt8):Nat:=ofB (fun i=>(l.getD (l.length-1-i) 0).toNat==49) l.length
def mkok(l:List UInt8):Bool:=decide (1≤l.length)&&decide (l.length≤128)&&l.all is01
def mkR(l:List UInt8):AV:=if mkok l then tupOf [.d (vN l.length (mkN l)),vI .i64 0]else tupOf [.d z24,vI .i64 2]
def mkB(l:List UInt8)(i:Nat):Nat:=ofB (fun i=>(l.getD (l.length-1-i) 0).toNat==49) i
theorem mkB_t(l:List UInt8)(i:Nat)(h:(l.getD (l.length-1-i) 0).toNat=49):mkB l (i+1)=mkB l i ||| 2^i:=by
 have hlt:mkB l i<2^i:=z6d _ _;have:=Nat.two_pow_add_eq_or_of_lt hlt 1;rw [Nat.mul_one]at this;rw [Nat.or_comm,←this,Nat.add_comm (2^i)];show ofB _ _+_=_;rw [if_pos (show((l.getD (l.length-1-i) 0).toNat==49)=true by rw [h];rfl)];rfl
theorem mkB_f(l:List UInt8)(i:Nat)(h:¬(l.getD (l.length-1-i) 0).toNat=49):mkB l (i+1)=mkB l i:=by
 show ofB _ _+_=_;rw [if_neg (by simpa using h),Nat.add_zero];rfl
theorem z4e(l:List UInt8)(hl:l.length≤1000000000):ACall Tryz.prog 72 [vSL l] [] (fun r o=>r=mkR l):=by
 refine yN Tryz.func72 fun C hC hCl hDs hGk=>?_;refine yB Tryz.func72 rfl trivial (fun h=>?_) (fun h=>?_)
 ·rw [z5s]at h;cases l with|cons a l=>simp at h|nil=>
  refine yT Tryz.func72 rfl trivial ?_;refine yT Tryz.func72 rfl trivial ?_;exact yR Tryz.func72 rfl trivial rfl
 ·rw [z5s]at h;refine yB Tryz.func72 rfl trivial (fun h2=>?_) (fun h2=>?_)
  ·refine yT Tryz.func72 rfl trivial ?_;refine yR Tryz.func72 rfl trivial ?_;rw [zp,decide_eq_true_eq]at h2;rw [mkR,if_neg (by simp only [mkok,Bool.and_eq_true,decide_eq_true_eq];omega)];rfl
  ·refine yC Tryz.func72 rfl trivial (zhc l hl) (.refl _) ?_ (hr:=by rintro r o ⟨t,rfl,-⟩;rfl);rintro r o ⟨t,rfl,ht⟩;refine yB Tryz.func72 rfl trivial (fun h3=>?_) (fun h3=>?_)
   ·refine yR Tryz.func72 rfl trivial ?_;rw [mkR,if_neg]
    ·rfl
    ·intro hk;simp only [mkok,Bool.and_eq_true,decide_eq_true_eq,List.all_eq_true]at hk;rw [ht.2 hk.2]at h3;rw [z5s]at h3;cases h3
   refine yW [] Tryz.func72 rfl trivial (z2b l.length (by rw [zp,decide_eq_false_iff_not]at h2;omega)) trivial (.refl _) ?_;refine yS Tryz.func72 rfl trivial ?_;have hsz:(⟨l.toArray⟩:ByteArray).size=l.length:=zp l;rw [hsz]at h2;have hlen:1≤l.length∧l.length≤128:=by
    cases l with|nil=>simp at h|cons a l=>simp only [decide_eq_false_iff_not]at h2;exact⟨by simp,by omega⟩
   have hall:∀c∈l,is01 c=true:=ht.1 (by
    rw [z5s]at h3;cases t with|nil=>rfl|cons a t=>simp at h3)
   have hok:mkok l=true:=by
    simp only [mkok,Bool.and_eq_true,decide_eq_true_eq,List.all_eq_true];exact⟨hlen,hall⟩
   refine z8 (α:=Nat) (fun i=>[(0,vSL l),(2,.ptr 0 0),(4,.ptr 3 0),(23,vI .i64 (l.length:Int)),(24,vI .i64 i)]) (fun i=>[some zV,none,some (gUs (lmb (z6 l.length) (mkB l i))),some (cV l.length 2)]) (fun i=>i≤l.length) (fun i=>l.length-i) 0 (Nat.zero_le _) ?_ ?_
   ·refine fun h=>yE h ⟨erl rfl,erl rfl,erl rfl,⟨_,rfl,.of ?_⟩,erl rfl,trivial⟩ ⟨.refl _,.of (by rw [z4g];rfl),.refl _,trivial⟩;show vI .i64 (((⟨l.toArray⟩:ByteArray).size:Nat):Int)=_;rw [hsz]
   rintro i hi ih;refine yB Tryz.func72 rfl trivial (fun hb=>?_) (fun hb=>?_)<;>simp only [decide_eq_true_eq,decide_eq_false_iff_not]at hb
   ·have e1:IntKind.i64.wrap (IntKind.i64.wrap ((l.length:Int)-1)-i)=((l.length-1-i:Nat):Int):=by
     rw [z7 (n:=(l.length:Int)-1) (by omega) (by omega),z7 (by omega) (by omega)];omega
    refine yB Tryz.func72 rfl ?_ (fun hb2=>?_) (fun hb2=>?_)
    ·simp only [hsz,e1,Int.toNat_natCast];exact⟨⟨by omega,by omega⟩,trivial⟩
    ·have hb2:(bt ⟨l.toArray⟩ (IntKind.i64.wrap (IntKind.i64.wrap (((⟨l.toArray⟩:ByteArray).size:Int)-1)-i)).toNat==49)=true:=hb2;rw [hsz,e1,Int.toNat_natCast,zo]at hb2;refine yW [3,2] Tryz.func72 rfl trivial (z5j l.length i (lmb (z6 l.length) (mkB l i)) (z14 _ _) (by rw [zr];exact z1o (by omega)) (by omega)) ⟨⟨_,rfl,.refl _⟩,⟨_,rfl,.refl _⟩,trivial⟩ (.refl _) ?_;refine yS Tryz.func72 rfl trivial ?_;refine yE (ih (i+1) (by omega) (by omega)) ⟨erl rfl,erl rfl,erl rfl,erl rfl,erw rfl,trivial⟩ ⟨.refl _,.of ?_,.refl _,trivial⟩;rw [mkB_t l i (by have:=eq_of_beq hb2;omega),z4k (z1o (by omega))];rfl
    ·have hb2:(bt ⟨l.toArray⟩ (IntKind.i64.wrap (IntKind.i64.wrap (((⟨l.toArray⟩:ByteArray).size:Int)-1)-i)).toNat==49)=false:=hb2;rw [hsz,e1,Int.toNat_natCast,zo]at hb2;refine yS Tryz.func72 rfl trivial ?_;refine yE (ih (i+1) (by omega) (by omega)) ⟨erl rfl,erl rfl,erl rfl,erl rfl,erw rfl,trivial⟩ ⟨.refl _,.of ?_,.refl _,trivial⟩;rw [mkB_f l i (fun e=>by rw [e]at hb2;cases hb2)]
   ·obtain rfl:i=l.length:=by omega
    refine zj 2 rfl ?_;refine yR Tryz.func72 rfl trivial ?_;rw [mkR,if_pos hok];rfl
def bitI'(w x:Nat)(i:Int):Bool:=decide (0≤i)&&decide (i<w)&&x.testBit i.toNat
theorem zq1(w x:Nat)(i:Int):bitV w (lmb (z6 w) x) i=bitI' w x i:=by
 simp only [bitV,bitI'];by_cases h:0≤i∧i<w
 ·rw [z4q (z1o (by omega))]
 ·by_cases h1:0≤i
  ·simp [h1,show ¬i<w by omega]
  ·simp [h1]
theorem bitI'_nat{w x i:Nat}(h:i<w):bitI' w x (i:Int)=x.testBit i:=by
 simp [bitI',show(i:Int)<w by omega]
theorem z4f(w x:Nat)(i:Int)(hb:w≤1000000):ACall Tryz.prog 101 [.d (vN w x),vI .i64 i] [] (fun r o=>r=vB (bitI' w x i)):=by
 have:=za1 w (lmb (z6 w) x) i (z14 _ _) (by rw [zr];exact Nat.le_refl _) hb;rwa [zq1]at this
theorem z2s(w x:Nat)(hx:x<2^w)(hw:0<w)(hwb:w≤1000000):ACall Tryz.prog 217 [.d (vN w x)] [] (fun r o=>r=.d (vN w (2^w-(x+1)))):=by
 have:=zg4 w (lmb (z6 w) x) (z14 _ _) (zr _ _) hw hwb;rwa [zru (z6w hx),zbf,notw hx]at this
theorem z3e(w x y c:Nat)(hw:0<w)(hwb:w≤1000000)(hc:c≤1):ACall Tryz.prog 219 [.d (vN w x),.d (vN w y),vU c] [] (fun r o=>r=.d (vN w ((x+y+c)%2^w))):=by
 have:=zo8 w w (lmb (z6 w) x) (lmb (z6 w) y) c (z14 _ _) (z14 _ _) (zr _ _) (zr _ _) hw hwb hc;rwa [zo9]at this
theorem modand{w x y:Nat}(hx:x<2^w):(x &&& y)%2^w=x &&& y:=Nat.mod_eq_of_lt (Nat.lt_of_le_of_lt Nat.and_le_left hx)
theorem znm(w x y:Nat)(hx:x<2^w)(hw:0<w)(hwb:w≤1000000):ACall Tryz.prog 240 [.d (vN w x),.d (vN w y)] [] (fun r o=>r=.d (vN w (x &&& y))):=by
 have:=zq3 w w (lmb (z6 w) x) (lmb (z6 w) y) (z14 _ _) (z14 _ _) (zr _ _) (zr _ _) hw hwb;rwa [zss,zbf,modand hx]at this
theorem zoo(w x y:Nat)(hx:x<2^w)(hy:y<2^w)(hw:0<w)(hwb:w≤1000000):ACall Tryz.prog 242 [.d (vN w x),.d (vN w y)] [] (fun r o=>r=.d (vN w (x ||| y))):=by
 have:=zrm w w (lmb (z6 w) x) (lmb (z6 w) y) (z14 _ _) (z14 _ _) (zr _ _) (zr _ _) hw hwb;rwa [zt7,zbf,Nat.mod_eq_of_lt (Nat.or_lt_two_pow hx hy)]at this
theorem zkc(w x y:Nat)(hx:x<2^w)(hy:y<2^w)(hw:0<w)(hwb:w≤1000000):ACall Tryz.prog 244 [.d (vN w x),.d (vN w y)] [] (fun r o=>r=.d (vN w (x ^^^ y))):=by
 have:=zo0 w w (lmb (z6 w) x) (lmb (z6 w) y) (z14 _ _) (z14 _ _) (zr _ _) (zr _ _) hw hwb;rwa [zr0,zbf,Nat.mod_eq_of_lt (Nat.xor_lt_two_pow hx hy)]at this
theorem upmod{w x n:Nat}(hn:n≤w):x%2^(w-n)*2^n=x*2^n%2^w:=by
 rw [←Nat.mul_mod_mul_right,←Nat.pow_add,Nat.sub_add_cancel hn]
theorem zhj(w n x:Nat)(hw:w≤100000)(hn:n≤w):ACall Tryz.prog 238 [.d (vN w x),vI .i64 n] [] (fun r o=>r=.d (vN w (x*2^n%2^w))):=by
 have:=zr6 w n (lmb (z6 w) x) (z14 _ _) (zr _ _) hw (by omega);rwa [zd1 _ (Nat.le_refl _),upmod hn]at this
theorem z40(b:Bool):ACall Tryz.prog 223 [vB b] [] (fun r o=>r=.d (vN 1 (if b then 1 else 0))):=by
 have:=zmq b;rwa [show([if b then 1 else 0]:List Nat)=lmb (z6 1) (if b then 1 else 0)by cases b<;>decide]at this
@[reducible] def bN(w x:Nat):AObj:=bV w (lmb (z6 w) x)
def prI(w x y i:Nat):Nat:=x*(y%2^i)%2^w
theorem zi7(y i:Nat):y%2^(i+1)=y%2^i+if y.testBit i then 2^i else 0:=by
 rw [Nat.pow_succ,Nat.mod_mul,Nat.testBit_eq_decide_div_mod_eq];rcases Nat.mod_two_eq_zero_or_one (y / 2^i)with h|h<;>simp [h]
theorem prI_t{w x y i:Nat}(h:y.testBit i=true):prI w x y (i+1)=(prI w x y i+x*2^i%2^w+0)%2^w:=by
 rw [prI,zi7,if_pos h,Nat.mul_add,Nat.add_mod];rfl
theorem prI_f{w x y i:Nat}(h:y.testBit i=false):prI w x y (i+1)=prI w x y i:=by
 rw [prI,zi7,if_neg (by simp [h])];rfl
theorem zdf(w x y:Nat)(hy:y<2^w)(hw:0<w)(hwb:w≤100000):ACall Tryz.prog 248 [.d (vN w x),.d (vN w y)] [] (fun r o=>r=.d (vN w (x*y%2^w))):=by
 refine yN Tryz.func248 fun C hC hCl hDs hGk=>?_;refine yW [] Tryz.func248 rfl trivial (z2b w (by omega)) trivial (.refl _) ?_;refine zj 4 rfl ?_;refine yS Tryz.func248 rfl trivial ?_;refine z8 (α:=Nat) (fun i=>[(2,.ptr 0 0),(3,.ptr 1 0),(4,.ptr 2 0),(5,.ptr 5 0),(11,vI .i64 (w:Int)),(12,vI .i64 i)]) (fun i=>[some (bN w x),some (bN w y),some zV,none,none,some (bN w (prI w x y i))]) (fun i=>i≤w) (fun i=>w-i) 0 (Nat.zero_le _) ?_ ?_
 ·refine fun h=>yE h (eAl rfl) ⟨.refl _,.refl _,.refl _,.of ?_,trivial⟩;rw [z4g];simp only [prI,Nat.pow_zero,Nat.mod_one,Nat.mul_zero,Nat.zero_mod];rfl
 rintro i hi ih;refine yB Tryz.func248 rfl trivial (fun hb=>?_) (fun hb=>?_)<;>simp only [decide_eq_true_eq,decide_eq_false_iff_not]at hb
 ·refine yV Tryz.func248 rfl trivial (z4f w y i (by omega)) (.refl _) ?_;rw [bitI'_nat (by omega)];refine yB Tryz.func248 rfl trivial (fun hb2=>?_) (fun hb2=>?_)
  ·refine yO 4 Tryz.func248 rfl trivial ?_;refine yQ Tryz.func238 rfl trivial (zhj w i x (by omega) (by omega)) (.refl _) ?_;refine yq rfl trivial ?_;refine yV Tryz.func248 rfl trivial (z3e w (prI w x y i) (x*2^i%2^w) 0 hw (by omega) (by omega)) (.refl _) ?_;refine yS Tryz.func248 rfl trivial ?_;rw [←prI_t hb2];exact yE (ih (i+1) (by omega) (by omega)) ⟨erl rfl,erl rfl,erl rfl,erl rfl,erl rfl,erw rfl,trivial⟩ (oAl rfl)
  ·refine yS Tryz.func248 rfl trivial ?_;refine yE (ih (i+1) (by omega) (by omega)) ⟨erl rfl,erl rfl,erl rfl,erl rfl,erl rfl,erw rfl,trivial⟩ ⟨.refl _,.refl _,.refl _,.of (by rw [prI_f hb2]),trivial⟩
 ·obtain rfl:i=w:=by omega
  refine yR Tryz.func248 rfl trivial ?_;rw [prI,Nat.mod_eq_of_lt hy];rfl
theorem zrw{w y:Nat}(hw:w≤128)(hy:y<2^w)(h:z6 w=2):(0<lw y 1)=¬y<2^64:=by
 have h2:y<2^128:=Nat.lt_of_lt_of_le hy (Nat.pow_le_pow_right (by decide) hw);rw [lw];apply propext;constructor
 ·intro h hc;rw [Nat.div_eq_of_lt hc]at h;exact absurd h (by decide)
 ·intro h;rw [Nat.mod_eq_of_lt (Nat.div_lt_of_lt_mul (by omega))];exact Nat.div_pos (by omega) (by decide)
theorem z6b(w y:Nat)(hw:0<w)(hwb:w≤128)(hy:y<2^w):ACall Tryz.prog 253 [.d (vN w y)] [] (fun r o=>r=vI .i64 ((min y w:Nat):Int)):=by
 refine yN Tryz.func253 fun C hC hCl hDs hGk=>?_;have hn:z6 w=(w+63) / 64:=rfl;have h2:y<2^128:=Nat.lt_of_lt_of_le hy (Nat.pow_le_pow_right (by decide) hwb);have hll:(lmb (z6 w) y).length=z6 w:=zr _ _;have h0:(lmb (z6 w) y).getD 0 0=y%2^64:=by rw [z3a (by omega),lw];simp
 refine yO 19 Tryz.func253 rfl trivial ?_;refine yb rfl trivial (fun h=>?_) (fun h=>?_)<;>simp only [List.length_map,hll,decide_eq_true_eq,decide_eq_false_iff_not]at h
 ·have hl2:z6 w=2:=by omega
  have h1:(lmb (z6 w) y).getD 1 0=lw y 1:=by rw [z3a (by omega)]
  have hp:=zrw hwb hy hl2;refine yb rfl ?_ (fun h3=>?_) (fun h3=>?_)
  ·simp only [List.length_map,hll];exact⟨⟨by omega,by omega⟩,trivial⟩
  ·have h3:decide (((lmb (z6 w) y).getD 1 0:Int)>0)=true:=h3;rw [h1,decide_eq_true_eq]at h3;have h4:¬y<2^64:=hp▸(show 0<lw y 1 by omega);refine yq rfl trivial ?_;refine yT Tryz.func253 rfl trivial ?_;refine yR Tryz.func253 rfl trivial ?_;rw [Nat.min_eq_right (show w≤y by omega)];rfl
  ·have h3:decide (((lmb (z6 w) y).getD 1 0:Int)>0)=false:=h3;rw [h1,decide_eq_false_iff_not]at h3;have h4:y<2^64:=Decidable.of_not_not fun hc=>by
    have:0<lw y 1:=by rw [hp];exact hc
    omega
   refine yq rfl ?_ ?_
   ·simp only [List.length_map,hll];exact⟨⟨by omega,by omega⟩,trivial⟩
   have ew:IntKind.u64.wrap (w:Int)=(w:Int):=z4h (by omega);refine yB Tryz.func253 rfl trivial (fun h5=>?_) (fun h5=>?_)
   ·have h5:decide (((lmb (z6 w) y).getD 0 0:Int)≥IntKind.u64.wrap (w:Int))=true:=h5;rw [h0,ew,Nat.mod_eq_of_lt h4,decide_eq_true_eq]at h5;refine yR Tryz.func253 rfl trivial ?_;rw [Nat.min_eq_right (show w≤y by omega)];rfl
   ·have h5:decide (((lmb (z6 w) y).getD 0 0:Int)≥IntKind.u64.wrap (w:Int))=false:=h5;rw [h0,ew,Nat.mod_eq_of_lt h4,decide_eq_false_iff_not]at h5;refine yR Tryz.func253 rfl ?_ ?_
    ·simp only [List.length_map,hll];exact⟨⟨by omega,by omega⟩,trivial⟩
    ·show vI .i64 (IntKind.i64.wrap (((lmb (z6 w) y).getD 0 0:Nat):Int))=_;rw [h0,Nat.mod_eq_of_lt h4,z7 (by omega) (by omega),Nat.min_eq_left (by omega)]
 ·have h4:y<2^64:=Nat.lt_of_lt_of_le hy (Nat.pow_le_pow_right (by decide) (by omega));refine yb rfl trivial (fun h=>by cases h) (fun _=>?_);refine yq rfl ?_ ?_
  ·simp only [List.length_map,hll];exact⟨⟨by omega,by omega⟩,trivial⟩
  have ew:IntKind.u64.wrap (w:Int)=(w:Int):=z4h (by omega);refine yB Tryz.func253 rfl trivial (fun h5=>?_) (fun h5=>?_)
  ·have h5:decide (((lmb (z6 w) y).getD 0 0:Int)≥IntKind.u64.wrap (w:Int))=true:=h5;rw [h0,ew,Nat.mod_eq_of_lt h4,decide_eq_true_eq]at h5;refine yR Tryz.func253 rfl trivial ?_;rw [Nat.min_eq_right (show w≤y by omega)];rfl
  ·have h5:decide (((lmb (z6 w) y).getD 0 0:Int)≥IntKind.u64.wrap (w:Int))=false:=h5;rw [h0,ew,Nat.mod_eq_of_lt h4,decide_eq_false_iff_not]at h5;refine yR Tryz.func253 rfl ?_ ?_
   ·simp only [List.length_map,hll];exact⟨⟨by omega,by omega⟩,trivial⟩
   ·show vI .i64 (IntKind.i64.wrap (((lmb (z6 w) y).getD 0 0:Nat):Int))=_;rw [h0,Nat.mod_eq_of_lt h4,z7 (by omega) (by omega),Nat.min_eq_left (by omega)]
def dnN(w x n:Nat)(b:Bool)(i:Nat):Nat:=ofB (fun i=>if i+n<w then x.testBit (i+n)else b) i
theorem dn_t{w x n i:Nat}{b:Bool}(h:(if i+n<w then x.testBit (i+n)else b)=true):dnN w x n b (i+1)=dnN w x n b i ||| 2^i:=by
 have hlt:dnN w x n b i<2^i:=z6d _ _;have:=Nat.two_pow_add_eq_or_of_lt hlt 1;rw [Nat.mul_one]at this;rw [Nat.or_comm,←this,Nat.add_comm (2^i)];show ofB _ _+_=_;rw [if_pos h];rfl
theorem dn_f{w x n i:Nat}{b:Bool}(h:(if i+n<w then x.testBit (i+n)else b)=false):dnN w x n b (i+1)=dnN w x n b i:=by
 show ofB _ _+_=_;rw [if_neg (by simpa using h),Nat.add_zero];rfl
theorem zcq(w x n:Nat)(b:Bool)(hw:0<w)(hwb:w≤100000)(hn:n≤100000):ACall Tryz.prog 255 [.d (vN w x),vI .i64 n,vB b] [] (fun r o=>r=.d (vN w (dnN w x n b w))):=by
 refine yN Tryz.func255 fun C hC hCl hDs hGk=>?_;refine yW [] Tryz.func255 rfl trivial (z2b w (by omega)) trivial (.refl _) ?_;refine yS Tryz.func255 rfl trivial ?_;refine z8 (α:=Nat) (fun i=>[(1,vI .i64 n),(2,vB b),(3,.ptr 0 0),(6,.ptr 1 0),(7,.ptr 4 0),(13,vI .i64 (w:Int)),(14,vI .i64 i)]) (fun i=>[some (bN w x),some zV,none,some (gUs (lmb (z6 w) (dnN w x n b i))),some (cV w 3)]) (fun i=>i≤w) (fun i=>w-i) 0 (Nat.zero_le _) ?_ ?_
 ·exact fun h=>yE h (eAl rfl) ⟨.refl _,.refl _,.of (by rw [z4g];rfl),.refl _,trivial⟩
 rintro i hi ih;refine yB Tryz.func255 rfl trivial (fun hb=>?_) (fun hb=>?_)<;>simp only [decide_eq_true_eq,decide_eq_false_iff_not]at hb
 ·have e1:IntKind.i64.wrap ((i:Int)+n)=((i+n:Nat):Int):=by rw [z7 (by omega) (by omega)];omega
  refine yB Tryz.func255 rfl trivial (fun h=>?_) (fun h=>?_)
  ·have h:decide (IntKind.i64.wrap ((i:Int)+n)<(w:Int))=true:=h;rw [e1,decide_eq_true_eq]at h;refine yV Tryz.func255 rfl trivial (z4f w x ((i+n:Nat):Int) (by omega)) ⟨.refl _,.of (by show vI .i64 (IntKind.i64.wrap ((i:Int)+n))=_;rw [e1]),trivial⟩ ?_;rw [bitI'_nat (by omega)];refine yB Tryz.func255 rfl trivial (fun h2=>?_) (fun h2=>?_)
   ·have hx:(if i+n<w then x.testBit (i+n)else b)=true:=by rw [if_pos (by omega)];exact h2
    refine yT Tryz.func255 rfl trivial ?_;refine yW [4,3] Tryz.func255 rfl trivial (z5j w i (lmb (z6 w) (dnN w x n b i)) (z14 _ _) (by rw [zr];exact z1o (by omega)) (by omega)) ⟨⟨_,rfl,.refl _⟩,⟨_,rfl,.refl _⟩,trivial⟩ (.refl _) ?_;refine yS Tryz.func255 rfl trivial ?_;exact yE (ih (i+1) (by omega) (by omega)) ⟨erl rfl,erl rfl,erl rfl,erl rfl,erl rfl,erl rfl,erw rfl,trivial⟩ ⟨.refl _,.refl _,.of (by rw [dn_t hx,z4k (z1o (by omega))];rfl),.refl _,trivial⟩
   ·have hx:(if i+n<w then x.testBit (i+n)else b)=false:=by rw [if_pos (by omega)];exact h2
    refine yB Tryz.func255 rfl trivial (fun h3=>?_) (fun h3=>?_)
    ·have h3:decide (IntKind.i64.wrap ((i:Int)+n)≥(w:Int))=true:=h3;rw [e1,decide_eq_true_eq]at h3;omega
    refine yF Tryz.func255 rfl trivial ?_;refine yS Tryz.func255 rfl trivial ?_;exact yE (ih (i+1) (by omega) (by omega)) ⟨erl rfl,erl rfl,erl rfl,erl rfl,erl rfl,erl rfl,erw rfl,trivial⟩ ⟨.refl _,.refl _,.of (by rw [dn_f hx]),.refl _,trivial⟩
  ·have h:decide (IntKind.i64.wrap ((i:Int)+n)<(w:Int))=false:=h;rw [e1,decide_eq_false_iff_not]at h;refine yF Tryz.func255 rfl trivial ?_;refine yB Tryz.func255 rfl trivial (fun h2=>?_) (fun h2=>?_)
   ·refine yB Tryz.func255 rfl trivial (fun h3=>?_) (fun h3=>?_)
    ·have hx:(if i+n<w then x.testBit (i+n)else b)=true:=by rw [if_neg (by omega)];exact h3
     refine yW [4,3] Tryz.func255 rfl trivial (z5j w i (lmb (z6 w) (dnN w x n b i)) (z14 _ _) (by rw [zr];exact z1o (by omega)) (by omega)) ⟨⟨_,rfl,.refl _⟩,⟨_,rfl,.refl _⟩,trivial⟩ (.refl _) ?_;refine yS Tryz.func255 rfl trivial ?_;exact yE (ih (i+1) (by omega) (by omega)) ⟨erl rfl,erl rfl,erl rfl,erl rfl,erl rfl,erl rfl,erw rfl,trivial⟩ ⟨.refl _,.refl _,.of (by rw [dn_t hx,z4k (z1o (by omega))];rfl),.refl _,trivial⟩
    ·have hx:(if i+n<w then x.testBit (i+n)else b)=false:=by rw [if_neg (by omega)];exact h3
     refine yS Tryz.func255 rfl trivial ?_;exact yE (ih (i+1) (by omega) (by omega)) ⟨erl rfl,erl rfl,erl rfl,erl rfl,erl rfl,erl rfl,erw rfl,trivial⟩ ⟨.refl _,.refl _,.of (by rw [dn_f hx]),.refl _,trivial⟩
   ·have h2:decide (IntKind.i64.wrap ((i:Int)+n)≥(w:Int))=false:=h2;rw [e1,decide_eq_false_iff_not]at h2;omega
 ·obtain rfl:i=w:=by omega
  refine zj 3 rfl ?_;exact yR Tryz.func255 rfl trivial rfl
end Go.Proofs.YtbodbhpdelgpnaaGreatDoor
namespace Ab
open Go
variable [Draws]
section
variable {P:Program}[Globals P]{T:Tab}{f:FuncId}{fn:Func}{n:Nat}{C:Cx}{R:AV→List (Option AObj)→Prop}{todo todo' k:List Item}{env env':Env}{objs objs':List (Option AObj)}
theorem zk{ops:Array Oper}{i:Nat}{r:List Nat}{k:List Item}{o:Oper}{t kt et:TypeId}{mo ko xo:Operand}{rm rk:TRow}{j:Nat}{es es':List (Value×AV)}{key:Value}{x:AV}(hT:TabOk P T)
  (ho:ops[i]?=some o) (hw:wantE ops env o=.yes) (hop:o.op=.insert t mo ko xo) (hd:o.dst=none) (hm:opnd env mo=some (.mp j)) (hk:opnd env ko=some (.d (.v key))) (hx:opnd env xo=some x) (h1:tlook T t=some rm) (h2:rm.kd=.map kt et) (h3:tlook T kt=some rk)
  (hobj:nth objs j=some (some (.map es))) (hkey:keyB rk.kd key=true) (hks:keysB rk.kd es=true) (hf:MPut key x es es')
  (h:ASat P f n C (.inRegion ops r::k) env (za objs j (some (.map es'))) R):ASat P f n C (.inRegion ops (i::r)::k) env objs R:=by
 refine za9 ⟨none,true,.und,none,za objs j (some (.map es'))⟩ ho hw (fun X π w tmps m he _=>?_) trivial (by rw [hd];rfl) h;obtain⟨w',e1,e2⟩:=zed hT m h1 h2 h3 hobj hkey hks hf (zf (ds:=[]) he hm) (zf (ds:=[]) he hx);refine⟨undef,w',π,?_,e2,fun h=>by cases h⟩;unfold execOp;simp only [hop];rw [z49 (P:=P) he hk];simp only [Sem.run_bind,e1,Result.andThen_ok,Sem.run_pure];rfl
end
end Ab
namespace Go.Proofs.YtbodbhpdelgpnaaGreatDoor
open Go Ab
def strK(l:List UInt8):Value:=.string ⟨l.toArray⟩
theorem zd7{a b:List UInt8}(h:a≠b):strK a≠strK b:=by
 intro e;injection e with e
 injection e with e
 injection e with e
 exact h e
theorem z10{k:List UInt8}{x:AV}:∀{es:List (List UInt8×AV)},(∀p∈es,p.1≠k)→MPut (strK k) x (es.map fun p=>(strK p.1,p.2)) ((es++[(k,x)]).map fun p=>(strK p.1,p.2))
 | [],_=>.nil
 | p::r,h=>.miss (zd7 (h p (List.mem_cons_self))) (z10 fun q hq=>h q (List.mem_cons_of_mem _ hq))
def z2m(k:List UInt8):List (List UInt8×AV)→Option AV
 | []=>none
 | (k',x)::r=>if k'=k then some x else z2m k r
theorem z7n(k:List UInt8)(ρ:Nat→Nat):∀es:List (List UInt8×AV),MFind (strK k) (renEs ρ (es.map fun p=>(strK p.1,p.2))) ((z2m k es).map (AV.ren ρ))
 | []=>.nil
 | (k',x)::r=>by
  simp only [z2m,List.map_cons,renEs];split
  ·rename_i h;subst h;exact .hit
  ·rename_i h;exact .miss (zd7 h) (z7n k ρ r)
@[reducible] def mpK(es:List (List UInt8×AV)):AObj:=.map (es.map fun p=>(strK p.1,p.2))
@[reducible] def cF(g:FuncId):AObj:=.cells 151 [fnV g]
def sNot:List UInt8:=[110,111,116]
def sInc:List UInt8:=[105,110,99]
def sDec:List UInt8:=[100,101,99]
def sNeg:List UInt8:=[110,101,103]
def z62:List UInt8:=[114,101,100,97,110,100]
def z97:List UInt8:=[114,101,100,111,114]
def z61:List UInt8:=[114,101,100,120,111,114]
def unsE:List (List UInt8×AV):=[(sNot,fnV 217),(sInc,.fn (.func 218) [.ptr 0 0]),(sDec,.fn (.func 220) [.ptr 0 0]),(sNeg,fnV 221),(z62,fnV 222),(z97,fnV 225),(z61,fnV 226)]
theorem zd3:ACall Tryz.prog 215 [] [] (fun r o=>r=.mp 1∧o=[some (cF 216),some (mpK unsE)]):=by
 refine yN Tryz.func215 fun C hC hCl hDs hGk=>?_;refine yX 12 Tryz.func215 rfl trivial ?_;refine zk (es':=(unsE.take 1).map fun p=>(strK p.1,p.2)) tabOk rfl rfl rfl rfl rfl rfl rfl rfl rfl rfl rfl rfl (by kernel_rfl) ?_ ?_
 ·exact z10 (k:=sNot) (es:=unsE.take 0) (by intro p hp;revert p;decide)
 refine zt (env':=[(1,.ptr 0 0),(2,.mp 1)]) (objs':=[some (cF 216),some (mpK (unsE.take 1))]) ?_ hC hCl ⟨⟨_,rfl,.refl _⟩,⟨_,rfl,.refl _⟩,trivial⟩ ⟨.refl _,.refl _,trivial⟩ rfl rfl (Nat.zero_le _);refine yX 1 Tryz.func215 rfl trivial ?_;refine zk (es':=(unsE.take 2).map fun p=>(strK p.1,p.2)) tabOk rfl rfl rfl rfl rfl rfl rfl rfl rfl rfl rfl rfl (by kernel_rfl) ?_ ?_
 ·exact z10 (k:=sInc) (es:=unsE.take 1) (by intro p hp;revert p;decide)
 refine zt (env':=[(1,.ptr 0 0),(2,.mp 1)]) (objs':=[some (cF 216),some (mpK (unsE.take 2))]) ?_ hC hCl ⟨⟨_,rfl,.refl _⟩,⟨_,rfl,.refl _⟩,trivial⟩ ⟨.refl _,.refl _,trivial⟩ rfl rfl (Nat.zero_le _);refine yX 1 Tryz.func215 rfl trivial ?_;refine zk (es':=(unsE.take 3).map fun p=>(strK p.1,p.2)) tabOk rfl rfl rfl rfl rfl rfl rfl rfl rfl rfl rfl rfl (by kernel_rfl) ?_ ?_
 ·exact z10 (k:=sDec) (es:=unsE.take 2) (by intro p hp;revert p;decide)
 refine zt (env':=[(1,.ptr 0 0),(2,.mp 1)]) (objs':=[some (cF 216),some (mpK (unsE.take 3))]) ?_ hC hCl ⟨⟨_,rfl,.refl _⟩,⟨_,rfl,.refl _⟩,trivial⟩ ⟨.refl _,.refl _,trivial⟩ rfl rfl (Nat.zero_le _);refine zk (es':=(unsE.take 4).map fun p=>(strK p.1,p.2)) tabOk rfl rfl rfl rfl rfl rfl rfl rfl rfl rfl rfl rfl (by kernel_rfl) ?_ ?_
 ·exact z10 (k:=sNeg) (es:=unsE.take 3) (by intro p hp;revert p;decide)
 refine zt (env':=[(1,.ptr 0 0),(2,.mp 1)]) (objs':=[some (cF 216),some (mpK (unsE.take 4))]) ?_ hC hCl ⟨⟨_,rfl,.refl _⟩,⟨_,rfl,.refl _⟩,trivial⟩ ⟨.refl _,.refl _,trivial⟩ rfl rfl (Nat.zero_le _);refine zk (es':=(unsE.take 5).map fun p=>(strK p.1,p.2)) tabOk rfl rfl rfl rfl rfl rfl rfl rfl rfl rfl rfl rfl (by kernel_rfl) ?_ ?_
 ·exact z10 (k:=z62) (es:=unsE.take 4) (by intro p hp;revert p;decide)
 refine zt (env':=[(1,.ptr 0 0),(2,.mp 1)]) (objs':=[some (cF 216),some (mpK (unsE.take 5))]) ?_ hC hCl ⟨⟨_,rfl,.refl _⟩,⟨_,rfl,.refl _⟩,trivial⟩ ⟨.refl _,.refl _,trivial⟩ rfl rfl (Nat.zero_le _);refine zk (es':=(unsE.take 6).map fun p=>(strK p.1,p.2)) tabOk rfl rfl rfl rfl rfl rfl rfl rfl rfl rfl rfl rfl (by kernel_rfl) ?_ ?_
 ·exact z10 (k:=z97) (es:=unsE.take 5) (by intro p hp;revert p;decide)
 refine zt (env':=[(1,.ptr 0 0),(2,.mp 1)]) (objs':=[some (cF 216),some (mpK (unsE.take 6))]) ?_ hC hCl ⟨⟨_,rfl,.refl _⟩,⟨_,rfl,.refl _⟩,trivial⟩ ⟨.refl _,.refl _,trivial⟩ rfl rfl (Nat.zero_le _);refine zk (es':=(unsE.take 7).map fun p=>(strK p.1,p.2)) tabOk rfl rfl rfl rfl rfl rfl rfl rfl rfl rfl rfl rfl (by kernel_rfl) ?_ ?_
 ·exact z10 (k:=z61) (es:=unsE.take 6) (by intro p hp;revert p;decide)
 refine zt (env':=[(1,.ptr 0 0),(2,.mp 1)]) (objs':=[some (cF 216),some (mpK (unsE.take 7))]) ?_ hC hCl ⟨⟨_,rfl,.refl _⟩,⟨_,rfl,.refl _⟩,trivial⟩ ⟨.refl _,.refl _,trivial⟩ rfl rfl (Nat.zero_le _);exact yR Tryz.func215 rfl trivial ⟨rfl,rfl⟩
def sAnd:List UInt8:=[97,110,100]
def sOr:List UInt8:=[111,114]
def sXor:List UInt8:=[120,111,114]
def sAdd:List UInt8:=[97,100,100]
def sSub:List UInt8:=[115,117,98]
def sMul:List UInt8:=[109,117,108]
def sUdiv:List UInt8:=[117,100,105,118]
def sUrem:List UInt8:=[117,114,101,109]
def sSll:List UInt8:=[115,108,108]
def sSrl:List UInt8:=[115,114,108]
def sSra:List UInt8:=[115,114,97]
def sEq:List UInt8:=[101,113]
def sUlt:List UInt8:=[117,108,116]
def sSlt:List UInt8:=[115,108,116]
def z4t:List UInt8:=[99,111,110,99,97,116]
def binsE:List (List UInt8×AV):=[(sAnd,fnV 240),(sOr,fnV 242),(sXor,fnV 244),(sAdd,fnV 246),(sSub,fnV 247),(sMul,fnV 248),(sUdiv,fnV 249),(sUrem,fnV 251),(sSll,fnV 252),(sSrl,fnV 254),(sSra,fnV 256),(sEq,fnV 257),(sUlt,fnV 259),(sSlt,.fn (.func 261) [.ptr 1 0])]
@[reducible] def cV1(g:FuncId):AObj:=.cells 263 [fnV g]
@[reducible] def cV2(g:FuncId):AObj:=.cells 263 [.fn (.func g) [.ptr 0 0]]
theorem zbl:ACall Tryz.prog 236 [] [] (fun r o=>r=.mp 2∧o=[some (cV1 237),some (cV2 239),some (mpK binsE)]):=by
 refine yN Tryz.func236 fun C hC hCl hDs hGk=>?_;refine yX 18 Tryz.func236 rfl trivial ?_;refine zk (es':=(binsE.take 1).map fun p=>(strK p.1,p.2)) tabOk rfl rfl rfl rfl rfl rfl rfl rfl rfl rfl rfl rfl (by kernel_rfl) ?_ ?_
 ·exact z10 (k:=sAnd) (es:=binsE.take 0) (by intro p hp;revert p;decide)
 refine zt (env':=[(2,.ptr 1 0),(4,.mp 2)]) (objs':=[some (cV1 237),some (cV2 239),some (mpK (binsE.take 1))]) ?_ hC hCl ⟨⟨_,rfl,.refl _⟩,⟨_,rfl,.refl _⟩,trivial⟩ ⟨.refl _,.refl _,.refl _,trivial⟩ rfl rfl (Nat.zero_le _);refine zk (es':=(binsE.take 2).map fun p=>(strK p.1,p.2)) tabOk rfl rfl rfl rfl rfl rfl rfl rfl rfl rfl rfl rfl (by kernel_rfl) ?_ ?_
 ·exact z10 (k:=sOr) (es:=binsE.take 1) (by intro p hp;revert p;decide)
 refine zt (env':=[(2,.ptr 1 0),(4,.mp 2)]) (objs':=[some (cV1 237),some (cV2 239),some (mpK (binsE.take 2))]) ?_ hC hCl ⟨⟨_,rfl,.refl _⟩,⟨_,rfl,.refl _⟩,trivial⟩ ⟨.refl _,.refl _,.refl _,trivial⟩ rfl rfl (Nat.zero_le _);refine zk (es':=(binsE.take 3).map fun p=>(strK p.1,p.2)) tabOk rfl rfl rfl rfl rfl rfl rfl rfl rfl rfl rfl rfl (by kernel_rfl) ?_ ?_
 ·exact z10 (k:=sXor) (es:=binsE.take 2) (by intro p hp;revert p;decide)
 refine zt (env':=[(2,.ptr 1 0),(4,.mp 2)]) (objs':=[some (cV1 237),some (cV2 239),some (mpK (binsE.take 3))]) ?_ hC hCl ⟨⟨_,rfl,.refl _⟩,⟨_,rfl,.refl _⟩,trivial⟩ ⟨.refl _,.refl _,.refl _,trivial⟩ rfl rfl (Nat.zero_le _);refine zk (es':=(binsE.take 4).map fun p=>(strK p.1,p.2)) tabOk rfl rfl rfl rfl rfl rfl rfl rfl rfl rfl rfl rfl (by kernel_rfl) ?_ ?_
 ·exact z10 (k:=sAdd) (es:=binsE.take 3) (by intro p hp;revert p;decide)
 refine zt (env':=[(2,.ptr 1 0),(4,.mp 2)]) (objs':=[some (cV1 237),some (cV2 239),some (mpK (binsE.take 4))]) ?_ hC hCl ⟨⟨_,rfl,.refl _⟩,⟨_,rfl,.refl _⟩,trivial⟩ ⟨.refl _,.refl _,.refl _,trivial⟩ rfl rfl (Nat.zero_le _);refine zk (es':=(binsE.take 5).map fun p=>(strK p.1,p.2)) tabOk rfl rfl rfl rfl rfl rfl rfl rfl rfl rfl rfl rfl (by kernel_rfl) ?_ ?_
 ·exact z10 (k:=sSub) (es:=binsE.take 4) (by intro p hp;revert p;decide)
 refine zt (env':=[(2,.ptr 1 0),(4,.mp 2)]) (objs':=[some (cV1 237),some (cV2 239),some (mpK (binsE.take 5))]) ?_ hC hCl ⟨⟨_,rfl,.refl _⟩,⟨_,rfl,.refl _⟩,trivial⟩ ⟨.refl _,.refl _,.refl _,trivial⟩ rfl rfl (Nat.zero_le _);refine zk (es':=(binsE.take 6).map fun p=>(strK p.1,p.2)) tabOk rfl rfl rfl rfl rfl rfl rfl rfl rfl rfl rfl rfl (by kernel_rfl) ?_ ?_
 ·exact z10 (k:=sMul) (es:=binsE.take 5) (by intro p hp;revert p;decide)
 refine zt (env':=[(2,.ptr 1 0),(4,.mp 2)]) (objs':=[some (cV1 237),some (cV2 239),some (mpK (binsE.take 6))]) ?_ hC hCl ⟨⟨_,rfl,.refl _⟩,⟨_,rfl,.refl _⟩,trivial⟩ ⟨.refl _,.refl _,.refl _,trivial⟩ rfl rfl (Nat.zero_le _);refine zk (es':=(binsE.take 7).map fun p=>(strK p.1,p.2)) tabOk rfl rfl rfl rfl rfl rfl rfl rfl rfl rfl rfl rfl (by kernel_rfl) ?_ ?_
 ·exact z10 (k:=sUdiv) (es:=binsE.take 6) (by intro p hp;revert p;decide)
 refine zt (env':=[(2,.ptr 1 0),(4,.mp 2)]) (objs':=[some (cV1 237),some (cV2 239),some (mpK (binsE.take 7))]) ?_ hC hCl ⟨⟨_,rfl,.refl _⟩,⟨_,rfl,.refl _⟩,trivial⟩ ⟨.refl _,.refl _,.refl _,trivial⟩ rfl rfl (Nat.zero_le _);refine zk (es':=(binsE.take 8).map fun p=>(strK p.1,p.2)) tabOk rfl rfl rfl rfl rfl rfl rfl rfl rfl rfl rfl rfl (by kernel_rfl) ?_ ?_
 ·exact z10 (k:=sUrem) (es:=binsE.take 7) (by intro p hp;revert p;decide)
 refine zt (env':=[(2,.ptr 1 0),(4,.mp 2)]) (objs':=[some (cV1 237),some (cV2 239),some (mpK (binsE.take 8))]) ?_ hC hCl ⟨⟨_,rfl,.refl _⟩,⟨_,rfl,.refl _⟩,trivial⟩ ⟨.refl _,.refl _,.refl _,trivial⟩ rfl rfl (Nat.zero_le _);refine zk (es':=(binsE.take 9).map fun p=>(strK p.1,p.2)) tabOk rfl rfl rfl rfl rfl rfl rfl rfl rfl rfl rfl rfl (by kernel_rfl) ?_ ?_
 ·exact z10 (k:=sSll) (es:=binsE.take 8) (by intro p hp;revert p;decide)
 refine zt (env':=[(2,.ptr 1 0),(4,.mp 2)]) (objs':=[some (cV1 237),some (cV2 239),some (mpK (binsE.take 9))]) ?_ hC hCl ⟨⟨_,rfl,.refl _⟩,⟨_,rfl,.refl _⟩,trivial⟩ ⟨.refl _,.refl _,.refl _,trivial⟩ rfl rfl (Nat.zero_le _);refine zk (es':=(binsE.take 10).map fun p=>(strK p.1,p.2)) tabOk rfl rfl rfl rfl rfl rfl rfl rfl rfl rfl rfl rfl (by kernel_rfl) ?_ ?_
 ·exact z10 (k:=sSrl) (es:=binsE.take 9) (by intro p hp;revert p;decide)
 refine zt (env':=[(2,.ptr 1 0),(4,.mp 2)]) (objs':=[some (cV1 237),some (cV2 239),some (mpK (binsE.take 10))]) ?_ hC hCl ⟨⟨_,rfl,.refl _⟩,⟨_,rfl,.refl _⟩,trivial⟩ ⟨.refl _,.refl _,.refl _,trivial⟩ rfl rfl (Nat.zero_le _);refine zk (es':=(binsE.take 11).map fun p=>(strK p.1,p.2)) tabOk rfl rfl rfl rfl rfl rfl rfl rfl rfl rfl rfl rfl (by kernel_rfl) ?_ ?_
 ·exact z10 (k:=sSra) (es:=binsE.take 10) (by intro p hp;revert p;decide)
 refine zt (env':=[(2,.ptr 1 0),(4,.mp 2)]) (objs':=[some (cV1 237),some (cV2 239),some (mpK (binsE.take 11))]) ?_ hC hCl ⟨⟨_,rfl,.refl _⟩,⟨_,rfl,.refl _⟩,trivial⟩ ⟨.refl _,.refl _,.refl _,trivial⟩ rfl rfl (Nat.zero_le _);refine zk (es':=(binsE.take 12).map fun p=>(strK p.1,p.2)) tabOk rfl rfl rfl rfl rfl rfl rfl rfl rfl rfl rfl rfl (by kernel_rfl) ?_ ?_
 ·exact z10 (k:=sEq) (es:=binsE.take 11) (by intro p hp;revert p;decide)
 refine zt (env':=[(2,.ptr 1 0),(4,.mp 2)]) (objs':=[some (cV1 237),some (cV2 239),some (mpK (binsE.take 12))]) ?_ hC hCl ⟨⟨_,rfl,.refl _⟩,⟨_,rfl,.refl _⟩,trivial⟩ ⟨.refl _,.refl _,.refl _,trivial⟩ rfl rfl (Nat.zero_le _);refine zk (es':=(binsE.take 13).map fun p=>(strK p.1,p.2)) tabOk rfl rfl rfl rfl rfl rfl rfl rfl rfl rfl rfl rfl (by kernel_rfl) ?_ ?_
 ·exact z10 (k:=sUlt) (es:=binsE.take 12) (by intro p hp;revert p;decide)
 refine zt (env':=[(2,.ptr 1 0),(4,.mp 2)]) (objs':=[some (cV1 237),some (cV2 239),some (mpK (binsE.take 13))]) ?_ hC hCl ⟨⟨_,rfl,.refl _⟩,⟨_,rfl,.refl _⟩,trivial⟩ ⟨.refl _,.refl _,.refl _,trivial⟩ rfl rfl (Nat.zero_le _);refine yX 1 Tryz.func236 rfl trivial ?_;refine zk (es':=(binsE.take 14).map fun p=>(strK p.1,p.2)) tabOk rfl rfl rfl rfl rfl rfl rfl rfl rfl rfl rfl rfl (by kernel_rfl) ?_ ?_
 ·exact z10 (k:=sSlt) (es:=binsE.take 13) (by intro p hp;revert p;decide)
 refine zt (env':=[(2,.ptr 1 0),(4,.mp 2)]) (objs':=[some (cV1 237),some (cV2 239),some (mpK (binsE.take 14))]) ?_ hC hCl ⟨⟨_,rfl,.refl _⟩,⟨_,rfl,.refl _⟩,trivial⟩ ⟨.refl _,.refl _,.refl _,trivial⟩ rfl rfl (Nat.zero_le _);exact yR Tryz.func236 rfl trivial ⟨rfl,rfl⟩
theorem z5q(ρ:Nat→Nat):∀es:List (List UInt8×AV),keysB .str (renEs ρ (es.map fun p=>(strK p.1,p.2)))=true
 | []=>rfl
 | p::r=>by
  show(match keyB .str (strK p.1)with|true=>keysB .str _|false=>false)=true;exact z5q ρ r
theorem z5e{op:List UInt8}{es:List (List UInt8×AV)}{a:Option AV}(h:z2m op es=a)(ρ:Nat→Nat):MFind (strK op) (renEs ρ (es.map fun p=>(strK p.1,p.2))) (a.map (AV.ren ρ)):=h▸z7n op ρ es
theorem Un_fn(op:List UInt8)(g:FuncId)(w x w' x':Nat)(hf:z2m op unsE=some (fnV g))(hg:ACall Tryz.prog g [.d (vN w x)] [] (fun r o=>r=.d (vN w' x'))):ACall Tryz.prog 214 [vSL op,.d (vN w x)] [] (fun r o=>r=tupOf [.d (vN w' x'),vI .i64 0]):=by
 refine yN Tryz.func214 fun C hC hCl hDs hGk=>?_;refine yW [] Tryz.func214 rfl trivial zd3 trivial (.refl _) ?_;refine yX 1 Tryz.func214 rfl trivial ?_;refine z26 (a:=some (fnV g)) (es:=renEs (rho [] 2) (unsE.map fun p=>(strK p.1,p.2))) (key:=strK op) tabOk rfl rfl rfl rfl rfl rfl rfl rfl rfl rfl rfl (z5q _ _) (z5e hf _) rfl ?_;refine yF Tryz.func214 rfl trivial ?_;refine yV Tryz.func214 rfl trivial hg (.refl _) ?_;exact yR Tryz.func214 rfl trivial rfl
theorem Un_cl(op:List UInt8)(g:FuncId)(w x w' x':Nat)(hf:z2m op unsE=some (.fn (.func g) [.ptr 0 0]))(hg:ACall Tryz.prog g [.d (vN w x),.ptr 0 0] [some (cF 216)] (fun r o=>r=.d (vN w' x')∧o=[some (cF 216)])):ACall Tryz.prog 214 [vSL op,.d (vN w x)] [] (fun r o=>r=tupOf [.d (vN w' x'),vI .i64 0]):=by
 refine yN Tryz.func214 fun C hC hCl hDs hGk=>?_;refine yW [] Tryz.func214 rfl trivial zd3 trivial (.refl _) ?_;refine yX 1 Tryz.func214 rfl trivial ?_;refine z26 (a:=some (.fn (.func g) [.ptr 2 0])) (es:=renEs (rho [] 2) (unsE.map fun p=>(strK p.1,p.2))) (key:=strK op) tabOk rfl rfl rfl rfl rfl rfl rfl rfl rfl rfl rfl (z5q _ _) (z5e hf _) rfl ?_;refine yF Tryz.func214 rfl trivial ?_;refine yW [2] Tryz.func214 rfl trivial hg ⟨⟨_,rfl,.refl _⟩,trivial⟩ (.refl _) ?_;exact yR Tryz.func214 rfl trivial rfl
theorem Un_no(op:List UInt8)(w x:Nat)(hf:z2m op unsE=none):ACall Tryz.prog 214 [vSL op,.d (vN w x)] [] (fun r o=>r=tupOf [.d z24,vI .i64 1]):=by
 refine yN Tryz.func214 fun C hC hCl hDs hGk=>?_;refine yW [] Tryz.func214 rfl trivial zd3 trivial (.refl _) ?_;refine yX 1 Tryz.func214 rfl trivial ?_;refine z26 (a:=none) (es:=renEs (rho [] 2) (unsE.map fun p=>(strK p.1,p.2))) (key:=strK op) tabOk rfl rfl rfl rfl rfl rfl rfl rfl rfl rfl rfl (z5q _ _) (z5e hf _) rfl ?_;refine yT Tryz.func214 rfl trivial ?_;exact yR Tryz.func214 rfl trivial rfl
theorem strE(a b:List UInt8):((⟨a.toArray⟩:ByteArray).toList==(⟨b.toArray⟩:ByteArray).toList)=decide (a=b):=by
 rw [ByteArray.toList_mk,ByteArray.toList_mk];by_cases h:a=b<;>simp [h]
theorem z5g(op:List UInt8)(g:FuncId)(w x y w' x':Nat)(hc:op≠z4t)(hf:z2m op binsE=some (fnV g))(hg:ACall Tryz.prog g [.d (vN w x),.d (vN w y)] [] (fun r o=>r=.d (vN w' x'))):ACall Tryz.prog 234 [vSL op,.d (vN w x),.d (vN w y)] [] (fun r o=>r=tupOf [.d (vN w' x'),vI .i64 0]):=by
 refine yN Tryz.func234 fun C hC hCl hDs hGk=>?_;refine yB Tryz.func234 rfl trivial (fun h=>?_) (fun h=>?_)<;>rw [show((⟨#[99,111,110,99,97,116]⟩:ByteArray))=⟨z4t.toArray⟩from rfl,strE]at h
 ·simp at h;exact absurd h hc
 refine yW [] Tryz.func234 rfl trivial zbl trivial (.refl _) ?_;refine yX 1 Tryz.func234 rfl trivial ?_;refine z26 (a:=some (fnV g)) (es:=renEs (rho [] 3) (binsE.map fun p=>(strK p.1,p.2))) (key:=strK op) tabOk rfl rfl rfl rfl rfl rfl rfl rfl rfl rfl rfl (z5q _ _) (z5e hf _) rfl ?_;refine yF Tryz.func234 rfl trivial ?_;refine yB Tryz.func234 rfl trivial (fun h=>?_) (fun h=>?_)
 ·have h:((w:Int) !=(w:Int))=true:=h;simp at h
 refine yV Tryz.func234 rfl trivial hg (.refl _) ?_;exact yR Tryz.func234 rfl trivial rfl
theorem zts(op:List UInt8)(g:FuncId)(w x y w' x':Nat)(hc:op≠z4t)(hf:z2m op binsE=some (.fn (.func g) [.ptr 1 0]))(hg:ACall Tryz.prog g [.d (vN w x),.d (vN w y),.ptr 1 0] [some (cV1 237),some (cV2 239)] (fun r o=>r=.d (vN w' x')∧o=[some (cV1 237),some (cV2 239)])):ACall Tryz.prog 234 [vSL op,.d (vN w x),.d (vN w y)] [] (fun r o=>r=tupOf [.d (vN w' x'),vI .i64 0]):=by
 refine yN Tryz.func234 fun C hC hCl hDs hGk=>?_;refine yB Tryz.func234 rfl trivial (fun h=>?_) (fun h=>?_)<;>rw [show((⟨#[99,111,110,99,97,116]⟩:ByteArray))=⟨z4t.toArray⟩from rfl,strE]at h
 ·simp at h;exact absurd h hc
 refine yW [] Tryz.func234 rfl trivial zbl trivial (.refl _) ?_;refine yX 1 Tryz.func234 rfl trivial ?_;refine z26 (a:=some (.fn (.func g) [.ptr 4 0])) (es:=renEs (rho [] 3) (binsE.map fun p=>(strK p.1,p.2))) (key:=strK op) tabOk rfl rfl rfl rfl rfl rfl rfl rfl rfl rfl rfl (z5q _ _) (z5e hf _) rfl ?_;refine yF Tryz.func234 rfl trivial ?_;refine yB Tryz.func234 rfl trivial (fun h=>?_) (fun h=>?_)
 ·have h:((w:Int) !=(w:Int))=true:=h;simp at h
 refine yW [3,4] Tryz.func234 rfl trivial hg ⟨⟨_,rfl,.refl _⟩,⟨_,rfl,.refl _⟩,trivial⟩ (.refl _) ?_;exact yR Tryz.func234 rfl trivial rfl
theorem ztr(op:List UInt8)(a b:D)(w v:Nat)(l k:List Nat)(hc:op≠z4t)(hf:z2m op binsE=none):ACall Tryz.prog 234 [vSL op,.d (eV w l),.d (eV v k)] [] (fun r o=>r=tupOf [.d z24,vI .i64 1]):=by
 refine yN Tryz.func234 fun C hC hCl hDs hGk=>?_;refine yB Tryz.func234 rfl trivial (fun h=>?_) (fun h=>?_)<;>rw [show((⟨#[99,111,110,99,97,116]⟩:ByteArray))=⟨z4t.toArray⟩from rfl,strE]at h
 ·simp at h;exact absurd h hc
 refine yW [] Tryz.func234 rfl trivial zbl trivial (.refl _) ?_;refine yX 1 Tryz.func234 rfl trivial ?_;refine z26 (a:=none) (es:=renEs (rho [] 3) (binsE.map fun p=>(strK p.1,p.2))) (key:=strK op) tabOk rfl rfl rfl rfl rfl rfl rfl rfl rfl rfl rfl (z5q _ _) (z5e hf _) rfl ?_;refine yT Tryz.func234 rfl trivial ?_;exact yR Tryz.func234 rfl trivial rfl
structure Nd where
 op:List UInt8
 s:Int
 a:List Int
 n:List Int
 t:List UInt8
 deriving Inhabited
@[reducible] def dSL(l:List UInt8):D:=.v (.string ⟨l.toArray⟩)
def eNd(x:Nd):D:=.ag [dSL x.op,eI x.s,eIs x.a,eIs x.n,dSL x.t]
@[reducible] def eNds(l:List Nd):D:=eL 5 eNd default l
@[reducible] def eBt(l:List Nd):D:=.ag [eNds l]
@[reducible] def bNd(x:Nd):AObj:=.cells 49 [.d (dSL x.op),.d (eI x.s),.d (eIs x.a),.d (eIs x.n),.d (dSL x.t)]
@[reducible] def bBt(l:List Nd):AObj:=.cells 24 [.d (eNds l)]
theorem strB(a b:List UInt8):((⟨a.toArray⟩:ByteArray).toList==(⟨b.toArray⟩:ByteArray).toList)=decide (a=b):=strE a b
def kSort:List UInt8:=[115,111,114,116]
def z1a:List UInt8:=[99,111,110,115,116]
def zy:List UInt8:=[105,110,112,117,116]
def ze:List UInt8:=[115,116,97,116,101]
def kBad:List UInt8:=[98,97,100]
def zg:List UInt8:=[99,111,110,115,116,114,97,105,110,116]
def kNot:List UInt8:=[110,111,116]
def kInc:List UInt8:=[105,110,99]
def kDec:List UInt8:=[100,101,99]
def kNeg:List UInt8:=[110,101,103]
def z1z:List UInt8:=[114,101,100,97,110,100]
def z2l:List UInt8:=[114,101,100,111,114]
def z1y:List UInt8:=[114,101,100,120,111,114]
def kInit:List UInt8:=[105,110,105,116]
def kNext:List UInt8:=[110,101,120,116]
def kAnd:List UInt8:=[97,110,100]
def kOr:List UInt8:=[111,114]
def kXor:List UInt8:=[120,111,114]
def kAdd:List UInt8:=[97,100,100]
def kSub:List UInt8:=[115,117,98]
def kMul:List UInt8:=[109,117,108]
def kUdiv:List UInt8:=[117,100,105,118]
def kUrem:List UInt8:=[117,114,101,109]
def kSll:List UInt8:=[115,108,108]
def kSrl:List UInt8:=[115,114,108]
def kSra:List UInt8:=[115,114,97]
def kEq:List UInt8:=[101,113]
def kUlt:List UInt8:=[117,108,116]
def kSlt:List UInt8:=[115,108,116]
def z1b:List UInt8:=[99,111,110,99,97,116]
def kIte:List UInt8:=[105,116,101]
def z1p:List UInt8:=[115,108,105,99,101]
def kUext:List UInt8:=[117,101,120,116]
def kSext:List UInt8:=[115,101,120,116]
def formR(op:List UInt8):List UInt8×Bool:=
 if op=kSort then([119],true)
 else if op=z1a then([115,98],true)
 else if op=zy then([115,109],true)
 else if op=ze then([115,109],true)
 else if op=kBad then([97],true)
 else if op=zg then([97],true)
 else if op=kNot then([115,97],true)
 else if op=kInc then([115,97],true)
 else if op=kDec then([115,97],true)
 else if op=kNeg then([115,97],true)
 else if op=z1z then([115,97],true)
 else if op=z2l then([115,97],true)
 else if op=z1y then([115,97],true)
 else if op=kInit then([115,97,97],true)
 else if op=kNext then([115,97,97],true)
 else if op=kAnd then([115,97,97],true)
 else if op=kOr then([115,97,97],true)
 else if op=kXor then([115,97,97],true)
 else if op=kAdd then([115,97,97],true)
 else if op=kSub then([115,97,97],true)
 else if op=kMul then([115,97,97],true)
 else if op=kUdiv then([115,97,97],true)
 else if op=kUrem then([115,97,97],true)
 else if op=kSll then([115,97,97],true)
 else if op=kSrl then([115,97,97],true)
 else if op=kSra then([115,97,97],true)
 else if op=kEq then([115,97,97],true)
 else if op=kUlt then([115,97,97],true)
 else if op=kSlt then([115,97,97],true)
 else if op=z1b then([115,97,97],true)
 else if op=kIte then([115,97,97,97],true)
 else if op=z1p then([115,97,110,110],true)
 else if op=kUext then([115,97,110],true)
 else if op=kSext then([115,97,110],true)
 else([],false)
theorem znw(op:List UInt8):ACall Tryz.prog 110 [vSL op] [] (fun r o=>r=tupOf [vSL (formR op).1,vB (formR op).2]):=by
 refine yN Tryz.func110 fun C hC hCl hDs hGk=>?_;unfold formR;refine yB Tryz.func110 rfl trivial (fun h=>?_) (fun h=>?_)<;>rw [show((⟨#[115,111,114,116]⟩:ByteArray))=⟨kSort.toArray⟩from rfl,strB]at h
 ·have h0:op=kSort:=by simpa using h
  refine yR Tryz.func110 rfl trivial ?_;rw [if_pos h0]
  try rfl
 have h0:¬op=kSort:=by simpa using h
 clear h;refine yB Tryz.func110 rfl trivial (fun h=>?_) (fun h=>?_)<;>rw [show((⟨#[99,111,110,115,116]⟩:ByteArray))=⟨z1a.toArray⟩from rfl,strB]at h
 ·have h1:op=z1a:=by simpa using h
  refine yR Tryz.func110 rfl trivial ?_;rw [if_neg h0,if_pos h1]
  try rfl
 have h1:¬op=z1a:=by simpa using h
 clear h;refine yB Tryz.func110 rfl trivial (fun h=>?_) (fun h=>?_)<;>rw [show((⟨#[105,110,112,117,116]⟩:ByteArray))=⟨zy.toArray⟩from rfl,strB]at h
 ·have h2:op=zy:=by simpa using h
  refine yR Tryz.func110 rfl trivial ?_;rw [if_neg h0,if_neg h1,if_pos h2]
  try rfl
 have h2:¬op=zy:=by simpa using h
 clear h;refine yB Tryz.func110 rfl trivial (fun h=>?_) (fun h=>?_)<;>rw [show((⟨#[115,116,97,116,101]⟩:ByteArray))=⟨ze.toArray⟩from rfl,strB]at h
 ·have h3:op=ze:=by simpa using h
  refine yR Tryz.func110 rfl trivial ?_;rw [if_neg h0,if_neg h1,if_neg h2,if_pos h3]
  try rfl
 have h3:¬op=ze:=by simpa using h
 clear h;refine yB Tryz.func110 rfl trivial (fun h=>?_) (fun h=>?_)<;>rw [show((⟨#[98,97,100]⟩:ByteArray))=⟨kBad.toArray⟩from rfl,strB]at h
 ·have h4:op=kBad:=by simpa using h
  refine yR Tryz.func110 rfl trivial ?_;rw [if_neg h0,if_neg h1,if_neg h2,if_neg h3,if_pos h4]
  try rfl
 have h4:¬op=kBad:=by simpa using h
 clear h;refine yB Tryz.func110 rfl trivial (fun h=>?_) (fun h=>?_)<;>rw [show((⟨#[99,111,110,115,116,114,97,105,110,116]⟩:ByteArray))=⟨zg.toArray⟩from rfl,strB]at h
 ·have h5:op=zg:=by simpa using h
  refine yR Tryz.func110 rfl trivial ?_;rw [if_neg h0,if_neg h1,if_neg h2,if_neg h3,if_neg h4,if_pos h5]
  try rfl
 have h5:¬op=zg:=by simpa using h
 clear h;refine yB Tryz.func110 rfl trivial (fun h=>?_) (fun h=>?_)<;>rw [show((⟨#[110,111,116]⟩:ByteArray))=⟨kNot.toArray⟩from rfl,strB]at h
 ·have h6:op=kNot:=by simpa using h
  refine yR Tryz.func110 rfl trivial ?_;rw [if_neg h0,if_neg h1,if_neg h2,if_neg h3,if_neg h4,if_neg h5,if_pos h6]
  try rfl
 have h6:¬op=kNot:=by simpa using h
 clear h;refine yB Tryz.func110 rfl trivial (fun h=>?_) (fun h=>?_)<;>rw [show((⟨#[105,110,99]⟩:ByteArray))=⟨kInc.toArray⟩from rfl,strB]at h
 ·have h7:op=kInc:=by simpa using h
  refine yR Tryz.func110 rfl trivial ?_;rw [if_neg h0,if_neg h1,if_neg h2,if_neg h3,if_neg h4,if_neg h5,if_neg h6,if_pos h7]
  try rfl
 have h7:¬op=kInc:=by simpa using h
 clear h;refine yB Tryz.func110 rfl trivial (fun h=>?_) (fun h=>?_)<;>rw [show((⟨#[100,101,99]⟩:ByteArray))=⟨kDec.toArray⟩from rfl,strB]at h
 ·have h8:op=kDec:=by simpa using h
  refine yR Tryz.func110 rfl trivial ?_;rw [if_neg h0,if_neg h1,if_neg h2,if_neg h3,if_neg h4,if_neg h5,if_neg h6,if_neg h7,if_pos h8]
  try rfl
 have h8:¬op=kDec:=by simpa using h
 clear h;refine yB Tryz.func110 rfl trivial (fun h=>?_) (fun h=>?_)<;>rw [show((⟨#[110,101,103]⟩:ByteArray))=⟨kNeg.toArray⟩from rfl,strB]at h
 ·have h9:op=kNeg:=by simpa using h
  refine yR Tryz.func110 rfl trivial ?_;rw [if_neg h0,if_neg h1,if_neg h2,if_neg h3,if_neg h4,if_neg h5,if_neg h6,if_neg h7,if_neg h8,if_pos h9]
  try rfl
 have h9:¬op=kNeg:=by simpa using h
 clear h;refine yB Tryz.func110 rfl trivial (fun h=>?_) (fun h=>?_)<;>rw [show((⟨#[114,101,100,97,110,100]⟩:ByteArray))=⟨z1z.toArray⟩from rfl,strB]at h
 ·have h10:op=z1z:=by simpa using h
  refine yR Tryz.func110 rfl trivial ?_;rw [if_neg h0,if_neg h1,if_neg h2,if_neg h3,if_neg h4,if_neg h5,if_neg h6,if_neg h7,if_neg h8,if_neg h9,if_pos h10]
  try rfl
 have h10:¬op=z1z:=by simpa using h
 clear h;refine yB Tryz.func110 rfl trivial (fun h=>?_) (fun h=>?_)<;>rw [show((⟨#[114,101,100,111,114]⟩:ByteArray))=⟨z2l.toArray⟩from rfl,strB]at h
 ·have h11:op=z2l:=by simpa using h
  refine yR Tryz.func110 rfl trivial ?_;rw [if_neg h0,if_neg h1,if_neg h2,if_neg h3,if_neg h4,if_neg h5,if_neg h6,if_neg h7,if_neg h8,if_neg h9,if_neg h10,if_pos h11]
  try rfl
 have h11:¬op=z2l:=by simpa using h
 clear h;refine yB Tryz.func110 rfl trivial (fun h=>?_) (fun h=>?_)<;>rw [show((⟨#[114,101,100,120,111,114]⟩:ByteArray))=⟨z1y.toArray⟩from rfl,strB]at h
 ·have h12:op=z1y:=by simpa using h
  refine yR Tryz.func110 rfl trivial ?_;rw [if_neg h0,if_neg h1,if_neg h2,if_neg h3,if_neg h4,if_neg h5,if_neg h6,if_neg h7,if_neg h8,if_neg h9,if_neg h10,if_neg h11,if_pos h12]
  try rfl
 have h12:¬op=z1y:=by simpa using h
 clear h;refine yB Tryz.func110 rfl trivial (fun h=>?_) (fun h=>?_)<;>rw [show((⟨#[105,110,105,116]⟩:ByteArray))=⟨kInit.toArray⟩from rfl,strB]at h
 ·have h13:op=kInit:=by simpa using h
  refine yR Tryz.func110 rfl trivial ?_;rw [if_neg h0,if_neg h1,if_neg h2,if_neg h3,if_neg h4,if_neg h5,if_neg h6,if_neg h7,if_neg h8,if_neg h9,if_neg h10,if_neg h11,if_neg h12,if_pos h13]
  try rfl
 have h13:¬op=kInit:=by simpa using h
 clear h;refine yB Tryz.func110 rfl trivial (fun h=>?_) (fun h=>?_)<;>rw [show((⟨#[110,101,120,116]⟩:ByteArray))=⟨kNext.toArray⟩from rfl,strB]at h
 ·have h14:op=kNext:=by simpa using h
  refine yR Tryz.func110 rfl trivial ?_;rw [if_neg h0,if_neg h1,if_neg h2,if_neg h3,if_neg h4,if_neg h5,if_neg h6,if_neg h7,if_neg h8,if_neg h9,if_neg h10,if_neg h11,if_neg h12,if_neg h13,if_pos h14]
  try rfl
 have h14:¬op=kNext:=by simpa using h
 clear h;refine yB Tryz.func110 rfl trivial (fun h=>?_) (fun h=>?_)<;>rw [show((⟨#[97,110,100]⟩:ByteArray))=⟨kAnd.toArray⟩from rfl,strB]at h
 ·have h15:op=kAnd:=by simpa using h
  refine yR Tryz.func110 rfl trivial ?_;rw [if_neg h0,if_neg h1,if_neg h2,if_neg h3,if_neg h4,if_neg h5,if_neg h6,if_neg h7,if_neg h8,if_neg h9,if_neg h10,if_neg h11,if_neg h12,if_neg h13,if_neg h14,if_pos h15]
  try rfl
 have h15:¬op=kAnd:=by simpa using h
 clear h;refine yB Tryz.func110 rfl trivial (fun h=>?_) (fun h=>?_)<;>rw [show((⟨#[111,114]⟩:ByteArray))=⟨kOr.toArray⟩from rfl,strB]at h
 ·have h16:op=kOr:=by simpa using h
  refine yR Tryz.func110 rfl trivial ?_;rw [if_neg h0,if_neg h1,if_neg h2,if_neg h3,if_neg h4,if_neg h5,if_neg h6,if_neg h7,if_neg h8,if_neg h9,if_neg h10,if_neg h11,if_neg h12,if_neg h13,if_neg h14,if_neg h15,if_pos h16]
  try rfl
 have h16:¬op=kOr:=by simpa using h
 clear h;refine yB Tryz.func110 rfl trivial (fun h=>?_) (fun h=>?_)<;>rw [show((⟨#[120,111,114]⟩:ByteArray))=⟨kXor.toArray⟩from rfl,strB]at h
 ·have h17:op=kXor:=by simpa using h
  refine yR Tryz.func110 rfl trivial ?_;rw [if_neg h0,if_neg h1,if_neg h2,if_neg h3,if_neg h4,if_neg h5,if_neg h6,if_neg h7,if_neg h8,if_neg h9,if_neg h10,if_neg h11,if_neg h12,if_neg h13,if_neg h14,if_neg h15,if_neg h16,if_pos h17]
  try rfl
 have h17:¬op=kXor:=by simpa using h
 clear h;refine yB Tryz.func110 rfl trivial (fun h=>?_) (fun h=>?_)<;>rw [show((⟨#[97,100,100]⟩:ByteArray))=⟨kAdd.toArray⟩from rfl,strB]at h
 ·have h18:op=kAdd:=by simpa using h
  refine yR Tryz.func110 rfl trivial ?_;rw [if_neg h0,if_neg h1,if_neg h2,if_neg h3,if_neg h4,if_neg h5,if_neg h6,if_neg h7,if_neg h8,if_neg h9,if_neg h10,if_neg h11,if_neg h12,if_neg h13,if_neg h14,if_neg h15,if_neg h16,if_neg h17,if_pos h18]
  try rfl
 have h18:¬op=kAdd:=by simpa using h
 clear h;refine yB Tryz.func110 rfl trivial (fun h=>?_) (fun h=>?_)<;>rw [show((⟨#[115,117,98]⟩:ByteArray))=⟨kSub.toArray⟩from rfl,strB]at h
 ·have h19:op=kSub:=by simpa using h
  refine yR Tryz.func110 rfl trivial ?_;rw [if_neg h0,if_neg h1,if_neg h2,if_neg h3,if_neg h4,if_neg h5,if_neg h6,if_neg h7,if_neg h8,if_neg h9,if_neg h10,if_neg h11,if_neg h12,if_neg h13,if_neg h14,if_neg h15,if_neg h16,if_neg h17,if_neg h18,if_pos h19]
  try rfl
 have h19:¬op=kSub:=by simpa using h
 clear h;refine yB Tryz.func110 rfl trivial (fun h=>?_) (fun h=>?_)<;>rw [show((⟨#[109,117,108]⟩:ByteArray))=⟨kMul.toArray⟩from rfl,strB]at h
 ·have h20:op=kMul:=by simpa using h
  refine yR Tryz.func110 rfl trivial ?_;rw [if_neg h0,if_neg h1,if_neg h2,if_neg h3,if_neg h4,if_neg h5,if_neg h6,if_neg h7,if_neg h8,if_neg h9,if_neg h10,if_neg h11,if_neg h12,if_neg h13,if_neg h14,if_neg h15,if_neg h16,if_neg h17,if_neg h18,if_neg h19,if_pos h20]
  try rfl
 have h20:¬op=kMul:=by simpa using h
 clear h;refine yB Tryz.func110 rfl trivial (fun h=>?_) (fun h=>?_)<;>rw [show((⟨#[117,100,105,118]⟩:ByteArray))=⟨kUdiv.toArray⟩from rfl,strB]at h
 ·have h21:op=kUdiv:=by simpa using h
  refine yR Tryz.func110 rfl trivial ?_;rw [if_neg h0,if_neg h1,if_neg h2,if_neg h3,if_neg h4,if_neg h5,if_neg h6,if_neg h7,if_neg h8,if_neg h9,if_neg h10,if_neg h11,if_neg h12,if_neg h13,if_neg h14,if_neg h15,if_neg h16,if_neg h17,if_neg h18,if_neg h19,if_neg h20,if_pos h21]
  try rfl
 have h21:¬op=kUdiv:=by simpa using h
 clear h;refine yB Tryz.func110 rfl trivial (fun h=>?_) (fun h=>?_)<;>rw [show((⟨#[117,114,101,109]⟩:ByteArray))=⟨kUrem.toArray⟩from rfl,strB]at h
 ·have h22:op=kUrem:=by simpa using h
  refine yR Tryz.func110 rfl trivial ?_;rw [if_neg h0,if_neg h1,if_neg h2,if_neg h3,if_neg h4,if_neg h5,if_neg h6,if_neg h7,if_neg h8,if_neg h9,if_neg h10,if_neg h11,if_neg h12,if_neg h13,if_neg h14,if_neg h15,if_neg h16,if_neg h17,if_neg h18,if_neg h19,if_neg h20,if_neg h21,if_pos h22]
  try rfl
 have h22:¬op=kUrem:=by simpa using h
 clear h;refine yB Tryz.func110 rfl trivial (fun h=>?_) (fun h=>?_)<;>rw [show((⟨#[115,108,108]⟩:ByteArray))=⟨kSll.toArray⟩from rfl,strB]at h
 ·have h23:op=kSll:=by simpa using h
  refine yR Tryz.func110 rfl trivial ?_;rw [if_neg h0,if_neg h1,if_neg h2,if_neg h3,if_neg h4,if_neg h5,if_neg h6,if_neg h7,if_neg h8,if_neg h9,if_neg h10,if_neg h11,if_neg h12,if_neg h13,if_neg h14,if_neg h15,if_neg h16,if_neg h17,if_neg h18,if_neg h19,if_neg h20,if_neg h21,if_neg h22,if_pos h23]
  try rfl
 have h23:¬op=kSll:=by simpa using h
 clear h;refine yB Tryz.func110 rfl trivial (fun h=>?_) (fun h=>?_)<;>rw [show((⟨#[115,114,108]⟩:ByteArray))=⟨kSrl.toArray⟩from rfl,strB]at h
 ·have h24:op=kSrl:=by simpa using h
  refine yR Tryz.func110 rfl trivial ?_;rw [if_neg h0,if_neg h1,if_neg h2,if_neg h3,if_neg h4,if_neg h5,if_neg h6,if_neg h7,if_neg h8,if_neg h9,if_neg h10,if_neg h11,if_neg h12,if_neg h13,if_neg h14,if_neg h15,if_neg h16,if_neg h17,if_neg h18,if_neg h19,if_neg h20,if_neg h21,if_neg h22,if_neg h23,if_pos h24]
  try rfl
 have h24:¬op=kSrl:=by simpa using h
 clear h;refine yB Tryz.func110 rfl trivial (fun h=>?_) (fun h=>?_)<;>rw [show((⟨#[115,114,97]⟩:ByteArray))=⟨kSra.toArray⟩from rfl,strB]at h
 ·have h25:op=kSra:=by simpa using h
  refine yR Tryz.func110 rfl trivial ?_;rw [if_neg h0,if_neg h1,if_neg h2,if_neg h3,if_neg h4,if_neg h5,if_neg h6,if_neg h7,if_neg h8,if_neg h9,if_neg h10,if_neg h11,if_neg h12,if_neg h13,if_neg h14,if_neg h15,if_neg h16,if_neg h17,if_neg h18,if_neg h19,if_neg h20,if_neg h21,if_neg h22,if_neg h23,if_neg h24,if_pos h25]
  try rfl
 have h25:¬op=kSra:=by simpa using h
 clear h;refine yB Tryz.func110 rfl trivial (fun h=>?_) (fun h=>?_)<;>rw [show((⟨#[101,113]⟩:ByteArray))=⟨kEq.toArray⟩from rfl,strB]at h
 ·have h26:op=kEq:=by simpa using h
  refine yR Tryz.func110 rfl trivial ?_;rw [if_neg h0,if_neg h1,if_neg h2,if_neg h3,if_neg h4,if_neg h5,if_neg h6,if_neg h7,if_neg h8,if_neg h9,if_neg h10,if_neg h11,if_neg h12,if_neg h13,if_neg h14,if_neg h15,if_neg h16,if_neg h17,if_neg h18,if_neg h19,if_neg h20,if_neg h21,if_neg h22,if_neg h23,if_neg h24,if_neg h25,if_pos h26]
  try rfl
 have h26:¬op=kEq:=by simpa using h
 clear h;refine yB Tryz.func110 rfl trivial (fun h=>?_) (fun h=>?_)<;>rw [show((⟨#[117,108,116]⟩:ByteArray))=⟨kUlt.toArray⟩from rfl,strB]at h
 ·have h27:op=kUlt:=by simpa using h
  refine yR Tryz.func110 rfl trivial ?_;rw [if_neg h0,if_neg h1,if_neg h2,if_neg h3,if_neg h4,if_neg h5,if_neg h6,if_neg h7,if_neg h8,if_neg h9,if_neg h10,if_neg h11,if_neg h12,if_neg h13,if_neg h14,if_neg h15,if_neg h16,if_neg h17,if_neg h18,if_neg h19,if_neg h20,if_neg h21,if_neg h22,if_neg h23,if_neg h24,if_neg h25,if_neg h26,if_pos h27]
  try rfl
 have h27:¬op=kUlt:=by simpa using h
 clear h;refine yB Tryz.func110 rfl trivial (fun h=>?_) (fun h=>?_)<;>rw [show((⟨#[115,108,116]⟩:ByteArray))=⟨kSlt.toArray⟩from rfl,strB]at h
 ·have h28:op=kSlt:=by simpa using h
  refine yR Tryz.func110 rfl trivial ?_;rw [if_neg h0,if_neg h1,if_neg h2,if_neg h3,if_neg h4,if_neg h5,if_neg h6,if_neg h7,if_neg h8,if_neg h9,if_neg h10,if_neg h11,if_neg h12,if_neg h13,if_neg h14,if_neg h15,if_neg h16,if_neg h17,if_neg h18,if_neg h19,if_neg h20,if_neg h21,if_neg h22,if_neg h23,if_neg h24,if_neg h25,if_neg h26,if_neg h27,if_pos h28]
  try rfl
 have h28:¬op=kSlt:=by simpa using h
 clear h;refine yB Tryz.func110 rfl trivial (fun h=>?_) (fun h=>?_)<;>rw [show((⟨#[99,111,110,99,97,116]⟩:ByteArray))=⟨z1b.toArray⟩from rfl,strB]at h
 ·have h29:op=z1b:=by simpa using h
  refine yR Tryz.func110 rfl trivial ?_;rw [if_neg h0,if_neg h1,if_neg h2,if_neg h3,if_neg h4,if_neg h5,if_neg h6,if_neg h7,if_neg h8,if_neg h9,if_neg h10,if_neg h11,if_neg h12,if_neg h13,if_neg h14,if_neg h15,if_neg h16,if_neg h17,if_neg h18,if_neg h19,if_neg h20,if_neg h21,if_neg h22,if_neg h23,if_neg h24,if_neg h25,if_neg h26,if_neg h27,if_neg h28,if_pos h29]
  try rfl
 have h29:¬op=z1b:=by simpa using h
 clear h;refine yB Tryz.func110 rfl trivial (fun h=>?_) (fun h=>?_)<;>rw [show((⟨#[105,116,101]⟩:ByteArray))=⟨kIte.toArray⟩from rfl,strB]at h
 ·have h30:op=kIte:=by simpa using h
  refine yR Tryz.func110 rfl trivial ?_;rw [if_neg h0,if_neg h1,if_neg h2,if_neg h3,if_neg h4,if_neg h5,if_neg h6,if_neg h7,if_neg h8,if_neg h9,if_neg h10,if_neg h11,if_neg h12,if_neg h13,if_neg h14,if_neg h15,if_neg h16,if_neg h17,if_neg h18,if_neg h19,if_neg h20,if_neg h21,if_neg h22,if_neg h23,if_neg h24,if_neg h25,if_neg h26,if_neg h27,if_neg h28,if_neg h29,if_pos h30]
  try rfl
 have h30:¬op=kIte:=by simpa using h
 clear h;refine yB Tryz.func110 rfl trivial (fun h=>?_) (fun h=>?_)<;>rw [show((⟨#[115,108,105,99,101]⟩:ByteArray))=⟨z1p.toArray⟩from rfl,strB]at h
 ·have h31:op=z1p:=by simpa using h
  refine yR Tryz.func110 rfl trivial ?_;rw [if_neg h0,if_neg h1,if_neg h2,if_neg h3,if_neg h4,if_neg h5,if_neg h6,if_neg h7,if_neg h8,if_neg h9,if_neg h10,if_neg h11,if_neg h12,if_neg h13,if_neg h14,if_neg h15,if_neg h16,if_neg h17,if_neg h18,if_neg h19,if_neg h20,if_neg h21,if_neg h22,if_neg h23,if_neg h24,if_neg h25,if_neg h26,if_neg h27,if_neg h28,if_neg h29,if_neg h30,if_pos h31]
  try rfl
 have h31:¬op=z1p:=by simpa using h
 clear h;refine yB Tryz.func110 rfl trivial (fun h=>?_) (fun h=>?_)<;>rw [show((⟨#[117,101,120,116]⟩:ByteArray))=⟨kUext.toArray⟩from rfl,strB]at h
 ·have h32:op=kUext:=by simpa using h
  refine yR Tryz.func110 rfl trivial ?_;rw [if_neg h0,if_neg h1,if_neg h2,if_neg h3,if_neg h4,if_neg h5,if_neg h6,if_neg h7,if_neg h8,if_neg h9,if_neg h10,if_neg h11,if_neg h12,if_neg h13,if_neg h14,if_neg h15,if_neg h16,if_neg h17,if_neg h18,if_neg h19,if_neg h20,if_neg h21,if_neg h22,if_neg h23,if_neg h24,if_neg h25,if_neg h26,if_neg h27,if_neg h28,if_neg h29,if_neg h30,if_neg h31,if_pos h32]
  try rfl
 have h32:¬op=kUext:=by simpa using h
 clear h;refine yB Tryz.func110 rfl trivial (fun h=>?_) (fun h=>?_)<;>rw [show((⟨#[115,101,120,116]⟩:ByteArray))=⟨kSext.toArray⟩from rfl,strB]at h
 ·have h33:op=kSext:=by simpa using h
  refine yR Tryz.func110 rfl trivial ?_;rw [if_neg h0,if_neg h1,if_neg h2,if_neg h3,if_neg h4,if_neg h5,if_neg h6,if_neg h7,if_neg h8,if_neg h9,if_neg h10,if_neg h11,if_neg h12,if_neg h13,if_neg h14,if_neg h15,if_neg h16,if_neg h17,if_neg h18,if_neg h19,if_neg h20,if_neg h21,if_neg h22,if_neg h23,if_neg h24,if_neg h25,if_neg h26,if_neg h27,if_neg h28,if_neg h29,if_neg h30,if_neg h31,if_neg h32,if_pos h33]
  try rfl
 have h33:¬op=kSext:=by simpa using h
 clear h;refine yR Tryz.func110 rfl trivial ?_;rw [if_neg h0,if_neg h1,if_neg h2,if_neg h3,if_neg h4,if_neg h5,if_neg h6,if_neg h7,if_neg h8,if_neg h9,if_neg h10,if_neg h11,if_neg h12,if_neg h13,if_neg h14,if_neg h15,if_neg h16,if_neg h17,if_neg h18,if_neg h19,if_neg h20,if_neg h21,if_neg h22,if_neg h23,if_neg h24,if_neg h25,if_neg h26,if_neg h27,if_neg h28,if_neg h29,if_neg h30,if_neg h31,if_neg h32,if_neg h33]
 try rfl
theorem zo6{α:Type}[Inhabited α]{l:List α}{i:Nat}(d:α)(h:i<l.length):l.take (i+1)=l.take i++[l.getD i d]:=by
 rw [List.take_succ_eq_append_getElem h];simp [h]
theorem z11{α:Type}{l:List α}{i:Nat}(d:α)(h:i<l.length):l.getD i d∈l:=by
 simp [List.getD_eq_getElem?_getD,h]
theorem cnt1(x c:UInt8):[x].count c=if x=c then 1 else 0:=by by_cases e:x=c<;>simp [e]
theorem z2x(form:List UInt8)(c:UInt8)(hl:form.length≤1000000):ACall Tryz.prog 112 [vSL form,vI .u8 (c.toNat:Int)] [] (fun r o=>r=vI .i64 ((form.count c:Nat):Int)):=by
 refine yN Tryz.func112 fun C hC hCl hDs hGk=>?_;refine yS Tryz.func112 rfl trivial ?_;refine z8 (α:=Nat) (fun i=>[(0,vSL form),(1,vI .u8 (c.toNat:Int)),(5,vI .i64 (((form.take i).count c:Nat):Int)),(6,vI .i64 i)]) (fun i=>[]) (fun i=>i≤form.length) (fun i=>form.length-i) 0 (Nat.zero_le _) ?_ ?_
 ·exact fun h=>yE h (eAl rfl) trivial
 rintro i hi ih;have hsz:(⟨form.toArray⟩:ByteArray).size=form.length:=zp form;refine yB Tryz.func112 rfl trivial (fun hb=>?_) (fun hb=>?_)<;>simp only [hsz,decide_eq_true_eq,decide_eq_false_iff_not]at hb
 ·have hlt:i<form.length:=by omega
  have hc:(form.take i).count c≤form.length:=Nat.le_trans List.count_le_length (by rw [List.length_take];omega);have hs:(form.take (i+1)).count c=(form.take i).count c+(if form.getD i 0=c then 1 else 0):=by
   rw [zo6 0 hlt,List.count_append,cnt1]
  refine yB Tryz.func112 rfl ?_ (fun hb2=>?_) (fun hb2=>?_)
  ·simp only [hsz,Int.toNat_natCast];exact⟨⟨by omega,by omega⟩,trivial⟩
  ·have hb2:(bt ⟨form.toArray⟩ ((i:Int)).toNat==(c.toNat:Int))=true:=hb2;rw [Int.toNat_natCast,zo]at hb2;have e:form.getD i 0=c:=by
    have:((form.getD i 0).toNat:Int)=c.toNat:=by simpa using hb2
    exact UInt8.toNat_inj.1 (by omega)
   rw [if_pos e]at hs;refine yS Tryz.func112 rfl trivial ?_;refine yE (ih (i+1) (by omega) (by omega)) ⟨erl rfl,erl rfl,⟨_,rfl,.of ?_⟩,erw rfl,trivial⟩ trivial;show vI .i64 (IntKind.i64.wrap (((form.take i).count c:Nat)+1))=_;rw [z7 (by omega) (by omega),hs];rfl
  ·have hb2:(bt ⟨form.toArray⟩ ((i:Int)).toNat==(c.toNat:Int))=false:=hb2;rw [Int.toNat_natCast,zo]at hb2;have e:¬form.getD i 0=c:=by
    rintro rfl;simp at hb2
   rw [if_neg e]at hs;refine yS Tryz.func112 rfl trivial ?_;refine yE (ih (i+1) (by omega) (by omega)) ⟨erl rfl,erl rfl,⟨_,rfl,.of ?_⟩,erw rfl,trivial⟩ trivial;rw [hs];rfl
 ·obtain rfl:i=form.length:=by omega
  refine yR Tryz.func112 rfl trivial ?_;rw [List.take_length];rfl
theorem z5h(l:List Int)(many least most:Int)(hl:l.length≤maxLen):ACall Tryz.prog 113 [.d (eIs l),vI .i64 many,vI .i64 least,vI .i64 most] [] (fun r o=>∃b,r=vB b∧(b=true→(l.length:Int)=many∧∀x∈l,least≤x∧x≤most)):=by
 refine yN Tryz.func113 fun C hC hCl hDs hGk=>?_;have hl:l.length≤9223372036854775807:=hl;refine yS Tryz.func113 rfl trivial ?_;refine z8 (α:=Nat) (fun i=>[(0,.d (eIs l)),(1,vI .i64 many),(2,vI .i64 least),(3,vI .i64 most),(9,vI .i64 i)]) (fun i=>[]) (fun i=>i≤l.length∧∀j,j<i→least≤l.getD j 0∧l.getD j 0≤most) (fun i=>l.length-i) 0 ⟨Nat.zero_le _,fun j hj=>by omega⟩ ?_ ?_
 ·exact fun h=>yE h (eAl rfl) trivial
 rintro i ⟨hi,hall⟩ ih;refine yB Tryz.func113 rfl trivial (fun hb=>?_) (fun hb=>?_)<;>simp only [List.length_map,decide_eq_true_eq,decide_eq_false_iff_not]at hb
 ·have hlt:i<l.length:=by omega
  refine yB Tryz.func113 rfl (by simp [andP]<;>omega) (fun h1=>?_) (fun h1=>?_)
  ·refine yT Tryz.func113 rfl trivial ?_;exact yR Tryz.func113 rfl trivial ⟨false,rfl,by simp⟩
  refine yB Tryz.func113 rfl (by simp [andP]<;>omega) (fun h2=>?_) (fun h2=>?_)
  ·exact yR Tryz.func113 rfl trivial ⟨false,rfl,by simp⟩
  have h1:decide (l.getD i 0<least)=false:=h1;have h2:decide (l.getD i 0>most)=false:=h2;rw [decide_eq_false_iff_not]at h1 h2;refine yS Tryz.func113 rfl trivial ?_;refine yE (ih (i+1) ⟨by omega,fun j hj=>?_⟩ (by omega)) ⟨erl rfl,erl rfl,erl rfl,erl rfl,erw rfl,trivial⟩ trivial;rcases Nat.lt_or_ge j i with h|h
  ·exact hall j h
  ·obtain rfl:j=i:=by omega
   omega
 ·obtain rfl:i=l.length:=by omega
  refine yR Tryz.func113 rfl trivial ⟨((l.map eI).length:Int)==many,rfl,fun h=>?_⟩;rw [List.length_map]at h;refine⟨by simpa using h,fun x hx=>?_⟩;obtain⟨j,hj,rfl⟩:=List.getElem_of_mem hx;have:=hall j hj;simpa [hj]using this
theorem zh9(l:List UInt8)(hl:l.length≤maxLen):ACall Tryz.prog 147 [vSL l] [] (fun r o=>∃b,r=vB b∧(b=true→mkok l=true)):=by
 refine yN Tryz.func147 fun C hC hCl hDs hGk=>?_;have hl:l.length≤9223372036854775807:=hl;have hsz:(⟨l.toArray⟩:ByteArray).size=l.length:=zp l;refine yS Tryz.func147 rfl trivial ?_;refine z8 (α:=Nat) (fun i=>[(0,vSL l),(3,vI .i64 i)]) (fun i=>[]) (fun i=>i≤l.length∧∀j,j<i→is01 (l.getD j 0)=true) (fun i=>l.length-i) 0 ⟨Nat.zero_le _,fun j hj=>by omega⟩ ?_ ?_
 ·exact fun h=>yE h (eAl rfl) trivial
 rintro i ⟨hi,hall⟩ ih;refine yB Tryz.func147 rfl trivial (fun hb=>?_) (fun hb=>?_)<;>simp only [hsz,decide_eq_true_eq,decide_eq_false_iff_not]at hb
 ·have hlt:i<l.length:=by omega
  have hnd:((0:Int)≤(i:Int)∧(i:Int)<((⟨l.toArray⟩:ByteArray).size:Int)):=by rw [hsz];omega
  refine yB Tryz.func147 rfl ⟨hnd,trivial⟩ (fun h1=>?_) (fun h1=>?_)
  ·refine yB Tryz.func147 rfl ⟨hnd,trivial⟩ (fun h2=>?_) (fun h2=>?_)
   ·exact yR Tryz.func147 rfl trivial ⟨false,rfl,by simp⟩
   have h2:(bt ⟨l.toArray⟩ ((i:Int)).toNat !=49)=false:=h2;rw [Int.toNat_natCast,zo]at h2;refine yS Tryz.func147 rfl trivial ?_;refine yE (ih (i+1) ⟨by omega,fun j hj=>?_⟩ (by omega)) ⟨erl rfl,erw rfl,trivial⟩ trivial;rcases Nat.lt_or_ge j i with h|h
   ·exact hall j h
   ·obtain rfl:j=i:=by omega
    rw [bne_eq_false_iff_eq]at h2;have:(l.getD j 0).toNat=49:=by omega
    have:l.getD j 0=49:=UInt8.toNat_inj.1 this;rw [this];rfl
  ·have h1:(bt ⟨l.toArray⟩ ((i:Int)).toNat !=48)=false:=h1;rw [Int.toNat_natCast,zo]at h1;refine yF Tryz.func147 rfl trivial ?_;refine yS Tryz.func147 rfl trivial ?_;refine yE (ih (i+1) ⟨by omega,fun j hj=>?_⟩ (by omega)) ⟨erl rfl,erw rfl,trivial⟩ trivial;rcases Nat.lt_or_ge j i with h|h
   ·exact hall j h
   ·obtain rfl:j=i:=by omega
    rw [bne_eq_false_iff_eq]at h1;have:(l.getD j 0).toNat=48:=by omega
    have:l.getD j 0=48:=UInt8.toNat_inj.1 this;rw [this];rfl
 ·obtain rfl:i=l.length:=by omega
  have hall2:∀c∈l,is01 c=true:=fun c hc=>by
   obtain⟨j,hj,rfl⟩:=List.getElem_of_mem hc;have:=hall j hj;simpa [hj]using this
  refine yB Tryz.func147 rfl trivial (fun h1=>?_) (fun h1=>?_)
  ·have h1:decide (((⟨l.toArray⟩:ByteArray).size:Int)≥1)=true:=h1;refine yR Tryz.func147 rfl trivial ⟨decide (((⟨l.toArray⟩:ByteArray).size:Int)≤128),rfl,fun h=>?_⟩;rw [hsz]at h h1;simp only [decide_eq_true_eq]at h h1;simp only [mkok,Bool.and_eq_true,decide_eq_true_eq,List.all_eq_true];exact⟨⟨by omega,by omega⟩,hall2⟩
  ·exact yR Tryz.func147 rfl trivial ⟨false,rfl,by simp⟩
theorem znt(l:List UInt8)(at_:Nat)(hl:l.length≤maxLen)(hat:at_<l.length):ACall Tryz.prog 170 [vSL l,vI .i64 (at_:Int)] [] (fun r o=>∃n:Nat,r=vI .i64 (n:Int)∧n≤4∧at_+n≤l.length):=by
 refine yN Tryz.func170 fun C hC hCl hDs hGk=>?_;have hl:l.length≤9223372036854775807:=hl;have hsz:(⟨l.toArray⟩:ByteArray).size=l.length:=zp l;have hv0:=UInt8.toNat_lt (l.getD at_ 0);have ew:IntKind.i64.wrap (((l.getD at_ 0).toNat:Nat):Int)=(((l.getD at_ 0).toNat:Nat):Int):=z7 (by omega) (by omega);refine yB Tryz.func170 rfl ⟨⟨by omega,by rw [hsz];omega⟩,trivial⟩ (fun h1=>?_) (fun h1=>?_)
 ·have h1:decide (IntKind.i64.wrap (bt ⟨l.toArray⟩ ((at_:Int)).toNat) >= 240)=true:=h1;rw [Int.toNat_natCast,zo,ew,decide_eq_true_eq]at h1;refine yB Tryz.func170 rfl trivial (fun h2=>?_) (fun h2=>?_)
  ·have h2:decide (IntKind.i64.wrap (bt ⟨l.toArray⟩ ((at_:Int)).toNat)<248)=true:=h2;rw [Int.toNat_natCast,zo,ew,decide_eq_true_eq]at h2;refine yS Tryz.func170 rfl trivial ?_;obtain⟨c,hc,hcb⟩:∃c:Nat,(l.getD at_ 0).toNat-240=c∧c<300:=⟨_,rfl,by omega⟩
   refine z8 (α:=Nat×Nat) (fun p=>[(0,vSL l),(1,vI .i64 (at_:Int)),(5,vI .i64 4),(6,vI .i64 (p.2:Int)),(7,vI .i64 65536),(8,vI .i64 (p.1:Int))]) (fun p=>[]) (fun p=>1≤p.1∧p.1≤4∧at_+p.1≤l.length∧p.2<300*64^(p.1-1)) (fun p=>4-p.1) (1,c) ⟨Nat.le_refl _,Nat.le_of_ble_eq_true rfl,hat,by simpa using hcb⟩ ?_ ?_
   ·refine fun h=>yE h ⟨erl rfl,erl rfl,erl rfl,⟨_,rfl,.of ?_⟩,erl rfl,erl rfl,trivial⟩ trivial;show vI .i64 (IntKind.i64.wrap (IntKind.i64.wrap (bt ⟨l.toArray⟩ ((at_:Int)).toNat)-240))=_;rw [Int.toNat_natCast,zo,ew,z7 (by omega) (by omega)];show vI .i64 _=vI .i64 _;rw [show(((l.getD at_ 0).toNat:Nat):Int)-240=(c:Int)by omega]
   rintro⟨i,c⟩ ⟨hi1,hi2,hil,hcb⟩ ih;simp only at hi1 hi2 hil hcb;have hpw:64^(i-1)≤64^3:=Nat.pow_le_pow_right (by decide) (by omega);have ewi:IntKind.i64.wrap (((⟨l.toArray⟩:ByteArray).size:Int)-at_)=((l.length-at_:Nat):Int):=by rw [hsz,z7 (by omega) (by omega)];omega
   have eai:IntKind.i64.wrap ((at_:Int)+i)=((at_+i:Nat):Int):=by rw [z7 (by omega) (by omega)];omega
   refine yB Tryz.func170 rfl trivial (fun hb=>?_) (fun hb=>?_)<;>simp only [decide_eq_true_eq,decide_eq_false_iff_not]at hb
   ·refine yB Tryz.func170 rfl trivial (fun g1=>?_) (fun g1=>?_)
    ·refine yT Tryz.func170 rfl trivial ?_;refine yT Tryz.func170 rfl trivial ?_;exact yR Tryz.func170 rfl trivial ⟨0,rfl,by omega,by omega⟩
    have g1:decide ((i:Int)≥IntKind.i64.wrap (((⟨l.toArray⟩:ByteArray).size:Int)-at_))=false:=g1;rw [ewi,decide_eq_false_iff_not]at g1;have hlt:at_+i<l.length:=by omega
    have hnd:((0:Int)≤IntKind.i64.wrap ((at_:Int)+i)∧IntKind.i64.wrap ((at_:Int)+i)<((⟨l.toArray⟩:ByteArray).size:Int)):=by rw [eai,hsz];omega
    have hv:=UInt8.toNat_lt (l.getD (at_+i) 0);refine yB Tryz.func170 rfl ⟨hnd,trivial⟩ (fun g2=>?_) (fun g2=>?_)
    ·refine yT Tryz.func170 rfl trivial ?_;exact yR Tryz.func170 rfl trivial ⟨0,rfl,by omega,by omega⟩
    have g2:decide (bt ⟨l.toArray⟩ (IntKind.i64.wrap ((at_:Int)+i)).toNat<128)=false:=g2;rw [eai,Int.toNat_natCast,zo,decide_eq_false_iff_not]at g2;refine yB Tryz.func170 rfl ⟨hnd,trivial⟩ (fun g3=>?_) (fun g3=>?_)
    ·exact yR Tryz.func170 rfl trivial ⟨0,rfl,by omega,by omega⟩
    have g3:decide (bt ⟨l.toArray⟩ (IntKind.i64.wrap ((at_:Int)+i)).toNat>191)=false:=g3;rw [eai,Int.toNat_natCast,zo,decide_eq_false_iff_not]at g3;refine yS Tryz.func170 rfl ⟨hnd,trivial⟩ ?_;have hc4:c<300*64^3:=Nat.lt_of_lt_of_le hcb (Nat.mul_le_mul_left _ hpw);have hstep:c*64+(l.getD (at_+i) 0).toNat-128<300*64^(i+1-1):=by
     rw [show i+1-1=(i-1)+1 by omega,Nat.pow_succ];generalize 64^(i-1)=q at *;omega
    refine yE (ih (i+1,c*64+(l.getD (at_+i) 0).toNat-128) ⟨by simp only;omega,by simp only;omega,by simp only;omega,hstep⟩ (by simp only;omega)) ⟨erl rfl,erl rfl,erl rfl,⟨_,rfl,.of ?_⟩,erl rfl,erw rfl,trivial⟩ trivial;show vI .i64 (IntKind.i64.wrap (IntKind.i64.wrap (IntKind.i64.wrap ((c:Int)*64)+IntKind.i64.wrap (bt ⟨l.toArray⟩ (IntKind.i64.wrap ((at_:Int)+i)).toNat))-128))=_;have e1:IntKind.i64.wrap ((c:Int)*64)=(c:Int)*64:=z7 (by omega) (by omega);have e2:IntKind.i64.wrap (((l.getD (at_+i) 0).toNat:Nat):Int)=(((l.getD (at_+i) 0).toNat:Nat):Int):=z7 (by omega) (by omega);have e3:IntKind.i64.wrap ((c:Int)*64+(((l.getD (at_+i) 0).toNat:Nat):Int))=(c:Int)*64+(((l.getD (at_+i) 0).toNat:Nat):Int):=z7 (by omega) (by omega);rw [eai,Int.toNat_natCast,zo,e2,e1,e3,z7 (by omega) (by omega)];show vI .i64 _=vI .i64 _;congr 4;omega
   ·obtain rfl:i=4:=by omega
    refine yB Tryz.func170 rfl trivial (fun g1=>?_) (fun g1=>?_)
    ·refine yT Tryz.func170 rfl trivial ?_;refine yT Tryz.func170 rfl trivial ?_;exact yR Tryz.func170 rfl trivial ⟨0,rfl,by omega,by omega⟩
    refine yB Tryz.func170 rfl trivial (fun g2=>?_) (fun g2=>?_)
    ·refine yT Tryz.func170 rfl trivial ?_;exact yR Tryz.func170 rfl trivial ⟨0,rfl,by omega,by omega⟩
    refine yB Tryz.func170 rfl trivial (fun g3=>?_) (fun g3=>?_)
    ·refine yB Tryz.func170 rfl trivial (fun g4=>?_) (fun g4=>?_)
     ·exact yR Tryz.func170 rfl trivial ⟨0,rfl,by omega,by omega⟩
     ·exact yR Tryz.func170 rfl trivial ⟨4,rfl,by omega,by omega⟩
    ·refine yF Tryz.func170 rfl trivial ?_;exact yR Tryz.func170 rfl trivial ⟨4,rfl,by omega,by omega⟩
  ·have h2:decide (IntKind.i64.wrap (bt ⟨l.toArray⟩ ((at_:Int)).toNat)<248)=false:=h2;rw [Int.toNat_natCast,zo,ew,decide_eq_false_iff_not]at h2;refine yB Tryz.func170 rfl trivial (fun h3=>?_) (fun h3=>?_)
   ·have h3:decide (IntKind.i64.wrap (bt ⟨l.toArray⟩ ((at_:Int)).toNat) >= 224)=true:=h3;rw [Int.toNat_natCast,zo,ew,decide_eq_true_eq]at h3;refine yB Tryz.func170 rfl trivial (fun h4=>?_) (fun h4=>?_)
    ·have h4:decide (IntKind.i64.wrap (bt ⟨l.toArray⟩ ((at_:Int)).toNat)<240)=true:=h4;rw [Int.toNat_natCast,zo,ew,decide_eq_true_eq]at h4;omega
    ·have h4:decide (IntKind.i64.wrap (bt ⟨l.toArray⟩ ((at_:Int)).toNat)<240)=false:=h4;rw [Int.toNat_natCast,zo,ew,decide_eq_false_iff_not]at h4;refine yB Tryz.func170 rfl trivial (fun h5=>?_) (fun h5=>?_)
     ·have h5:decide (IntKind.i64.wrap (bt ⟨l.toArray⟩ ((at_:Int)).toNat) >= 192)=true:=h5;rw [Int.toNat_natCast,zo,ew,decide_eq_true_eq]at h5;refine yB Tryz.func170 rfl trivial (fun h6=>?_) (fun h6=>?_)
      ·have h6:decide (IntKind.i64.wrap (bt ⟨l.toArray⟩ ((at_:Int)).toNat)<224)=true:=h6;rw [Int.toNat_natCast,zo,ew,decide_eq_true_eq]at h6;omega
      ·have h6:decide (IntKind.i64.wrap (bt ⟨l.toArray⟩ ((at_:Int)).toNat)<224)=false:=h6;rw [Int.toNat_natCast,zo,ew,decide_eq_false_iff_not]at h6;refine yB Tryz.func170 rfl trivial (fun h7=>?_) (fun h7=>?_)
       ·exact yR Tryz.func170 rfl trivial ⟨0,rfl,by omega,by omega⟩
       ·have h7:decide (IntKind.i64.wrap (bt ⟨l.toArray⟩ ((at_:Int)).toNat) >= 128)=false:=h7;rw [Int.toNat_natCast,zo,ew,decide_eq_false_iff_not]at h7;omega
     ·have h5:decide (IntKind.i64.wrap (bt ⟨l.toArray⟩ ((at_:Int)).toNat) >= 192)=false:=h5;rw [Int.toNat_natCast,zo,ew,decide_eq_false_iff_not]at h5;omega
   ·have h3:decide (IntKind.i64.wrap (bt ⟨l.toArray⟩ ((at_:Int)).toNat) >= 224)=false:=h3;rw [Int.toNat_natCast,zo,ew,decide_eq_false_iff_not]at h3;omega
 ·have h1:decide (IntKind.i64.wrap (bt ⟨l.toArray⟩ ((at_:Int)).toNat) >= 240)=false:=h1;rw [Int.toNat_natCast,zo,ew,decide_eq_false_iff_not]at h1;refine yF Tryz.func170 rfl trivial ?_;refine yB Tryz.func170 rfl trivial (fun h3=>?_) (fun h3=>?_)
  ·have h3:decide (IntKind.i64.wrap (bt ⟨l.toArray⟩ ((at_:Int)).toNat) >= 224)=true:=h3;rw [Int.toNat_natCast,zo,ew,decide_eq_true_eq]at h3;refine yB Tryz.func170 rfl trivial (fun h4=>?_) (fun h4=>?_)
   ·have h4:decide (IntKind.i64.wrap (bt ⟨l.toArray⟩ ((at_:Int)).toNat)<240)=true:=h4;rw [Int.toNat_natCast,zo,ew,decide_eq_true_eq]at h4;refine yS Tryz.func170 rfl trivial ?_;obtain⟨c,hc,hcb⟩:∃c:Nat,(l.getD at_ 0).toNat-224=c∧c<300:=⟨_,rfl,by omega⟩
    refine z8 (α:=Nat×Nat) (fun p=>[(0,vSL l),(1,vI .i64 (at_:Int)),(5,vI .i64 3),(6,vI .i64 (p.2:Int)),(7,vI .i64 2048),(8,vI .i64 (p.1:Int))]) (fun p=>[]) (fun p=>1≤p.1∧p.1≤3∧at_+p.1≤l.length∧p.2<300*64^(p.1-1)) (fun p=>3-p.1) (1,c) ⟨Nat.le_refl _,Nat.le_of_ble_eq_true rfl,hat,by simpa using hcb⟩ ?_ ?_
    ·refine fun h=>yE h ⟨erl rfl,erl rfl,erl rfl,⟨_,rfl,.of ?_⟩,erl rfl,erl rfl,trivial⟩ trivial;show vI .i64 (IntKind.i64.wrap (IntKind.i64.wrap (bt ⟨l.toArray⟩ ((at_:Int)).toNat)-224))=_;rw [Int.toNat_natCast,zo,ew,z7 (by omega) (by omega)];show vI .i64 _=vI .i64 _;rw [show(((l.getD at_ 0).toNat:Nat):Int)-224=(c:Int)by omega]
    rintro⟨i,c⟩ ⟨hi1,hi2,hil,hcb⟩ ih;simp only at hi1 hi2 hil hcb;have hpw:64^(i-1)≤64^3:=Nat.pow_le_pow_right (by decide) (by omega);have ewi:IntKind.i64.wrap (((⟨l.toArray⟩:ByteArray).size:Int)-at_)=((l.length-at_:Nat):Int):=by rw [hsz,z7 (by omega) (by omega)];omega
    have eai:IntKind.i64.wrap ((at_:Int)+i)=((at_+i:Nat):Int):=by rw [z7 (by omega) (by omega)];omega
    refine yB Tryz.func170 rfl trivial (fun hb=>?_) (fun hb=>?_)<;>simp only [decide_eq_true_eq,decide_eq_false_iff_not]at hb
    ·refine yB Tryz.func170 rfl trivial (fun g1=>?_) (fun g1=>?_)
     ·refine yT Tryz.func170 rfl trivial ?_;refine yT Tryz.func170 rfl trivial ?_;exact yR Tryz.func170 rfl trivial ⟨0,rfl,by omega,by omega⟩
     have g1:decide ((i:Int)≥IntKind.i64.wrap (((⟨l.toArray⟩:ByteArray).size:Int)-at_))=false:=g1;rw [ewi,decide_eq_false_iff_not]at g1;have hlt:at_+i<l.length:=by omega
     have hnd:((0:Int)≤IntKind.i64.wrap ((at_:Int)+i)∧IntKind.i64.wrap ((at_:Int)+i)<((⟨l.toArray⟩:ByteArray).size:Int)):=by rw [eai,hsz];omega
     have hv:=UInt8.toNat_lt (l.getD (at_+i) 0);refine yB Tryz.func170 rfl ⟨hnd,trivial⟩ (fun g2=>?_) (fun g2=>?_)
     ·refine yT Tryz.func170 rfl trivial ?_;exact yR Tryz.func170 rfl trivial ⟨0,rfl,by omega,by omega⟩
     have g2:decide (bt ⟨l.toArray⟩ (IntKind.i64.wrap ((at_:Int)+i)).toNat<128)=false:=g2;rw [eai,Int.toNat_natCast,zo,decide_eq_false_iff_not]at g2;refine yB Tryz.func170 rfl ⟨hnd,trivial⟩ (fun g3=>?_) (fun g3=>?_)
     ·exact yR Tryz.func170 rfl trivial ⟨0,rfl,by omega,by omega⟩
     have g3:decide (bt ⟨l.toArray⟩ (IntKind.i64.wrap ((at_:Int)+i)).toNat>191)=false:=g3;rw [eai,Int.toNat_natCast,zo,decide_eq_false_iff_not]at g3;refine yS Tryz.func170 rfl ⟨hnd,trivial⟩ ?_;have hc4:c<300*64^3:=Nat.lt_of_lt_of_le hcb (Nat.mul_le_mul_left _ hpw);have hstep:c*64+(l.getD (at_+i) 0).toNat-128<300*64^(i+1-1):=by
      rw [show i+1-1=(i-1)+1 by omega,Nat.pow_succ];generalize 64^(i-1)=q at *;omega
     refine yE (ih (i+1,c*64+(l.getD (at_+i) 0).toNat-128) ⟨by simp only;omega,by simp only;omega,by simp only;omega,hstep⟩ (by simp only;omega)) ⟨erl rfl,erl rfl,erl rfl,⟨_,rfl,.of ?_⟩,erl rfl,erw rfl,trivial⟩ trivial;show vI .i64 (IntKind.i64.wrap (IntKind.i64.wrap (IntKind.i64.wrap ((c:Int)*64)+IntKind.i64.wrap (bt ⟨l.toArray⟩ (IntKind.i64.wrap ((at_:Int)+i)).toNat))-128))=_;have e1:IntKind.i64.wrap ((c:Int)*64)=(c:Int)*64:=z7 (by omega) (by omega);have e2:IntKind.i64.wrap (((l.getD (at_+i) 0).toNat:Nat):Int)=(((l.getD (at_+i) 0).toNat:Nat):Int):=z7 (by omega) (by omega);have e3:IntKind.i64.wrap ((c:Int)*64+(((l.getD (at_+i) 0).toNat:Nat):Int))=(c:Int)*64+(((l.getD (at_+i) 0).toNat:Nat):Int):=z7 (by omega) (by omega);rw [eai,Int.toNat_natCast,zo,e2,e1,e3,z7 (by omega) (by omega)];show vI .i64 _=vI .i64 _;congr 4;omega
    ·obtain rfl:i=3:=by omega
     refine yB Tryz.func170 rfl trivial (fun g1=>?_) (fun g1=>?_)
     ·refine yT Tryz.func170 rfl trivial ?_;refine yT Tryz.func170 rfl trivial ?_;exact yR Tryz.func170 rfl trivial ⟨0,rfl,by omega,by omega⟩
     refine yB Tryz.func170 rfl trivial (fun g2=>?_) (fun g2=>?_)
     ·refine yT Tryz.func170 rfl trivial ?_;exact yR Tryz.func170 rfl trivial ⟨0,rfl,by omega,by omega⟩
     refine yB Tryz.func170 rfl trivial (fun g3=>?_) (fun g3=>?_)
     ·refine yB Tryz.func170 rfl trivial (fun g4=>?_) (fun g4=>?_)
      ·exact yR Tryz.func170 rfl trivial ⟨0,rfl,by omega,by omega⟩
      ·exact yR Tryz.func170 rfl trivial ⟨3,rfl,by omega,by omega⟩
     ·refine yF Tryz.func170 rfl trivial ?_;exact yR Tryz.func170 rfl trivial ⟨3,rfl,by omega,by omega⟩
   ·have h4:decide (IntKind.i64.wrap (bt ⟨l.toArray⟩ ((at_:Int)).toNat)<240)=false:=h4;rw [Int.toNat_natCast,zo,ew,decide_eq_false_iff_not]at h4;omega
  ·have h3:decide (IntKind.i64.wrap (bt ⟨l.toArray⟩ ((at_:Int)).toNat) >= 224)=false:=h3;rw [Int.toNat_natCast,zo,ew,decide_eq_false_iff_not]at h3;refine yF Tryz.func170 rfl trivial ?_;refine yB Tryz.func170 rfl trivial (fun h5=>?_) (fun h5=>?_)
   ·have h5:decide (IntKind.i64.wrap (bt ⟨l.toArray⟩ ((at_:Int)).toNat) >= 192)=true:=h5;rw [Int.toNat_natCast,zo,ew,decide_eq_true_eq]at h5;refine yB Tryz.func170 rfl trivial (fun h6=>?_) (fun h6=>?_)
    ·have h6:decide (IntKind.i64.wrap (bt ⟨l.toArray⟩ ((at_:Int)).toNat)<224)=true:=h6;rw [Int.toNat_natCast,zo,ew,decide_eq_true_eq]at h6;refine yS Tryz.func170 rfl trivial ?_;obtain⟨c,hc,hcb⟩:∃c:Nat,(l.getD at_ 0).toNat-192=c∧c<300:=⟨_,rfl,by omega⟩
     refine z8 (α:=Nat×Nat) (fun p=>[(0,vSL l),(1,vI .i64 (at_:Int)),(5,vI .i64 2),(6,vI .i64 (p.2:Int)),(7,vI .i64 128),(8,vI .i64 (p.1:Int))]) (fun p=>[]) (fun p=>1≤p.1∧p.1≤2∧at_+p.1≤l.length∧p.2<300*64^(p.1-1)) (fun p=>2-p.1) (1,c) ⟨Nat.le_refl _,Nat.le_of_ble_eq_true rfl,hat,by simpa using hcb⟩ ?_ ?_
     ·refine fun h=>yE h ⟨erl rfl,erl rfl,erl rfl,⟨_,rfl,.of ?_⟩,erl rfl,erl rfl,trivial⟩ trivial;show vI .i64 (IntKind.i64.wrap (IntKind.i64.wrap (bt ⟨l.toArray⟩ ((at_:Int)).toNat)-192))=_;rw [Int.toNat_natCast,zo,ew,z7 (by omega) (by omega)];show vI .i64 _=vI .i64 _;rw [show(((l.getD at_ 0).toNat:Nat):Int)-192=(c:Int)by omega]
     rintro⟨i,c⟩ ⟨hi1,hi2,hil,hcb⟩ ih;simp only at hi1 hi2 hil hcb;have hpw:64^(i-1)≤64^3:=Nat.pow_le_pow_right (by decide) (by omega);have ewi:IntKind.i64.wrap (((⟨l.toArray⟩:ByteArray).size:Int)-at_)=((l.length-at_:Nat):Int):=by rw [hsz,z7 (by omega) (by omega)];omega
     have eai:IntKind.i64.wrap ((at_:Int)+i)=((at_+i:Nat):Int):=by rw [z7 (by omega) (by omega)];omega
     refine yB Tryz.func170 rfl trivial (fun hb=>?_) (fun hb=>?_)<;>simp only [decide_eq_true_eq,decide_eq_false_iff_not]at hb
     ·refine yB Tryz.func170 rfl trivial (fun g1=>?_) (fun g1=>?_)
      ·refine yT Tryz.func170 rfl trivial ?_;refine yT Tryz.func170 rfl trivial ?_;exact yR Tryz.func170 rfl trivial ⟨0,rfl,by omega,by omega⟩
      have g1:decide ((i:Int)≥IntKind.i64.wrap (((⟨l.toArray⟩:ByteArray).size:Int)-at_))=false:=g1;rw [ewi,decide_eq_false_iff_not]at g1;have hlt:at_+i<l.length:=by omega
      have hnd:((0:Int)≤IntKind.i64.wrap ((at_:Int)+i)∧IntKind.i64.wrap ((at_:Int)+i)<((⟨l.toArray⟩:ByteArray).size:Int)):=by rw [eai,hsz];omega
      have hv:=UInt8.toNat_lt (l.getD (at_+i) 0);refine yB Tryz.func170 rfl ⟨hnd,trivial⟩ (fun g2=>?_) (fun g2=>?_)
      ·refine yT Tryz.func170 rfl trivial ?_;exact yR Tryz.func170 rfl trivial ⟨0,rfl,by omega,by omega⟩
      have g2:decide (bt ⟨l.toArray⟩ (IntKind.i64.wrap ((at_:Int)+i)).toNat<128)=false:=g2;rw [eai,Int.toNat_natCast,zo,decide_eq_false_iff_not]at g2;refine yB Tryz.func170 rfl ⟨hnd,trivial⟩ (fun g3=>?_) (fun g3=>?_)
      ·exact yR Tryz.func170 rfl trivial ⟨0,rfl,by omega,by omega⟩
      have g3:decide (bt ⟨l.toArray⟩ (IntKind.i64.wrap ((at_:Int)+i)).toNat>191)=false:=g3;rw [eai,Int.toNat_natCast,zo,decide_eq_false_iff_not]at g3;refine yS Tryz.func170 rfl ⟨hnd,trivial⟩ ?_;have hc4:c<300*64^3:=Nat.lt_of_lt_of_le hcb (Nat.mul_le_mul_left _ hpw);have hstep:c*64+(l.getD (at_+i) 0).toNat-128<300*64^(i+1-1):=by
       rw [show i+1-1=(i-1)+1 by omega,Nat.pow_succ];generalize 64^(i-1)=q at *;omega
      refine yE (ih (i+1,c*64+(l.getD (at_+i) 0).toNat-128) ⟨by simp only;omega,by simp only;omega,by simp only;omega,hstep⟩ (by simp only;omega)) ⟨erl rfl,erl rfl,erl rfl,⟨_,rfl,.of ?_⟩,erl rfl,erw rfl,trivial⟩ trivial;show vI .i64 (IntKind.i64.wrap (IntKind.i64.wrap (IntKind.i64.wrap ((c:Int)*64)+IntKind.i64.wrap (bt ⟨l.toArray⟩ (IntKind.i64.wrap ((at_:Int)+i)).toNat))-128))=_;have e1:IntKind.i64.wrap ((c:Int)*64)=(c:Int)*64:=z7 (by omega) (by omega);have e2:IntKind.i64.wrap (((l.getD (at_+i) 0).toNat:Nat):Int)=(((l.getD (at_+i) 0).toNat:Nat):Int):=z7 (by omega) (by omega);have e3:IntKind.i64.wrap ((c:Int)*64+(((l.getD (at_+i) 0).toNat:Nat):Int))=(c:Int)*64+(((l.getD (at_+i) 0).toNat:Nat):Int):=z7 (by omega) (by omega);rw [eai,Int.toNat_natCast,zo,e2,e1,e3,z7 (by omega) (by omega)];show vI .i64 _=vI .i64 _;congr 4;omega
     ·obtain rfl:i=2:=by omega
      refine yB Tryz.func170 rfl trivial (fun g1=>?_) (fun g1=>?_)
      ·refine yT Tryz.func170 rfl trivial ?_;refine yT Tryz.func170 rfl trivial ?_;exact yR Tryz.func170 rfl trivial ⟨0,rfl,by omega,by omega⟩
      refine yB Tryz.func170 rfl trivial (fun g2=>?_) (fun g2=>?_)
      ·refine yT Tryz.func170 rfl trivial ?_;exact yR Tryz.func170 rfl trivial ⟨0,rfl,by omega,by omega⟩
      refine yB Tryz.func170 rfl trivial (fun g3=>?_) (fun g3=>?_)
      ·refine yB Tryz.func170 rfl trivial (fun g4=>?_) (fun g4=>?_)
       ·exact yR Tryz.func170 rfl trivial ⟨0,rfl,by omega,by omega⟩
       ·exact yR Tryz.func170 rfl trivial ⟨2,rfl,by omega,by omega⟩
      ·refine yF Tryz.func170 rfl trivial ?_;exact yR Tryz.func170 rfl trivial ⟨2,rfl,by omega,by omega⟩
    ·have h6:decide (IntKind.i64.wrap (bt ⟨l.toArray⟩ ((at_:Int)).toNat)<224)=false:=h6;rw [Int.toNat_natCast,zo,ew,decide_eq_false_iff_not]at h6;omega
   ·have h5:decide (IntKind.i64.wrap (bt ⟨l.toArray⟩ ((at_:Int)).toNat) >= 192)=false:=h5;rw [Int.toNat_natCast,zo,ew,decide_eq_false_iff_not]at h5;refine yF Tryz.func170 rfl trivial ?_;refine yB Tryz.func170 rfl trivial (fun h7=>?_) (fun h7=>?_)
    ·exact yR Tryz.func170 rfl trivial ⟨0,rfl,by omega,by omega⟩
    ·have h7:decide (IntKind.i64.wrap (bt ⟨l.toArray⟩ ((at_:Int)).toNat) >= 128)=false:=h7;rw [Int.toNat_natCast,zo,ew,decide_eq_false_iff_not]at h7;refine yS Tryz.func170 rfl trivial ?_;obtain⟨c,hc,hcb⟩:∃c:Nat,(l.getD at_ 0).toNat-0=c∧c<300:=⟨_,rfl,by omega⟩
     refine z8 (α:=Nat×Nat) (fun p=>[(0,vSL l),(1,vI .i64 (at_:Int)),(5,vI .i64 1),(6,vI .i64 (p.2:Int)),(7,vI .i64 0),(8,vI .i64 (p.1:Int))]) (fun p=>[]) (fun p=>1≤p.1∧p.1≤1∧at_+p.1≤l.length∧p.2<300*64^(p.1-1)) (fun p=>1-p.1) (1,c) ⟨Nat.le_refl _,Nat.le_of_ble_eq_true rfl,hat,by simpa using hcb⟩ ?_ ?_
     ·refine fun h=>yE h ⟨erl rfl,erl rfl,erl rfl,⟨_,rfl,.of ?_⟩,erl rfl,erl rfl,trivial⟩ trivial;show vI .i64 (IntKind.i64.wrap (bt ⟨l.toArray⟩ ((at_:Int)).toNat))=_;rw [Int.toNat_natCast,zo,ew];show vI .i64 _=vI .i64 _;rw [show(((l.getD at_ 0).toNat:Nat):Int)=(c:Int)by omega]
     rintro⟨i,c⟩ ⟨hi1,hi2,hil,hcb⟩ ih;simp only at hi1 hi2 hil hcb;have hpw:64^(i-1)≤64^3:=Nat.pow_le_pow_right (by decide) (by omega);have ewi:IntKind.i64.wrap (((⟨l.toArray⟩:ByteArray).size:Int)-at_)=((l.length-at_:Nat):Int):=by rw [hsz,z7 (by omega) (by omega)];omega
     have eai:IntKind.i64.wrap ((at_:Int)+i)=((at_+i:Nat):Int):=by rw [z7 (by omega) (by omega)];omega
     refine yB Tryz.func170 rfl trivial (fun hb=>?_) (fun hb=>?_)<;>simp only [decide_eq_true_eq,decide_eq_false_iff_not]at hb
     ·refine yB Tryz.func170 rfl trivial (fun g1=>?_) (fun g1=>?_)
      ·refine yT Tryz.func170 rfl trivial ?_;refine yT Tryz.func170 rfl trivial ?_;exact yR Tryz.func170 rfl trivial ⟨0,rfl,by omega,by omega⟩
      have g1:decide ((i:Int)≥IntKind.i64.wrap (((⟨l.toArray⟩:ByteArray).size:Int)-at_))=false:=g1;rw [ewi,decide_eq_false_iff_not]at g1;have hlt:at_+i<l.length:=by omega
      have hnd:((0:Int)≤IntKind.i64.wrap ((at_:Int)+i)∧IntKind.i64.wrap ((at_:Int)+i)<((⟨l.toArray⟩:ByteArray).size:Int)):=by rw [eai,hsz];omega
      have hv:=UInt8.toNat_lt (l.getD (at_+i) 0);refine yB Tryz.func170 rfl ⟨hnd,trivial⟩ (fun g2=>?_) (fun g2=>?_)
      ·refine yT Tryz.func170 rfl trivial ?_;exact yR Tryz.func170 rfl trivial ⟨0,rfl,by omega,by omega⟩
      have g2:decide (bt ⟨l.toArray⟩ (IntKind.i64.wrap ((at_:Int)+i)).toNat<128)=false:=g2;rw [eai,Int.toNat_natCast,zo,decide_eq_false_iff_not]at g2;refine yB Tryz.func170 rfl ⟨hnd,trivial⟩ (fun g3=>?_) (fun g3=>?_)
      ·exact yR Tryz.func170 rfl trivial ⟨0,rfl,by omega,by omega⟩
      have g3:decide (bt ⟨l.toArray⟩ (IntKind.i64.wrap ((at_:Int)+i)).toNat>191)=false:=g3;rw [eai,Int.toNat_natCast,zo,decide_eq_false_iff_not]at g3;refine yS Tryz.func170 rfl ⟨hnd,trivial⟩ ?_;have hc4:c<300*64^3:=Nat.lt_of_lt_of_le hcb (Nat.mul_le_mul_left _ hpw);have hstep:c*64+(l.getD (at_+i) 0).toNat-128<300*64^(i+1-1):=by
       rw [show i+1-1=(i-1)+1 by omega,Nat.pow_succ];generalize 64^(i-1)=q at *;omega
      refine yE (ih (i+1,c*64+(l.getD (at_+i) 0).toNat-128) ⟨by simp only;omega,by simp only;omega,by simp only;omega,hstep⟩ (by simp only;omega)) ⟨erl rfl,erl rfl,erl rfl,⟨_,rfl,.of ?_⟩,erl rfl,erw rfl,trivial⟩ trivial;show vI .i64 (IntKind.i64.wrap (IntKind.i64.wrap (IntKind.i64.wrap ((c:Int)*64)+IntKind.i64.wrap (bt ⟨l.toArray⟩ (IntKind.i64.wrap ((at_:Int)+i)).toNat))-128))=_;have e1:IntKind.i64.wrap ((c:Int)*64)=(c:Int)*64:=z7 (by omega) (by omega);have e2:IntKind.i64.wrap (((l.getD (at_+i) 0).toNat:Nat):Int)=(((l.getD (at_+i) 0).toNat:Nat):Int):=z7 (by omega) (by omega);have e3:IntKind.i64.wrap ((c:Int)*64+(((l.getD (at_+i) 0).toNat:Nat):Int))=(c:Int)*64+(((l.getD (at_+i) 0).toNat:Nat):Int):=z7 (by omega) (by omega);rw [eai,Int.toNat_natCast,zo,e2,e1,e3,z7 (by omega) (by omega)];show vI .i64 _=vI .i64 _;congr 4;omega
     ·obtain rfl:i=1:=by omega
      refine yB Tryz.func170 rfl trivial (fun g1=>?_) (fun g1=>?_)
      ·refine yT Tryz.func170 rfl trivial ?_;refine yT Tryz.func170 rfl trivial ?_;exact yR Tryz.func170 rfl trivial ⟨0,rfl,by omega,by omega⟩
      refine yB Tryz.func170 rfl trivial (fun g2=>?_) (fun g2=>?_)
      ·refine yT Tryz.func170 rfl trivial ?_;exact yR Tryz.func170 rfl trivial ⟨0,rfl,by omega,by omega⟩
      refine yB Tryz.func170 rfl trivial (fun g3=>?_) (fun g3=>?_)
      ·refine yB Tryz.func170 rfl trivial (fun g4=>?_) (fun g4=>?_)
       ·exact yR Tryz.func170 rfl trivial ⟨0,rfl,by omega,by omega⟩
       ·exact yR Tryz.func170 rfl trivial ⟨1,rfl,by omega,by omega⟩
      ·refine yF Tryz.func170 rfl trivial ?_;exact yR Tryz.func170 rfl trivial ⟨1,rfl,by omega,by omega⟩
theorem zhf(l:List UInt8)(hl:l.length≤maxLen):ACall Tryz.prog 148 [vSL l] [] (fun r o=>∃b,r=vB b):=by
 refine yN Tryz.func148 fun C hC hCl hDs hGk=>?_;have hl0:=hl;have hl:l.length≤9223372036854775807:=hl;have hsz:(⟨l.toArray⟩:ByteArray).size=l.length:=zp l;refine yS Tryz.func148 rfl trivial ?_;refine z8 (α:=Nat×Nat) (fun p=>[(0,vSL l),(3,vI .i64 (p.2:Int)),(4,vI .i64 (p.1:Int))]) (fun p=>[]) (fun p=>p.1≤l.length∧p.2≤p.1) (fun p=>l.length-p.1) (0,0) ⟨Nat.zero_le _,Nat.le_refl _⟩ ?_ ?_
 ·exact fun h=>yE h (eAl rfl) trivial
 rintro⟨i,q⟩ ⟨hi,hq⟩ ih;simp only at hi hq;refine yB Tryz.func148 rfl trivial (fun hb=>?_) (fun hb=>?_)<;>simp only [hsz,decide_eq_true_eq,decide_eq_false_iff_not]at hb
 ·have hlt:i<l.length:=by omega
  have hnd:((0:Int)≤(i:Int)∧(i:Int)<((⟨l.toArray⟩:ByteArray).size:Int)):=by rw [hsz];omega
  refine yC Tryz.func148 rfl trivial (znt l i hl0 hlt) (.refl _) ?_ (hr:=by rintro r o ⟨n,rfl,-⟩;rfl);rintro r o ⟨n,rfl,hn4,hnl⟩;refine yB Tryz.func148 rfl trivial (fun h1=>?_) (fun h1=>?_)
  ·refine yT Tryz.func148 rfl trivial ?_;refine yT Tryz.func148 rfl trivial ?_;exact yR Tryz.func148 rfl trivial ⟨_,rfl⟩
  have h1:((n:Int)==0)=false:=h1;have hn1:0<n:=by
   rcases Nat.eq_zero_or_pos n with rfl|h
   ·cases h1
   ·exact h
  refine yB Tryz.func148 rfl ⟨hnd,trivial⟩ (fun h2=>?_) (fun h2=>?_)
  ·refine yT Tryz.func148 rfl trivial ?_;exact yR Tryz.func148 rfl trivial ⟨_,rfl⟩
  refine yB Tryz.func148 rfl ⟨hnd,trivial⟩ (fun h3=>?_) (fun h3=>?_)
  ·exact yR Tryz.func148 rfl trivial ⟨_,rfl⟩
  refine yS Tryz.func148 rfl trivial ?_;refine yE (ih (i+n,q+1) ⟨by simp only;omega,by simp only;omega⟩ (by simp only;omega)) ⟨erl rfl,⟨_,rfl,.of ?_⟩,⟨_,rfl,.of ?_⟩,trivial⟩ trivial
  ·show vI .i64 (IntKind.i64.wrap ((q:Int)+1))=_;rw [z7 (by omega) (by omega)];rfl
  ·show vI .i64 (IntKind.i64.wrap ((i:Int)+n))=_;rw [z7 (by omega) (by omega)];rfl
 ·refine yB Tryz.func148 rfl trivial (fun h1=>?_) (fun h1=>?_)
  ·exact yR Tryz.func148 rfl trivial ⟨_,rfl⟩
  ·exact yR Tryz.func148 rfl trivial ⟨_,rfl⟩
theorem z15{p:Prop}[Decidable p]{α:Type}{a b:α}{L:List α}(ha:a∈L)(hb:b∈L):(if p then a else b)∈L:=by split<;>assumption
def zqn:List (List UInt8×Bool):=[([119],true),([115,98],true),([115,109],true),([97],true),([115,97],true),([115,97,97],true),([115,97,97,97],true),([115,97,110,110],true),([115,97,110],true),([],false)]
theorem zmo(op:List UInt8):formR op∈zqn:=by
 unfold formR;refine z15 (by decide) ?_;refine z15 (by decide) ?_;refine z15 (by decide) ?_;refine z15 (by decide) ?_;refine z15 (by decide) ?_;refine z15 (by decide) ?_;refine z15 (by decide) ?_;refine z15 (by decide) ?_;refine z15 (by decide) ?_;refine z15 (by decide) ?_;refine z15 (by decide) ?_;refine z15 (by decide) ?_;refine z15 (by decide) ?_;refine z15 (by decide) ?_;refine z15 (by decide) ?_;refine z15 (by decide) ?_;refine z15 (by decide) ?_;refine z15 (by decide) ?_;refine z15 (by decide) ?_;refine z15 (by decide) ?_;refine z15 (by decide) ?_;refine z15 (by decide) ?_;refine z15 (by decide) ?_;refine z15 (by decide) ?_;refine z15 (by decide) ?_;refine z15 (by decide) ?_;refine z15 (by decide) ?_;refine z15 (by decide) ?_;refine z15 (by decide) ?_;refine z15 (by decide) ?_;refine z15 (by decide) ?_;refine z15 (by decide) ?_;refine z15 (by decide) ?_;refine z15 (by decide) ?_;decide
theorem z8g(op:List UInt8):(formR op).1.length≤4:=by
 have h:=zmo op;generalize formR op=f at h;simp only [zqn,List.mem_cons,List.not_mem_nil,or_false]at h;rcases h with rfl|rfl|rfl|rfl|rfl|rfl|rfl|rfl|rfl|rfl<;>decide
theorem zg7(form l:List UInt8)(hf:form.length≤4)(hl:l.length≤maxLen):ACall Tryz.prog 111 [vSL form,vSL l] [] (fun r o=>∃b,r=vB b∧(b=true→0<form.count 98→mkok l=true)):=by
 refine yN Tryz.func111 fun C hC hCl hDs hGk=>?_;refine yV Tryz.func111 rfl trivial (z2x form 98 (by omega)) (.refl _) ?_;refine yB Tryz.func111 rfl trivial (fun h1=>?_) (fun h1=>?_)
 ·refine yC Tryz.func111 rfl trivial (zh9 l hl) (.refl _) ?_ (hr:=by rintro r o ⟨b,rfl,-⟩;rfl);rintro r o ⟨b,rfl,hb⟩;exact yR Tryz.func111 rfl trivial ⟨b,rfl,fun h _=>hb h⟩
 have h1:decide (((form.count 98:Nat):Int)>0)=false:=h1;rw [decide_eq_false_iff_not]at h1;have h0:¬0<form.count 98:=by omega
 refine yV Tryz.func111 rfl trivial (z2x form 109 (by omega)) (.refl _) ?_;refine yB Tryz.func111 rfl trivial (fun h2=>?_) (fun h2=>?_)
 ·refine yB Tryz.func111 rfl trivial (fun h3=>?_) (fun h3=>?_)
  ·refine yC Tryz.func111 rfl trivial (zhf l hl) (.refl _) ?_ (hr:=by rintro r o ⟨b,rfl⟩;rfl);rintro r o ⟨b,rfl⟩;exact yR Tryz.func111 rfl trivial ⟨b,rfl,fun _ h=>absurd h h0⟩
  ·exact yR Tryz.func111 rfl trivial ⟨_,rfl,fun _ h=>absurd h h0⟩
 ·refine yF Tryz.func111 rfl trivial ?_;exact yR Tryz.func111 rfl trivial ⟨_,rfl,fun _ h=>absurd h h0⟩
structure NodeOk(x:Nd)(id:Int):Prop where
 known:(formR x.op).2=true
 txt:0<(formR x.op).1.count 98→mkok x.t=true
 s0:(formR x.op).1.count 115=0→x.s=0
 s1:0<(formR x.op).1.count 115→1≤x.s∧x.s<id
 al:x.a.length=(formR x.op).1.count 97
 ab:∀a∈x.a,1≤a∧a≤id-1
 nl:x.n.length=(formR x.op).1.count 110+(formR x.op).1.count 119
 nb:∀n∈x.n,(((formR x.op).1.count 119:Nat):Int)≤n∧n≤128
structure NdB(x:Nd):Prop where
 op:x.op.length≤maxLen
 t:x.t.length≤maxLen
 a:x.a.length≤maxLen
 n:x.n.length≤maxLen
theorem zlu(x:Nd)(hx:NdB x)(id:Nat)(hid:id≤9223372036854775807):ACall Tryz.prog 84 [.d (eNd x),vI .i64 (id:Int)] [] (fun r o=>∃b,r=vB b∧(b=true→NodeOk x id)):=by
 refine yN Tryz.func84 fun C hC hCl hDs hGk=>?_;have hfl:=z8g x.op;refine yV Tryz.func84 rfl trivial (znw x.op) (.refl _) ?_;refine yB Tryz.func84 rfl trivial (fun h1=>?_) (fun h1=>?_)
 ·refine yT Tryz.func84 rfl trivial ?_;exact yR Tryz.func84 rfl trivial ⟨false,rfl,by simp⟩
 have k1:(formR x.op).2=true:=by
  cases h:(formR x.op).2 with
  | true=>rfl
  | false=>rw [h]at h1;cases h1
 refine yC Tryz.func84 rfl trivial (zg7 (formR x.op).1 x.t hfl hx.t) (.refl _) ?_ (hr:=by rintro r o ⟨b,rfl,-⟩;rfl);rintro r o ⟨b,rfl,hb⟩;refine yB Tryz.func84 rfl trivial (fun h2=>?_) (fun h2=>?_)
 ·exact yR Tryz.func84 rfl trivial ⟨false,rfl,by simp⟩
 have k2:b=true:=by
  cases b with
  | true=>rfl
  | false=>cases h2
 have k2:=hb k2;refine yV Tryz.func84 rfl trivial (z2x (formR x.op).1 115 (by omega)) (.refl _) ?_;have n1:(formR x.op).1.count 115≤4:=Nat.le_trans List.count_le_length hfl;have n2:(formR x.op).1.count 119≤4:=Nat.le_trans List.count_le_length hfl;have n3:(formR x.op).1.count 97≤4:=Nat.le_trans List.count_le_length hfl;have n4:(formR x.op).1.count 110≤4:=Nat.le_trans List.count_le_length hfl;have fin:((formR x.op).1.count 115=0→x.s=0)→(0<(formR x.op).1.count 115→1≤x.s∧x.s<id)→True:=fun _ _=>trivial
 refine yB Tryz.func84 rfl trivial (fun h3=>?_) (fun h3=>?_)
 ·have h3:((((formR x.op).1.count 115:Nat):Int)==0)=true:=h3;have z3:(formR x.op).1.count 115=0:=by have:=eq_of_beq h3;omega
  refine yB Tryz.func84 rfl trivial (fun h4=>?_) (fun h4=>?_)
  ·refine yT Tryz.func84 rfl trivial ?_;exact yR Tryz.func84 rfl trivial ⟨false,rfl,by simp⟩
  have h4:(x.s !=0)=false:=h4;rw [bne_eq_false_iff_eq]at h4;refine yV Tryz.func84 rfl trivial (z2x (formR x.op).1 115 (by omega)) (.refl _) ?_;refine yB Tryz.func84 rfl trivial (fun h5=>?_) (fun h5=>?_)
  ·have h5:decide ((((formR x.op).1.count 115:Nat):Int)>0)=true:=h5;rw [z3]at h5;cases h5
  refine yF Tryz.func84 rfl trivial ?_;refine yV Tryz.func84 rfl trivial (z2x (formR x.op).1 119 (by omega)) (.refl _) ?_;refine zt (env':=[(1,vI .i64 (id:Int)),(2,.ptr 0 0),(5,vSL (formR x.op).1),(50,vI .i64 (((formR x.op).1.count 119:Nat):Int))]) (objs':=[some (bNd x)]) ?_ hC hCl ⟨⟨_,rfl,.refl _⟩,⟨_,rfl,.refl _⟩,⟨_,rfl,.refl _⟩,⟨_,rfl,.refl _⟩,trivial⟩ ⟨.refl _,trivial⟩ rfl rfl (Nat.zero_le _);have eid:IntKind.i64.wrap ((id:Int)-1)=(id:Int)-1:=z7 (by omega) (by omega);have e10:IntKind.i64.wrap ((((formR x.op).1.count 110:Nat):Int)+(((formR x.op).1.count 119:Nat):Int))=(((formR x.op).1.count 110+(formR x.op).1.count 119:Nat):Int):=by rw [z7 (by omega) (by omega)];omega
  refine yO 6 Tryz.func84 rfl trivial ?_;refine yQ Tryz.func112 rfl trivial (z2x (formR x.op).1 97 (by omega)) (.refl _) ?_;refine yq rfl trivial ?_;refine yC Tryz.func84 rfl trivial (z5h x.a (((formR x.op).1.count 97:Nat):Int) 1 ((id:Int)-1) hx.a) ⟨.refl _,.refl _,.refl _,.of (by show vI .i64 (IntKind.i64.wrap ((id:Int)-1))=_;rw [eid]),trivial⟩ ?_ (hr:=by rintro r o ⟨b,rfl,-⟩;rfl);rintro r o ⟨b1,rfl,hb1⟩;refine yO 7 Tryz.func84 rfl trivial ?_;refine yQ Tryz.func112 rfl trivial (z2x (formR x.op).1 110 (by omega)) (.refl _) ?_;refine yq rfl trivial ?_;refine yC Tryz.func84 rfl trivial (z5h x.n (((formR x.op).1.count 110+(formR x.op).1.count 119:Nat):Int) (((formR x.op).1.count 119:Nat):Int) 128 hx.n) ⟨.refl _,.of (by show vI .i64 (IntKind.i64.wrap ((((formR x.op).1.count 110:Nat):Int)+(((formR x.op).1.count 119:Nat):Int)))=_;rw [e10]),.refl _,.refl _,trivial⟩ ?_ (hr:=by rintro r o ⟨b,rfl,-⟩;rfl);rintro r o ⟨b2,rfl,hb2⟩;refine yB Tryz.func84 rfl trivial (fun h8=>?_) (fun h8=>?_)
  ·subst h8;obtain⟨g1,g2⟩:=hb1 rfl;refine yR Tryz.func84 rfl trivial ⟨b2,rfl,fun h9=>?_⟩;obtain⟨g3,g4⟩:=hb2 h9;exact⟨k1,k2,fun _=>h4,fun h=>by omega,by omega,g2,by omega,g4⟩
  ·exact yR Tryz.func84 rfl trivial ⟨false,rfl,by simp⟩
 ·have h3:((((formR x.op).1.count 115:Nat):Int)==0)=false:=h3;have z3:0<(formR x.op).1.count 115:=by
   rcases Nat.eq_zero_or_pos ((formR x.op).1.count 115)with h|h
   ·rw [h]at h3;cases h3
   ·exact h
  refine yF Tryz.func84 rfl trivial ?_;refine yV Tryz.func84 rfl trivial (z2x (formR x.op).1 115 (by omega)) (.refl _) ?_;refine yB Tryz.func84 rfl trivial (fun h5=>?_) (fun h5=>?_);rotate_left
  ·have h5:decide ((((formR x.op).1.count 115:Nat):Int)>0)=false:=h5;rw [decide_eq_false_iff_not]at h5;omega
  refine yB Tryz.func84 rfl trivial (fun h6=>?_) (fun h6=>?_)
  ·refine yT Tryz.func84 rfl trivial ?_;exact yR Tryz.func84 rfl trivial ⟨false,rfl,by simp⟩
  have h6:decide (x.s<1)=false:=h6;rw [decide_eq_false_iff_not]at h6;refine yB Tryz.func84 rfl trivial (fun h7=>?_) (fun h7=>?_)
  ·exact yR Tryz.func84 rfl trivial ⟨false,rfl,by simp⟩
  have h7:decide (x.s≥(id:Int))=false:=h7;rw [decide_eq_false_iff_not]at h7;refine yV Tryz.func84 rfl trivial (z2x (formR x.op).1 119 (by omega)) (.refl _) ?_;refine zt (env':=[(1,vI .i64 (id:Int)),(2,.ptr 0 0),(5,vSL (formR x.op).1),(50,vI .i64 (((formR x.op).1.count 119:Nat):Int))]) (objs':=[some (bNd x)]) ?_ hC hCl ⟨⟨_,rfl,.refl _⟩,⟨_,rfl,.refl _⟩,⟨_,rfl,.refl _⟩,⟨_,rfl,.refl _⟩,trivial⟩ ⟨.refl _,trivial⟩ rfl rfl (Nat.zero_le _);have eid:IntKind.i64.wrap ((id:Int)-1)=(id:Int)-1:=z7 (by omega) (by omega);have e10:IntKind.i64.wrap ((((formR x.op).1.count 110:Nat):Int)+(((formR x.op).1.count 119:Nat):Int))=(((formR x.op).1.count 110+(formR x.op).1.count 119:Nat):Int):=by rw [z7 (by omega) (by omega)];omega
  refine yO 6 Tryz.func84 rfl trivial ?_;refine yQ Tryz.func112 rfl trivial (z2x (formR x.op).1 97 (by omega)) (.refl _) ?_;refine yq rfl trivial ?_;refine yC Tryz.func84 rfl trivial (z5h x.a (((formR x.op).1.count 97:Nat):Int) 1 ((id:Int)-1) hx.a) ⟨.refl _,.refl _,.refl _,.of (by show vI .i64 (IntKind.i64.wrap ((id:Int)-1))=_;rw [eid]),trivial⟩ ?_ (hr:=by rintro r o ⟨b,rfl,-⟩;rfl);rintro r o ⟨b1,rfl,hb1⟩;refine yO 7 Tryz.func84 rfl trivial ?_;refine yQ Tryz.func112 rfl trivial (z2x (formR x.op).1 110 (by omega)) (.refl _) ?_;refine yq rfl trivial ?_;refine yC Tryz.func84 rfl trivial (z5h x.n (((formR x.op).1.count 110+(formR x.op).1.count 119:Nat):Int) (((formR x.op).1.count 119:Nat):Int) 128 hx.n) ⟨.refl _,.of (by show vI .i64 (IntKind.i64.wrap ((((formR x.op).1.count 110:Nat):Int)+(((formR x.op).1.count 119:Nat):Int)))=_;rw [e10]),.refl _,.refl _,trivial⟩ ?_ (hr:=by rintro r o ⟨b,rfl,-⟩;rfl);rintro r o ⟨b2,rfl,hb2⟩;refine yB Tryz.func84 rfl trivial (fun h8=>?_) (fun h8=>?_)
  ·subst h8;obtain⟨g1,g2⟩:=hb1 rfl;refine yR Tryz.func84 rfl trivial ⟨b2,rfl,fun h9=>?_⟩;obtain⟨g3,g4⟩:=hb2 h9;exact⟨k1,k2,fun h=>by omega,fun _=>⟨by omega,by omega⟩,by omega,g2,by omega,g4⟩
  ·exact yR Tryz.func84 rfl trivial ⟨false,rfl,by simp⟩
@[reducible] def nd(l:List Nd)(i:Nat):Nd:=l.getD i default
theorem zt9{l:List Nd}{i:Nat}(h:i<l.length):nd l i∈l:=z11 default h
structure MdB(l:List Nd):Prop where
 len:l.length≤maxLen
 nd:∀x∈l,NdB x
theorem zf2(l:List Nd)(hm:MdB l):ACall Tryz.prog 55 [.d (eBt l)] [] (fun r o=>∃b,r=vB b∧(b=true→∀i,i<l.length→NodeOk (nd l i) ((i:Int)+1))):=by
 refine yN Tryz.func55 fun C hC hCl hDs hGk=>?_;have hl:l.length≤9223372036854775807:=hm.len;refine yS Tryz.func55 rfl trivial ?_;refine z8 (α:=Nat) (fun i=>[(1,.ptr 0 0),(3,vI .i64 (i:Int))]) (fun i=>[some (bBt l)]) (fun i=>i≤l.length∧∀j,j<i→NodeOk (nd l j) ((j:Int)+1)) (fun i=>l.length-i) 0 ⟨Nat.zero_le _,fun j hj=>by omega⟩ ?_ ?_
 ·exact fun h=>yE h (eAl rfl) (oAl rfl)
 rintro i ⟨hi,hall⟩ ih;refine yB Tryz.func55 rfl trivial (fun hb=>?_) (fun hb=>?_)<;>simp only [List.length_map,decide_eq_true_eq,decide_eq_false_iff_not]at hb
 ·have hlt:i<l.length:=by omega
  have e1:IntKind.i64.wrap ((i:Int)+1)=((i+1:Nat):Int):=by rw [z7 (by omega) (by omega)];omega
  refine yC Tryz.func55 rfl (by simp [andP]<;>omega) (zlu (nd l i) (hm.nd _ (zt9 hlt)) (i+1) (by omega)) ⟨.refl _,.of (by show vI .i64 (IntKind.i64.wrap ((i:Int)+1))=_;rw [e1]),trivial⟩ ?_ (hr:=by rintro r o ⟨b,rfl,-⟩;rfl);rintro r o ⟨b,rfl,hb1⟩;refine yB Tryz.func55 rfl trivial (fun h1=>?_) (fun h1=>?_)
  ·exact yR Tryz.func55 rfl trivial ⟨false,rfl,by simp⟩
  have k1:b=true:=by
   cases b with
   | true=>rfl
   | false=>cases h1
  refine yS Tryz.func55 rfl trivial ?_;refine yE (ih (i+1) ⟨by omega,fun j hj=>?_⟩ (by omega)) ⟨erl rfl,erw rfl,trivial⟩ (oAl rfl);rcases Nat.lt_or_ge j i with h|h
  ·exact hall j h
  ·obtain rfl:j=i:=by omega
   have:=hb1 k1;rwa [show((j+1:Nat):Int)=(j:Int)+1 by omega]at this
 ·obtain rfl:i=l.length:=by omega
  exact yR Tryz.func55 rfl trivial ⟨_,rfl,fun _=>hall⟩
theorem zem(l:List Nd)(hm:MdB l)(most:Int):ACall Tryz.prog 23 [.d (eBt l),vI .i64 most] [] (fun r o=>∃b,r=vB b∧(b=true→(l.length:Int)≤most)):=by
 refine yN Tryz.func23 fun C hC hCl hDs hGk=>?_;have hl:l.length≤9223372036854775807:=hm.len;refine yB Tryz.func23 rfl trivial (fun h1=>?_) (fun h1=>?_)
 ·exact yR Tryz.func23 rfl trivial ⟨false,rfl,by simp⟩
 have h1:decide (((l.map eNd).length:Int)>most)=false:=h1;rw [List.length_map,decide_eq_false_iff_not]at h1;refine yS Tryz.func23 rfl trivial ?_;refine z8 (α:=Nat) (fun i=>[(2,.ptr 0 0),(5,vI .i64 (i:Int))]) (fun i=>[some (bBt l)]) (fun i=>i≤l.length) (fun i=>l.length-i) 0 (Nat.zero_le _) ?_ ?_
 ·exact fun h=>yE h (eAl rfl) (oAl rfl)
 rintro i hi ih;refine yB Tryz.func23 rfl trivial (fun hb=>?_) (fun hb=>?_)<;>simp only [List.length_map,decide_eq_true_eq,decide_eq_false_iff_not]at hb
 ·have hlt:i<l.length:=by omega
  refine yB Tryz.func23 rfl (by simp [andP]<;>omega) (fun g=>?_) (fun g=>?_)
  ·refine yT Tryz.func23 rfl trivial ?_;refine yT Tryz.func23 rfl trivial ?_;refine yT Tryz.func23 rfl trivial ?_;exact yR Tryz.func23 rfl trivial ⟨false,rfl,by simp⟩
  refine yB Tryz.func23 rfl trivial (fun g=>?_) (fun g=>?_)
  ·refine yT Tryz.func23 rfl trivial ?_;refine yT Tryz.func23 rfl trivial ?_;exact yR Tryz.func23 rfl trivial ⟨false,rfl,by simp⟩
  refine yB Tryz.func23 rfl trivial (fun g=>?_) (fun g=>?_)
  ·refine yT Tryz.func23 rfl trivial ?_;exact yR Tryz.func23 rfl trivial ⟨false,rfl,by simp⟩
  refine yB Tryz.func23 rfl trivial (fun g=>?_) (fun g=>?_)
  ·exact yR Tryz.func23 rfl trivial ⟨false,rfl,by simp⟩
  refine yS Tryz.func23 rfl trivial ?_;exact yE (ih (i+1) (by omega) (by omega)) ⟨erl rfl,erw rfl,trivial⟩ (oAl rfl)
 ·exact yR Tryz.func23 rfl trivial ⟨true,rfl,fun _=>by omega⟩
def isVal(op:List UInt8):Bool:=!(decide (op=kSort)||decide (op=kInit)||decide (op=kNext)||decide (op=kBad)||decide (op=zg))
theorem z9j(x:Nd):ACall Tryz.prog 86 [.d (eNd x)] [] (fun r o=>r=vB (isVal x.op)):=by
 refine yN Tryz.func86 fun C hC hCl hDs hGk=>?_;unfold isVal;refine yB Tryz.func86 rfl trivial (fun h=>?_) (fun h=>?_)<;>rw [show((⟨#[115,111,114,116]⟩:ByteArray))=⟨kSort.toArray⟩from rfl,strB]at h
 ·exact yR Tryz.func86 rfl trivial (by rw [h];rfl)
 refine yB Tryz.func86 rfl trivial (fun h2=>?_) (fun h2=>?_)<;>rw [show((⟨#[105,110,105,116]⟩:ByteArray))=⟨kInit.toArray⟩from rfl,strB]at h2
 ·exact yR Tryz.func86 rfl trivial (by rw [h,h2];rfl)
 refine yB Tryz.func86 rfl trivial (fun h3=>?_) (fun h3=>?_)<;>rw [show((⟨#[110,101,120,116]⟩:ByteArray))=⟨kNext.toArray⟩from rfl,strB]at h3
 ·exact yR Tryz.func86 rfl trivial (by rw [h,h2,h3];rfl)
 refine yB Tryz.func86 rfl trivial (fun h4=>?_) (fun h4=>?_)<;>rw [show((⟨#[98,97,100]⟩:ByteArray))=⟨kBad.toArray⟩from rfl,strB]at h4
 ·exact yR Tryz.func86 rfl trivial (by rw [h,h2,h3,h4];rfl)
 refine yB Tryz.func86 rfl trivial (fun h5=>?_) (fun h5=>?_)<;>rw [show((⟨#[99,111,110,115,116,114,97,105,110,116]⟩:ByteArray))=⟨zg.toArray⟩from rfl,strB]at h5
 ·exact yR Tryz.func86 rfl trivial (by rw [h,h2,h3,h4,h5];rfl)
 ·exact yR Tryz.func86 rfl trivial (by rw [h,h2,h3,h4,h5];rfl)
def wdN(l:List Nd)(x:Nd):Int:=(nd l (x.s-1).toNat).n.getD 0 0
theorem z8p(l:List Nd)(x:Nd)(h1:1≤x.s)(h2:x.s≤l.length)(h3:0<(nd l (x.s-1).toNat).n.length)(hl:l.length≤maxLen):ACall Tryz.prog 68 [.d (eBt l),.d (eNd x)] [] (fun r o=>r=vI .i64 (wdN l x)):=by
 refine yN Tryz.func68 fun C hC hCl hDs hGk=>?_;have hl:l.length≤9223372036854775807:=hl;have e1:IntKind.i64.wrap (x.s-1)=x.s-1:=z7 (by omega) (by omega);refine yR Tryz.func68 rfl ?_ ?_
 ·simp only [e1,List.length_map,andP];exact⟨⟨by omega,by show(0:Int)<(((nd l (x.s-1).toNat).n.length:Nat):Int);omega⟩,⟨by omega,by omega⟩,trivial⟩
 ·rw [e1];rfl
structure SortAt(l:List Nd)(x:Nd):Prop where
 lo:1≤x.s
 hi:x.s≤l.length
 op:(nd l (x.s-1).toNat).op=kSort
 n:0<(nd l (x.s-1).toNat).n.length
@[reducible] def ln(l:List Nd)(id:Int):Nd:=nd l (id-1).toNat
theorem ziz(l:List Nd)(id:Int)(h1:1≤id)(h2:id≤l.length)(hs:SortAt l (ln l id))(hl:l.length≤maxLen):ACall Tryz.prog 149 [.d (eBt l),vI .i64 id] [] (fun r o=>r=vI .i64 (wdN l (ln l id))):=by
 refine yN Tryz.func149 fun C hC hCl hDs hGk=>?_;have hl2:l.length≤9223372036854775807:=hl;have e1:IntKind.i64.wrap (id-1)=id-1:=z7 (by omega) (by omega);refine yO 7 Tryz.func149 rfl trivial ?_;refine yq rfl ?_ ?_
 ·simp only [e1,List.length_map];exact⟨⟨by omega,by omega⟩,trivial⟩
 refine yV Tryz.func149 rfl trivial (z8p l (ln l id) hs.lo hs.hi hs.n hl) ⟨.refl _,.of (by show AV.d (eNd (l.getD (IntKind.i64.wrap (id-1)).toNat default))=_;rw [e1]),trivial⟩ ?_;exact yR Tryz.func149 rfl trivial rfl
def hadP(l:List Nd)(i:Nat)(op:List UInt8)(st:Int):Prop:=∃j,j<i∧(nd l j).op=op∧(nd l j).a.getD 0 0=st
theorem zdz(l:List Nd)(i:Nat)(hi:i≤l.length)(op:List UInt8)(st:Int)(ha:∀j,j<i→(nd l j).op=op→0<(nd l j).a.length)(hl:l.length<maxLen):ACall Tryz.prog 87 [.d (eBt l),vI .i64 ((i+1:Nat):Int),vSL op,vI .i64 st] [] (fun r o=>∃b,r=vB b∧(b=false→¬hadP l i op st)∧(b=true→hadP l i op st)):=by
 refine yN Tryz.func87 fun C hC hCl hDs hGk=>?_;have hl2:l.length<9223372036854775807:=hl;have e1:IntKind.i64.wrap (((i+1:Nat):Int)-1)=(i:Int):=by rw [z7 (by omega) (by omega)];omega
 refine yS Tryz.func87 rfl trivial ?_;refine z8 (α:=Nat) (fun j=>[(1,vI .i64 ((i+1:Nat):Int)),(2,vSL op),(3,vI .i64 st),(4,.ptr 0 0),(9,vI .i64 (j:Int))]) (fun j=>[some (bBt l)]) (fun j=>j≤i∧∀q,q<j→¬((nd l q).op=op∧(nd l q).a.getD 0 0=st)) (fun j=>i-j) 0 ⟨Nat.zero_le _,fun q hq=>by omega⟩ ?_ ?_
 ·exact fun h=>yE h (eAl rfl) (oAl rfl)
 rintro j ⟨hj,hall⟩ ih;refine yB Tryz.func87 rfl trivial (fun hb=>?_) (fun hb=>?_)
 ·have hb:decide ((j:Int)<IntKind.i64.wrap (((i+1:Nat):Int)-1))=true:=hb;rw [e1,decide_eq_true_eq]at hb;have hlt:j<i:=by omega
  have next:¬((nd l j).op=op∧(nd l j).a.getD 0 0=st)→∀q,q<j+1→¬((nd l q).op=op∧(nd l q).a.getD 0 0=st):=fun h q hq=>by
   rcases Nat.lt_or_ge q j with h2|h2
   ·exact hall q h2
   ·obtain rfl:q=j:=by omega
    exact h
  refine yB Tryz.func87 rfl (by simp [andP]<;>omega) (fun h1=>?_) (fun h1=>?_)
  ·have h1:((⟨(nd l j).op.toArray⟩:ByteArray).toList==(⟨op.toArray⟩:ByteArray).toList)=true:=h1;rw [strB,decide_eq_true_eq]at h1;have hal:=ha j hlt h1;refine yB Tryz.func87 rfl ⟨⟨Int.le_refl _,by rw [List.length_map];exact Int.ofNat_lt.2 hal⟩,⟨by omega,by rw [List.length_map];omega⟩,trivial⟩ (fun h2=>?_) (fun h2=>?_)
   ·have h2:((nd l j).a.getD 0 0==st)=true:=h2;refine yR Tryz.func87 rfl trivial ⟨true,rfl,by simp,fun _=>⟨j,hlt,h1,eq_of_beq h2⟩⟩
   ·have h2:((nd l j).a.getD 0 0==st)=false:=h2;refine yS Tryz.func87 rfl trivial ?_;exact yE (ih (j+1) ⟨by omega,next fun hh=>by rw [hh.2]at h2;simp at h2⟩ (by omega)) ⟨erl rfl,erl rfl,erl rfl,erl rfl,erw rfl,trivial⟩ (oAl rfl)
  ·have h1:((⟨(nd l j).op.toArray⟩:ByteArray).toList==(⟨op.toArray⟩:ByteArray).toList)=false:=h1;rw [strB,decide_eq_false_iff_not]at h1;refine yF Tryz.func87 rfl trivial ?_;refine yS Tryz.func87 rfl trivial ?_;exact yE (ih (j+1) ⟨by omega,next fun hh=>h1 hh.1⟩ (by omega)) ⟨erl rfl,erl rfl,erl rfl,erl rfl,erw rfl,trivial⟩ (oAl rfl)
 ·have hb:decide ((j:Int)<IntKind.i64.wrap (((i+1:Nat):Int)-1))=false:=hb;rw [e1,decide_eq_false_iff_not]at hb;obtain rfl:j=i:=by omega
  exact yR Tryz.func87 rfl trivial ⟨false,rfl,fun _ ⟨q,h1,h2⟩=>hall q h1 h2,by simp⟩
def wOf(l:List Nd)(x:Nd):Int:=if 0<x.s then wdN l x else 0
def awN(l:List Nd)(x:Nd)(j:Nat):Int:=wdN l (ln l (x.a.getD j 0))
def sameP(l:List Nd)(x:Nd):Prop:=∀j,j<x.a.length→awN l x j=wOf l x
structure AskOk(l:List Nd)(i:Nat)(x:Nd):Prop where
 const:x.op=z1a→(x.t.length:Int)=wOf l x
 bad:x.op=kBad∨x.op=zg→awN l x 0=1
 ini:x.op=kInit→(ln l (x.a.getD 1 0)).op=z1a
 inx:x.op=kInit∨x.op=kNext→sameP l x∧¬hadP l i x.op (x.a.getD 0 0)
 red:x.op=z1z∨x.op=z2l∨x.op=z1y→wOf l x=1
 cmp:x.op=kEq∨x.op=kUlt∨x.op=kSlt→wOf l x=1∧awN l x 0=awN l x 1
 cat:x.op=z1b→awN l x 0+awN l x 1=wOf l x
 ite:x.op=kIte→awN l x 0=1∧awN l x 1=wOf l x∧awN l x 2=wOf l x
 slice:x.op=z1p→x.n.getD 1 0≤x.n.getD 0 0∧x.n.getD 0 0<awN l x 0∧wOf l x=x.n.getD 0 0-x.n.getD 1 0+1
 ext:x.op=kUext∨x.op=kSext→wOf l x=awN l x 0+x.n.getD 0 0
 dflt:(∀k∈[kSort,zy,ze,z1a,kBad,zg,kInit,kNext,z1z,z2l,z1y,kEq,kUlt,kSlt,z1b,kIte,z1p,kUext,kSext],x.op≠k)→sameP l x
end Go.Proofs.YtbodbhpdelgpnaaGreatDoor
