/- A part of the proof. -/
import Derived.Test.YtbodbhpdelgpnaaGreatDoorP17
import Derived.KernelRfl
set_option linter.unusedVariables false
set_option linter.unusedSimpArgs false
set_option linter.unusedSectionVars false
set_option maxRecDepth 100000
set_option maxHeartbeats 8000000
namespace Go.Proofs.YtbodbhpdelgpnaaGreatDoor
open Go Ab
theorem zm0(w:World):(Go.method (Tryz.prog.types.size+Made.depth) 190 (.agg #[]) "vidimus/word.value").run Tryz.prog w=.ok (199,.agg #[]) w:=by kernel_rfl
theorem zp1(w:World):(Go.method (Tryz.prog.types.size+Made.depth) 191 (.agg #[]) "vidimus/word.value").run Tryz.prog w=.ok (200,.agg #[]) w:=by kernel_rfl
theorem zly(w:World):(Go.method (Tryz.prog.types.size+Made.depth) 192 (.agg #[]) "vidimus/word.value").run Tryz.prog w=.ok (202,.agg #[]) w:=by kernel_rfl
theorem zlz(w:World):(Go.method (Tryz.prog.types.size+Made.depth) 193 (.agg #[]) "vidimus/word.value").run Tryz.prog w=.ok (206,.agg #[]) w:=by kernel_rfl
theorem zp0(w:World):(Go.method (Tryz.prog.types.size+Made.depth) 196 (.agg #[]) "vidimus/word.value").run Tryz.prog w=.ok (213,.agg #[]) w:=by kernel_rfl
theorem zi8(w:World):(Go.method (Tryz.prog.types.size+Made.depth) 197 (.agg #[]) "vidimus/word.value").run Tryz.prog w=.ok (233,.agg #[]) w:=by kernel_rfl
@[reducible] def eNums(l:List (Nat×Nat)):D:=eL 2 (fun p:Nat×Nat=>vN p.1 p.2) (0,0) l
@[reducible] def aG0:AV:=.d (.ag [])
@[reducible] def aI(t:TypeId):AV:=.d (.ifc t (.ag []))
theorem zlm(x:Nd)(w y w' y':Nat)(h:ACall Tryz.prog 214 [vSL x.op,.d (vN w y)] [] (fun r o=>r=tupOf [.d (vN w' y'),vI .i64 0])):ACall Tryz.prog 213 [aG0,.d (eNd x),.d (eNums [(w,y)])] [] (fun r o=>r=tupOf [.d (vN w' y'),vI .i64 0]):=by
 refine yN Tryz.func213 fun C hC hCl hDs hGk=>?_;refine yO 8 Tryz.func213 rfl trivial ?_;refine yQ Tryz.func214 rfl (by simp [andP]<;>omega) h (.refl _) ?_;refine yq rfl trivial ?_;exact yR Tryz.func213 rfl trivial rfl
theorem zef(x:Nd)(w y v z w' y':Nat)(h:ACall Tryz.prog 234 [vSL x.op,.d (vN w y),.d (vN v z)] [] (fun r o=>r=tupOf [.d (vN w' y'),vI .i64 0])):ACall Tryz.prog 233 [aG0,.d (eNd x),.d (eNums [(w,y),(v,z)])] [] (fun r o=>r=tupOf [.d (vN w' y'),vI .i64 0]):=by
 refine yN Tryz.func233 fun C hC hCl hDs hGk=>?_;refine yO 11 Tryz.func233 rfl trivial ?_;refine yQ Tryz.func234 rfl (by simp [andP]<;>omega) h (.refl _) ?_;refine yq rfl trivial ?_;exact yR Tryz.func233 rfl trivial rfl
theorem zm8(x:Nd)(c w y z:Nat)(hc:c<2^1):ACall Tryz.prog 200 [aG0,.d (eNd x),.d (eNums [(1,c),(w,y),(w,z)])] [] (fun r o=>r=tupOf [.d (vN w (if c=1 then y else z)),vI .i64 0]):=by
 refine yN Tryz.func200 fun C hC hCl hDs hGk=>?_;refine yO 12 Tryz.func200 rfl trivial ?_;refine yQ Tryz.func201 rfl (by simp [andP]<;>omega) (ztp c w y z hc) (.refl _) ?_;refine yq rfl trivial ?_;exact yR Tryz.func200 rfl trivial rfl
theorem zjc(x:Nd)(w y lo hi:Nat)(hwb:w≤128)(h1:lo≤hi)(h2:hi<w)(hn:x.n.length=2)(e0:x.n.getD 0 0=hi)(e1:x.n.getD 1 0=lo):ACall Tryz.prog 202 [aG0,.d (eNd x),.d (eNums [(w,y)])] [] (fun r o=>r=tupOf [.d (vN (hi-lo+1) (slN y lo (hi-lo+1))),vI .i64 0]):=by
 refine yN Tryz.func202 fun C hC hCl hDs hGk=>?_;refine yO 14 Tryz.func202 rfl trivial ?_;refine yQ Tryz.func203 rfl (by simp [andP,hn]<;>omega) (zq5 w y lo hi hwb h1 h2) ⟨.refl _,.of (by show AV.d (eI (x.n.getD 0 0))=_;rw [e0];rfl),.of (by show AV.d (eI (x.n.getD 1 0))=_;rw [e1];rfl),trivial⟩ ?_;refine yq rfl trivial ?_;exact yR Tryz.func202 rfl trivial rfl
theorem zje(x:Nd)(w y n:Nat)(s:Bool)(hw:0<w)(hwb:w≤128)(hnb:w+n≤128)(hn:x.n.length=1)(e0:x.n.getD 0 0=n)(hs:decide (x.op=kSext)=s):ACall Tryz.prog 206 [aG0,.d (eNd x),.d (eNums [(w,y)])] [] (fun r o=>r=tupOf [.d (vN (w+n) (exN w y n (s&&y.testBit (w-1)))),vI .i64 0]):=by
 refine yN Tryz.func206 fun C hC hCl hDs hGk=>?_;refine yO 13 Tryz.func206 rfl trivial ?_;refine yQ Tryz.func207 rfl (by simp [andP,hn]<;>omega) (ztq w y n s hw hwb hnb (repOk _ _ (by omega))) ⟨.refl _,.of (by show AV.d (eI (x.n.getD 0 0))=_;rw [e0];rfl),.of (by show vB ((⟨x.op.toArray⟩:ByteArray).toList==(⟨kSext.toArray⟩:ByteArray).toList)=_;rw [strB,hs]),trivial⟩ ?_;refine yq rfl trivial ?_;exact yR Tryz.func206 rfl trivial rfl
theorem zk1(x:Nd)(a:List (Nat×Nat))(w y:Nat)(hl:x.t.length≤1000000000)(h:mkR x.t=tupOf [.d (vN w y),vI .i64 0]):ACall Tryz.prog 199 [aG0,.d (eNd x),.d (eNums a)] [] (fun r o=>r=tupOf [.d (vN w y),vI .i64 0]):=by
 refine yN Tryz.func199 fun C hC hCl hDs hGk=>?_;refine yV Tryz.func199 rfl trivial ((z4e x.t hl).mono fun r o hr=>hr.trans h) (.refl _) ?_;exact yR Tryz.func199 rfl trivial rfl
def ofT(x:Nd):TypeId:=if x.op=z1a then 190 else if x.op=kIte then 191 else if x.op=z1p then 192 else if x.op=kUext∨x.op=kSext then 193 else if x.a.length=1 then 196 else 197
def ofE:List (List UInt8×AV):=[(z1a,aI 190),(kIte,aI 191),(z1p,aI 192),(kUext,aI 193),(kSext,aI 193)]
theorem zor(op:List UInt8):MFind (strK op) (ofE.map fun p=>(strK p.1,p.2)) (z2m op ofE):=by
 have:=z7n op (fun i=>i) ofE;have e1:renEs (fun i=>i) (ofE.map fun p=>(strK p.1,p.2))=ofE.map fun p=>(strK p.1,p.2):=rfl
 have e2:(z2m op ofE).map (AV.ren fun i=>i)=z2m op ofE:=by
  cases h:z2m op ofE with
  | none=>rfl
  | some a=>
   have:∀es:List (List UInt8×AV),(∀p∈es,∃t,p.2=aI t)→z2m op es=some a→∃t,a=aI t:=by
    intro es;induction es with
    | nil=>intro _ h;cases h
    | cons p r ih=>
     intro h1 h2;simp only [z2m]at h2;split at h2
     ·cases h2;exact h1 p (List.mem_cons_self ..)
     ·exact ih (fun q hq=>h1 q (List.mem_cons_of_mem _ hq)) h2
   obtain⟨t,rfl⟩:=this ofE (by
    intro p hp;simp only [ofE,List.mem_cons,List.not_mem_nil,or_false]at hp;rcases hp with rfl|rfl|rfl|rfl|rfl<;>exact⟨_,rfl⟩) h
   rfl
 rw [e1,e2]at this;exact this
theorem zrp(x:Nd):ACall Tryz.prog 100 [.d (eNd x)] [] (fun r o=>r=aI (ofT x)):=by
 refine yN Tryz.func100 fun C hC hCl hDs hGk=>?_;refine yX 12 Tryz.func100 rfl trivial ?_;refine zk (es':=(ofE.take 1).map fun p=>(strK p.1,p.2)) tabOk rfl rfl rfl rfl rfl rfl rfl rfl rfl rfl rfl rfl (by kernel_rfl) ?_ ?_
 ·exact z10 (k:=z1a) (es:=ofE.take 0) (by intro p hp;revert p;decide)
 refine zt (env':=[(1,.ptr 0 0),(2,.d (.v .nilIface)),(6,.mp 1)]) (objs':=[some (bNd x),some (mpK (ofE.take 1))]) ?_ hC hCl ⟨⟨_,rfl,.refl _⟩,⟨_,rfl,.refl _⟩,⟨_,rfl,.refl _⟩,trivial⟩ ⟨.refl _,.refl _,trivial⟩ rfl rfl (Nat.zero_le _);refine yX 2 Tryz.func100 rfl trivial ?_;refine zk (es':=(ofE.take 2).map fun p=>(strK p.1,p.2)) tabOk rfl rfl rfl rfl rfl rfl rfl rfl rfl rfl rfl rfl (by kernel_rfl) ?_ ?_
 ·exact z10 (k:=kIte) (es:=ofE.take 1) (by intro p hp;revert p;decide)
 refine zt (env':=[(1,.ptr 0 0),(2,.d (.v .nilIface)),(6,.mp 1)]) (objs':=[some (bNd x),some (mpK (ofE.take 2))]) ?_ hC hCl ⟨⟨_,rfl,.refl _⟩,⟨_,rfl,.refl _⟩,⟨_,rfl,.refl _⟩,trivial⟩ ⟨.refl _,.refl _,trivial⟩ rfl rfl (Nat.zero_le _);refine yX 2 Tryz.func100 rfl trivial ?_;refine zk (es':=(ofE.take 3).map fun p=>(strK p.1,p.2)) tabOk rfl rfl rfl rfl rfl rfl rfl rfl rfl rfl rfl rfl (by kernel_rfl) ?_ ?_
 ·exact z10 (k:=z1p) (es:=ofE.take 2) (by intro p hp;revert p;decide)
 refine zt (env':=[(1,.ptr 0 0),(2,.d (.v .nilIface)),(6,.mp 1)]) (objs':=[some (bNd x),some (mpK (ofE.take 3))]) ?_ hC hCl ⟨⟨_,rfl,.refl _⟩,⟨_,rfl,.refl _⟩,⟨_,rfl,.refl _⟩,trivial⟩ ⟨.refl _,.refl _,trivial⟩ rfl rfl (Nat.zero_le _);refine yX 2 Tryz.func100 rfl trivial ?_;refine zk (es':=(ofE.take 4).map fun p=>(strK p.1,p.2)) tabOk rfl rfl rfl rfl rfl rfl rfl rfl rfl rfl rfl rfl (by kernel_rfl) ?_ ?_
 ·exact z10 (k:=kUext) (es:=ofE.take 3) (by intro p hp;revert p;decide)
 refine zt (env':=[(1,.ptr 0 0),(2,.d (.v .nilIface)),(6,.mp 1)]) (objs':=[some (bNd x),some (mpK (ofE.take 4))]) ?_ hC hCl ⟨⟨_,rfl,.refl _⟩,⟨_,rfl,.refl _⟩,⟨_,rfl,.refl _⟩,trivial⟩ ⟨.refl _,.refl _,trivial⟩ rfl rfl (Nat.zero_le _);refine yX 2 Tryz.func100 rfl trivial ?_;refine zk (es':=(ofE.take 5).map fun p=>(strK p.1,p.2)) tabOk rfl rfl rfl rfl rfl rfl rfl rfl rfl rfl rfl rfl (by kernel_rfl) ?_ ?_
 ·exact z10 (k:=kSext) (es:=ofE.take 4) (by intro p hp;revert p;decide)
 refine zt (env':=[(1,.ptr 0 0),(2,.d (.v .nilIface)),(6,.mp 1)]) (objs':=[some (bNd x),some (mpK (ofE.take 5))]) ?_ hC hCl ⟨⟨_,rfl,.refl _⟩,⟨_,rfl,.refl _⟩,⟨_,rfl,.refl _⟩,trivial⟩ ⟨.refl _,.refl _,trivial⟩ rfl rfl (Nat.zero_le _);refine yX 16 Tryz.func100 rfl trivial ?_;have hof:(z2m x.op ofE=some (aI (ofT x)))∨(z2m x.op ofE=none∧ofT x=if x.a.length=1 then 196 else 197):=by
  unfold ofT;by_cases h1:x.op=z1a
  ·rw [if_pos h1,h1];exact .inl rfl
  by_cases h2:x.op=kIte
  ·rw [if_neg h1,if_pos h2,h2];exact .inl rfl
  by_cases h3:x.op=z1p
  ·rw [if_neg h1,if_neg h2,if_pos h3,h3];exact .inl rfl
  by_cases h4:x.op=kUext
  ·rw [if_neg h1,if_neg h2,if_neg h3,if_pos (.inl h4),h4];exact .inl rfl
  by_cases h5:x.op=kSext
  ·rw [if_neg h1,if_neg h2,if_neg h3,if_pos (.inr h5),h5];exact .inl rfl
  rw [if_neg h1,if_neg h2,if_neg h3,if_neg (by rintro(h|h);exact h4 h;exact h5 h)];refine .inr ⟨?_,rfl⟩;rw [ofE,z19 h1,z19 h2,z19 h3,z19 h4,z19 h5];rfl
 have hfind:=zor x.op;rcases hof with h|⟨h,hT⟩
 ·rw [h]at hfind;refine z26 tabOk rfl rfl rfl rfl rfl rfl rfl rfl rfl rfl rfl rfl hfind rfl ?_;refine yT Tryz.func100 rfl trivial ?_;exact yR Tryz.func100 rfl trivial rfl
 ·rw [h]at hfind;refine z26 tabOk rfl rfl rfl rfl rfl rfl rfl rfl rfl rfl rfl rfl hfind rfl ?_;refine yF Tryz.func100 rfl trivial ?_;refine yB Tryz.func100 rfl trivial (fun g=>?_) (fun g=>?_)
  ·have g:((((x.a.map eI).length:Nat):Int)==1)=true:=g;rw [List.length_map]at g;refine yR Tryz.func100 rfl trivial ?_;rw [hT,if_pos (by have:=eq_of_beq g;omega)];rfl
  ·have g:((((x.a.map eI).length:Nat):Int)==1)=false:=g;rw [List.length_map]at g;refine yR Tryz.func100 rfl trivial ?_;rw [hT,if_neg (by rintro e;rw [e]at g;cases g)];rfl
def unV(op:List UInt8)(w x:Nat):Option (Nat×Nat):=
 if op=sNot then some (w,2^w-(x+1))
 else if op=sInc then some (w,(x+1)%2^w)
 else if op=sDec then some (w,(x+(2^w-1))%2^w)
 else if op=sNeg then some (w,(0+(2^w-(x+1))+1)%2^w)
 else if op=z62 then some (1,if onN w x=w then 1 else 0)
 else if op=z97 then some (1,if 0<onN w x then 1 else 0)
 else if op=z61 then some (1,if onN w x%2=1 then 1 else 0)
 else none
theorem zt1(op:List UInt8)(w x:Nat):unR op w x=rbinA (unV op w x):=by
 unfold unR unV;by_cases h1:op=sNot
 ·rw [if_pos h1,if_pos h1];rfl
 by_cases h2:op=sInc
 ·rw [if_neg h1,if_pos h2,if_neg h1,if_pos h2];rfl
 by_cases h3:op=sDec
 ·rw [if_neg h1,if_neg h2,if_pos h3,if_neg h1,if_neg h2,if_pos h3];rfl
 by_cases h4:op=sNeg
 ·rw [if_neg h1,if_neg h2,if_neg h3,if_pos h4,if_neg h1,if_neg h2,if_neg h3,if_pos h4];rfl
 by_cases h5:op=z62
 ·rw [if_neg h1,if_neg h2,if_neg h3,if_neg h4,if_pos h5,if_neg h1,if_neg h2,if_neg h3,if_neg h4,if_pos h5];rfl
 by_cases h6:op=z97
 ·rw [if_neg h1,if_neg h2,if_neg h3,if_neg h4,if_neg h5,if_pos h6,if_neg h1,if_neg h2,if_neg h3,if_neg h4,if_neg h5,if_pos h6];rfl
 by_cases h7:op=z61
 ·rw [if_neg h1,if_neg h2,if_neg h3,if_neg h4,if_neg h5,if_neg h6,if_pos h7,if_neg h1,if_neg h2,if_neg h3,if_neg h4,if_neg h5,if_neg h6,if_pos h7];rfl
 rw [if_neg h1,if_neg h2,if_neg h3,if_neg h4,if_neg h5,if_neg h6,if_neg h7,if_neg h1,if_neg h2,if_neg h3,if_neg h4,if_neg h5,if_neg h6,if_neg h7];rfl
def isRed(op:List UInt8):Prop:=op=z1z∨op=z2l∨op=z1y
def isCmp(op:List UInt8):Prop:=op=kEq∨op=kUlt∨op=kSlt
theorem zt0{op:List UInt8}{w x:Nat}{p:Nat×Nat}(hx:x<2^w)(h:unV op w x=some p):p.2<2^p.1∧((isRed op∧p.1=1)∨(¬isRed op∧p.1=w)):=by
 have hp:=Nat.two_pow_pos w;unfold unV at h;by_cases h1:op=sNot
 ·rw [if_pos h1]at h;cases h;subst h1;exact⟨by show _<2^w;omega,.inr ⟨by unfold isRed;decide,rfl⟩⟩
 by_cases h2:op=sInc
 ·rw [if_neg h1,if_pos h2]at h;cases h;subst h2;exact⟨Nat.mod_lt _ hp,.inr ⟨by unfold isRed;decide,rfl⟩⟩
 by_cases h3:op=sDec
 ·rw [if_neg h1,if_neg h2,if_pos h3]at h;cases h;subst h3;exact⟨Nat.mod_lt _ hp,.inr ⟨by unfold isRed;decide,rfl⟩⟩
 by_cases h4:op=sNeg
 ·rw [if_neg h1,if_neg h2,if_neg h3,if_pos h4]at h;cases h;subst h4;exact⟨Nat.mod_lt _ hp,.inr ⟨by unfold isRed;decide,rfl⟩⟩
 by_cases h5:op=z62
 ·rw [if_neg h1,if_neg h2,if_neg h3,if_neg h4,if_pos h5]at h;cases h;exact⟨by show(if _ then _ else _)<2^1;split<;>decide,.inl ⟨.inl h5,rfl⟩⟩
 by_cases h6:op=z97
 ·rw [if_neg h1,if_neg h2,if_neg h3,if_neg h4,if_neg h5,if_pos h6]at h;cases h;exact⟨by show(if _ then _ else _)<2^1;split<;>decide,.inl ⟨.inr (.inl h6),rfl⟩⟩
 by_cases h7:op=z61
 ·rw [if_neg h1,if_neg h2,if_neg h3,if_neg h4,if_neg h5,if_neg h6,if_pos h7]at h;cases h;exact⟨by show(if _ then _ else _)<2^1;split<;>decide,.inl ⟨.inr (.inr h7),rfl⟩⟩
 rw [if_neg h1,if_neg h2,if_neg h3,if_neg h4,if_neg h5,if_neg h6,if_neg h7]at h;cases h
theorem ztl{op:List UInt8}{w x y:Nat}{p:Nat×Nat}(h:binR op w x y=some p):(isCmp op∧p.1=1)∨(¬isCmp op∧p.1=w):=by
 by_cases hc:isCmp op
 ·refine .inl ⟨hc,?_⟩;rcases hc with rfl|rfl|rfl<;>(revert h;intro h;cases h;rfl)
 ·refine .inr ⟨hc,?_⟩;have n1:op≠sEq:=fun e=>hc (.inl e)
  have n2:op≠sUlt:=fun e=>hc (.inr (.inl e))
  have n3:op≠sSlt:=fun e=>hc (.inr (.inr e))
  unfold binR at h;rw [if_neg n1,if_neg n2,if_neg n3]at h;revert h;repeat' split
  all_goals (intro h;cases h)
  all_goals rfl
def opV(x:Nd)(a:List (Nat×Nat)):Nat×Nat:=
 if x.op=z1a then(x.t.length,mkN x.t)
 else if x.op=kIte then((a.getD 1 (0,0)).1,if(a.getD 0 (0,0)).2=1 then(a.getD 1 (0,0)).2 else(a.getD 2 (0,0)).2)
 else if x.op=z1p then((x.n.getD 0 0).toNat-(x.n.getD 1 0).toNat+1,slN (a.getD 0 (0,0)).2 (x.n.getD 1 0).toNat ((x.n.getD 0 0).toNat-(x.n.getD 1 0).toNat+1))
 else if x.op=kUext∨x.op=kSext then((a.getD 0 (0,0)).1+(x.n.getD 0 0).toNat,exN (a.getD 0 (0,0)).1 (a.getD 0 (0,0)).2 (x.n.getD 0 0).toNat (decide (x.op=kSext)&&(a.getD 0 (0,0)).2.testBit ((a.getD 0 (0,0)).1-1)))
 else if x.a.length=1 then(unV x.op (a.getD 0 (0,0)).1 (a.getD 0 (0,0)).2).getD (0,0)
 else if x.op=z1b then((a.getD 0 (0,0)).1+(a.getD 1 (0,0)).1,jnN (a.getD 0 (0,0)).1 (a.getD 0 (0,0)).2 (a.getD 1 (0,0)).1 (a.getD 1 (0,0)).2)
 else(binR x.op (a.getD 0 (0,0)).1 (a.getD 0 (0,0)).2 (a.getD 1 (0,0)).2).getD (0,0)
theorem zrz{op:List UInt8}(h:(formR op).2=true)(hv:isVal op=true)(h1:op≠z1a)(h2:op≠zy)(h3:op≠ze)(h4:op≠kIte)(h5:op≠z1p)(h6:op≠kUext)(h7:op≠kSext):
  ((formR op).1.count 97=1∧(∀w x,(unV op w x).isSome=true)∧∀k∈[kSort,zy,ze,z1a,kBad,zg,kInit,kNext,kEq,kUlt,kSlt,z1b,kIte,z1p,kUext,kSext],op≠k) ∨
  ((formR op).1.count 97=2∧(op=z1b∨(op≠z1b∧(∀w x y,(binR op w x y).isSome=true)∧∀k∈[kSort,zy,ze,z1a,kBad,zg,kInit,kNext,z1z,z2l,z1y,z1b,kIte,z1p,kUext,kSext],op≠k))):=by
 have key:∀p:List UInt8×Bool→Prop,p=(fun f=>f.2=true→((f.1.count 97=1∧(∀w x,(unV op w x).isSome=true)∧∀k∈[kSort,zy,ze,z1a,kBad,zg,kInit,kNext,kEq,kUlt,kSlt,z1b,kIte,z1p,kUext,kSext],op≠k) ∨
  (f.1.count 97=2∧(op=z1b∨(op≠z1b∧(∀w x y,(binR op w x y).isSome=true)∧∀k∈[kSort,zy,ze,z1a,kBad,zg,kInit,kNext,z1z,z2l,z1y,z1b,kIte,z1p,kUext,kSext],op≠k)))))→p (formR op):=by
  intro p hp;unfold formR;refine ite_P p (fun e=>by subst e;exact absurd hv (by decide)) fun _=>?_;refine ite_P p (fun e=>absurd e h1) fun _=>?_;refine ite_P p (fun e=>absurd e h2) fun _=>?_;refine ite_P p (fun e=>absurd e h3) fun _=>?_
  iterate 2 refine ite_P p (fun e=>by subst e;exact absurd hv (by decide)) fun _=>?_
  iterate 7 refine ite_P p (fun e=>by subst e;rw [hp];exact fun _=>.inl ⟨by decide,fun _ _=>rfl,by decide⟩) fun _=>?_
  iterate 2 refine ite_P p (fun e=>by subst e;exact absurd hv (by decide)) fun _=>?_
  iterate 14 refine ite_P p (fun e=>by subst e;rw [hp];exact fun _=>.inr ⟨by decide,.inr ⟨by decide,fun _ _ _=>rfl,by decide⟩⟩) fun _=>?_
  refine ite_P p (fun e=>by subst e;rw [hp];exact fun _=>.inr ⟨by decide,.inl rfl⟩) fun _=>?_;refine ite_P p (fun e=>absurd e h4) fun _=>?_;refine ite_P p (fun e=>absurd e h5) fun _=>?_;refine ite_P p (fun e=>absurd e h6) fun _=>?_;refine ite_P p (fun e=>absurd e h7) fun _=>?_;rw [hp];intro h;cases h
 exact key _ rfl h
@[reducible] def nm(l:List (Nat×Nat))(i:Nat):Nat×Nat:=l.getD i (0,0)
def zb3(op:List UInt8):Prop:=op=z1a∨op=kIte∨op=z1p∨op=kUext∨op=kSext
inductive OpRes(x:Nd):List (Nat×Nat)→Nat×Nat→Prop
 |const (h:x.op=z1a) (hm:mkok x.t=true):OpRes x [] (x.t.length,mkN x.t)
 |ite {c w y z:Nat} (h:x.op=kIte) (hc:c<2^1) (hy:y<2^w) (hz:z<2^w):OpRes x [(1,c),(w,y),(w,z)] (w,if c=1 then y else z)
 |slice {w y lo hi:Nat} (h:x.op=z1p) (hwb:w≤128) (h1:lo≤hi) (h2:hi<w) (hn:x.n.length=2) (e0:x.n.getD 0 0=hi) (e1:x.n.getD 1 0=lo):OpRes x [(w,y)] (hi-lo+1,slN y lo (hi-lo+1))
 |ext {w y n:Nat} (h:x.op=kUext∨x.op=kSext) (hw:0<w) (hwb:w≤128) (hnb:w+n≤128) (hy:y<2^w) (hn:x.n.length=1) (e0:x.n.getD 0 0=n):OpRes x [(w,y)] (w+n,exN w y n (decide (x.op=kSext)&&y.testBit (w-1)))
 |un {w y:Nat} {p:Nat×Nat} (h:¬zb3 x.op) (hal:x.a.length=1) (hw:0<w) (hwb:w≤128) (hy:y<2^w) (hp:unV x.op w y=some p):OpRes x [(w,y)] p
 |cat {w y v z:Nat} (h:x.op=z1b) (hal:x.a.length=2) (hw:0<w) (hv:0<v) (hb:w+v≤128) (hy:y<2^w) (hz:z<2^v):OpRes x [(w,y),(v,z)] (w+v,jnN w y v z)
 |bin {w y z:Nat} {p:Nat×Nat} (h:¬zb3 x.op) (h2:x.op≠z1b) (hal:x.a.length=2) (hw:0<w) (hwb:w≤128) (hy:y<2^w) (hz:z<2^w) (hp:binR x.op w y z=some p):OpRes x [(w,y),(w,z)] p
structure VOk(l:List Nd)(v:List (Nat×Nat))(n:Nat):Prop where
 len:v.length=n
 no:∀j,j<n→isVal (nd l j).op=false→nm v j=(0,0)
 yes:∀j,j<n→isVal (nd l j).op=true→((nm v j).1:Int)=wdN l (nd l j)∧(nm v j).2<2^(nm v j).1
theorem val_s{l:List Nd}(ty:Ty l){j:Nat}(hj:j<l.length)(hv:isVal (nd l j).op=true):0<(nd l j).s∧SortAt l (nd l j):=by
 have hk:=ty.node j hj;have h1:=z6h hv hk.known;have h2:=(hk.s1 h1).1;exact⟨by omega,(ty.ty.ln j hj).srt (by omega)⟩
theorem za3{l:List Nd}(ty:Ty l){j:Nat}(hj:j<l.length)(hv:isVal (nd l j).op=true):1≤wdN l (nd l j)∧wdN l (nd l j)≤128:=by
 have hk:=ty.node j hj;have h1:=z6h hv hk.known;refine wd_bd (i:=j) (fun q hq=>ty.node q (by omega)) (val_s ty hj hv).2 ?_;have:=(hk.s1 h1).2;omega
@[reducible] def takes(x:Nd)(v:List (Nat×Nat)):List (Nat×Nat):=x.a.map fun a=>nm v (a-1).toNat
theorem z7x(x:Nd)(v:List (Nat×Nat)):(takes x v).length=x.a.length:=by simp [takes]
theorem zej{x:Nd}{v:List (Nat×Nat)}{j:Nat}(h:j<x.a.length):nm (takes x v) j=nm v (x.a.getD j 0-1).toNat:=by
 simp [nm,takes,List.getD_eq_getElem?_getD,h]
theorem list1{α:Type}{d:α}{l:List α}(h:l.length=1):l=[l.getD 0 d]:=by
 match l,h with
 | [a],_=>rfl
theorem list2{α:Type}{d:α}{l:List α}(h:l.length=2):l=[l.getD 0 d,l.getD 1 d]:=by
 match l,h with
 | [a,b],_=>rfl
theorem list3{α:Type}{d:α}{l:List α}(h:l.length=3):l=[l.getD 0 d,l.getD 1 d,l.getD 2 d]:=by
 match l,h with
 | [a,b,c],_=>rfl
theorem sl_lt(y lo n:Nat):slN y lo n<2^n:=z6d _ _
theorem ex_lt(w y n:Nat)(b:Bool):exN w y n b<2^(w+n):=z6d _ _
theorem jn_lt(w y v z:Nat):jnN w y v z<2^(w+v):=z6d _ _
theorem mk_lt(t:List UInt8):mkN t<2^t.length:=z6d _ _
theorem zqh{l:List Nd}(ty:Ty l){i:Nat}(hi:i<l.length){v:List (Nat×Nat)}(hv:VOk l v i)(hx:isVal (nd l i).op=true)(h1:(nd l i).op≠ze)(h2:(nd l i).op≠zy):
  OpRes (nd l i) (takes (nd l i) v) (opV (nd l i) (takes (nd l i) v))∧((opV (nd l i) (takes (nd l i) v)).1:Int)=wdN l (nd l i)∧(opV (nd l i) (takes (nd l i) v)).2<2^(opV (nd l i) (takes (nd l i) v)).1:=by
 have hk:=ty.node i hi;have hln:=ty.ty.ln i hi;have hs:=(val_s ty hi hx).1;have hwd:=za3 ty hi hx;have hwof:wOf l (nd l i)=wdN l (nd l i):=by rw [wOf,if_pos hs]
 have hask:=hln.ask;generalize nd l i=x at *;have harg:∀j,j<x.a.length→((nm (takes x v) j).1:Int)=awN l x j∧(nm (takes x v) j).2<2^(nm (takes x v) j).1∧1≤awN l x j∧awN l x j≤128:=fun j hj=>by
  rw [zej hj];have hm:=z11 0 hj;have hab:=hk.ab _ hm;have hvl:=hln.val _ hm;have hb:=za3 ty (j:=(x.a.getD j 0-1).toNat) (by omega) hvl;exact⟨(hv.yes _ (by omega) hvl).1,(hv.yes _ (by omega) hvl).2,hb⟩
 have hal:=hk.al;have htl:=z7x x v;generalize takes x v=a at *;by_cases k1:x.op=z1a
 ·have h0:x.a.length=0:=by rw [hal,k1];decide
  have ha:a=[]:=List.length_eq_zero_iff.1 (by omega);have ht:=hk.txt (by rw [k1];decide);have hc:=hask.const k1;have e:opV x a=(x.t.length,mkN x.t):=by rw [opV,if_pos k1]
  rw [e,ha];exact⟨.const k1 ht,by show((x.t.length:Nat):Int)=_;omega,mk_lt _⟩
 by_cases k2:x.op=kIte
 ·have h0:x.a.length=3:=by rw [hal,k2];decide
  have ha:=list3 (d:=(0,0)) (htl.trans h0);obtain⟨c1,c2,c3⟩:=hask.ite k2;have a0:=harg 0 (by omega);have a1:=harg 1 (by omega);have a2:=harg 2 (by omega);have e:opV x a=((nm a 1).1,if(nm a 0).2=1 then(nm a 1).2 else(nm a 2).2):=by rw [opV,if_neg k1,if_pos k2]
  rw [e,ha];obtain⟨⟨w0,y0⟩,hp0⟩:∃p,nm a 0=p:=⟨_,rfl⟩
  obtain⟨⟨w1,y1⟩,hp1⟩:∃p,nm a 1=p:=⟨_,rfl⟩
  obtain⟨⟨w2,y2⟩,hp2⟩:∃p,nm a 2=p:=⟨_,rfl⟩
  have hp0':a.getD 0 (0,0)=(w0,y0):=hp0;have hp1':a.getD 1 (0,0)=(w1,y1):=hp1;have hp2':a.getD 2 (0,0)=(w2,y2):=hp2;rw [hp0]at a0;rw [hp1]at a1;rw [hp2]at a2;simp only at a0 a1 a2;obtain rfl:w0=1:=by omega
  obtain rfl:w2=w1:=by omega
  show OpRes x [a.getD 0 (0,0),a.getD 1 (0,0),a.getD 2 (0,0)] _∧_;rw [hp0',hp1',hp2'];refine⟨.ite k2 a0.2.1 a1.2.1 a2.2.1,by show((w2:Nat):Int)=_;omega,?_⟩;show(if y0=1 then y1 else y2)<2^w2;split
  ·exact a1.2.1
  ·exact a2.2.1
 by_cases k3:x.op=z1p
 ·have h0:x.a.length=1:=by rw [hal,k3];decide
  have hn:x.n.length=2:=by rw [hk.nl,k3];decide
  have ha:=list1 (d:=(0,0)) (htl.trans h0);obtain⟨c1,c2,c3⟩:=hask.slice k3;have a0:=harg 0 (by omega);have n0:=hk.nb _ (z11 (i:=0) (l:=x.n) 0 (by omega));have n1:=hk.nb _ (z11 (i:=1) (l:=x.n) 0 (by omega));have e:opV x a=((x.n.getD 0 0).toNat-(x.n.getD 1 0).toNat+1,slN (nm a 0).2 (x.n.getD 1 0).toNat ((x.n.getD 0 0).toNat-(x.n.getD 1 0).toNat+1)):=by rw [opV,if_neg k1,if_neg k2,if_pos k3]
  rw [e,ha];obtain⟨⟨w0,y0⟩,hp0⟩:∃p,nm a 0=p:=⟨_,rfl⟩
  have hp0':a.getD 0 (0,0)=(w0,y0):=hp0;rw [hp0]at a0;simp only at a0;show OpRes x [a.getD 0 (0,0)] _∧_;rw [hp0'];refine⟨.slice k3 (by omega) (by omega) (by omega) hn (by omega) (by omega),?_,sl_lt _ _ _⟩;show(((x.n.getD 0 0).toNat-(x.n.getD 1 0).toNat+1:Nat):Int)=_;omega
 by_cases k4:x.op=kUext∨x.op=kSext
 ·have h0:x.a.length=1:=by rcases k4 with k|k<;>rw [hal,k]<;>decide
  have hn:x.n.length=1:=by rcases k4 with k|k<;>rw [hk.nl,k]<;>decide
  have ha:=list1 (d:=(0,0)) (htl.trans h0);have c1:=hask.ext k4;have a0:=harg 0 (by omega);have n0:=hk.nb _ (z11 (i:=0) (l:=x.n) 0 (by omega));have e:opV x a=((nm a 0).1+(x.n.getD 0 0).toNat,exN (nm a 0).1 (nm a 0).2 (x.n.getD 0 0).toNat (decide (x.op=kSext)&&(nm a 0).2.testBit ((nm a 0).1-1))):=by rw [opV,if_neg k1,if_neg k2,if_neg k3,if_pos k4]
  rw [e,ha];obtain⟨⟨w0,y0⟩,hp0⟩:∃p,nm a 0=p:=⟨_,rfl⟩
  have hp0':a.getD 0 (0,0)=(w0,y0):=hp0;rw [hp0]at a0;simp only at a0;show OpRes x [a.getD 0 (0,0)] _∧_;rw [hp0'];refine⟨.ext k4 (by omega) (by omega) (by omega) a0.2.1 hn (by omega),?_,ex_lt _ _ _ _⟩;show((w0+(x.n.getD 0 0).toNat:Nat):Int)=_;omega
 have hsp:¬zb3 x.op:=by
  rintro(h|h|h|h|h)
  ·exact k1 h
  ·exact k2 h
  ·exact k3 h
  ·exact k4 (.inl h)
  ·exact k4 (.inr h)
 rcases zrz hk.known hx k1 h2 h1 k2 k3 (fun h=>k4 (.inl h)) (fun h=>k4 (.inr h))with⟨g1,g2,g3⟩|⟨g1,g2⟩
 ·have h0:x.a.length=1:=by rw [hal,g1]
  have ha:=list1 (d:=(0,0)) (htl.trans h0);have a0:=harg 0 (by omega);obtain⟨⟨w0,y0⟩,hp0⟩:∃p,nm a 0=p:=⟨_,rfl⟩
  have hp0':a.getD 0 (0,0)=(w0,y0):=hp0;rw [hp0]at a0;simp only at a0;have ha1:a=[(w0,y0)]:=by rw [ha,hp0']
  have hsome:=g2 w0 y0;cases hu:unV x.op w0 y0 with
  | none=>rw [hu]at hsome;cases hsome
  | some p=>
   have hok:=zt0 a0.2.1 hu;have e:opV x a=p:=by
    rw [opV,if_neg k1,if_neg k2,if_neg k3,if_neg k4,if_pos h0,hp0'];simp only;rw [hu];rfl
   rw [e,ha1];refine⟨.un hsp h0 (by omega) (by omega) a0.2.1 hu,?_,hok.1⟩;show((p.1:Nat):Int)=_;rcases hok.2 with⟨r1,r2⟩|⟨r1,r2⟩
   ·have:=hask.red r1;omega
   ·have hall:∀k∈[kSort,zy,ze,z1a,kBad,zg,kInit,kNext,z1z,z2l,z1y,kEq,kUlt,kSlt,z1b,kIte,z1p,kUext,kSext],x.op≠k:=by
     intro k hkm;by_cases hin:k∈[kSort,zy,ze,z1a,kBad,zg,kInit,kNext,kEq,kUlt,kSlt,z1b,kIte,z1p,kUext,kSext]
     ·exact g3 k hin
     ·intro ek;have:k=z1z∨k=z2l∨k=z1y:=by
       have key:∀k∈[kSort,zy,ze,z1a,kBad,zg,kInit,kNext,z1z,z2l,z1y,kEq,kUlt,kSlt,z1b,kIte,z1p,kUext,kSext],k∈[kSort,zy,ze,z1a,kBad,zg,kInit,kNext,kEq,kUlt,kSlt,z1b,kIte,z1p,kUext,kSext]∨(k=z1z∨k=z2l∨k=z1y):=by decide
       exact(key k hkm).resolve_left hin
      exact r1 (by rw [ek];exact this)
    have:=hask.dflt hall 0 (by omega);omega
 ·have h0:x.a.length=2:=by rw [hal,g1]
  have ha:=list2 (d:=(0,0)) (htl.trans h0);have a0:=harg 0 (by omega);have a1:=harg 1 (by omega);obtain⟨⟨w0,y0⟩,hp0⟩:∃p,nm a 0=p:=⟨_,rfl⟩
  obtain⟨⟨w1,y1⟩,hp1⟩:∃p,nm a 1=p:=⟨_,rfl⟩
  have hp0':a.getD 0 (0,0)=(w0,y0):=hp0;have hp1':a.getD 1 (0,0)=(w1,y1):=hp1;rw [hp0]at a0;rw [hp1]at a1;simp only at a0 a1;rcases g2 with g2|⟨g2,g3,g4⟩
  ·have e:opV x a=(w0+w1,jnN w0 y0 w1 y1):=by rw [opV,if_neg k1,if_neg k2,if_neg k3,if_neg k4,if_neg (by omega),if_pos g2,hp0',hp1']
   have hc:=hask.cat g2;rw [e];have ha2:a=[(w0,y0),(w1,y1)]:=by rw [ha,hp0',hp1']
   rw [ha2];refine⟨.cat g2 h0 (by omega) (by omega) (by omega) a0.2.1 a1.2.1,?_,jn_lt _ _ _ _⟩;show((w0+w1:Nat):Int)=_;omega
  ·have hsome:=g3 w0 y0 y1;cases hu:binR x.op w0 y0 y1 with
   | none=>rw [hu]at hsome;cases hsome
   | some p=>
    have e:opV x a=p:=by
     rw [opV,if_neg k1,if_neg k2,if_neg k3,if_neg k4,if_neg (by omega),if_neg g2,hp0',hp1'];simp only;rw [hu];rfl
    have hww:w1=w0∧((p.1:Nat):Int)=wdN l x:=by
     rcases ztl hu with⟨r1,r2⟩|⟨r1,r2⟩
     ·have:=hask.cmp r1;omega
     ·have hall:∀k∈[kSort,zy,ze,z1a,kBad,zg,kInit,kNext,z1z,z2l,z1y,kEq,kUlt,kSlt,z1b,kIte,z1p,kUext,kSext],x.op≠k:=by
       intro k hkm;by_cases hin:k∈[kSort,zy,ze,z1a,kBad,zg,kInit,kNext,z1z,z2l,z1y,z1b,kIte,z1p,kUext,kSext]
       ·exact g4 k hin
       ·intro ek;have:k=kEq∨k=kUlt∨k=kSlt:=by
         have key:∀k∈[kSort,zy,ze,z1a,kBad,zg,kInit,kNext,z1z,z2l,z1y,kEq,kUlt,kSlt,z1b,kIte,z1p,kUext,kSext],k∈[kSort,zy,ze,z1a,kBad,zg,kInit,kNext,z1z,z2l,z1y,z1b,kIte,z1p,kUext,kSext]∨(k=kEq∨k=kUlt∨k=kSlt):=by decide
         exact(key k hkm).resolve_left hin
        exact r1 (by rw [ek];exact this)
      have b0:=hask.dflt hall 0 (by omega);have b1:=hask.dflt hall 1 (by omega);omega
    obtain⟨rfl,hpw⟩:=hww;rw [e];have ha2:a=[(w1,y0),(w1,y1)]:=by rw [ha,hp0',hp1']
    rw [ha2];exact⟨.bin hsp g2 h0 (by omega) (by omega) a0.2.1 a1.2.1 hu,hpw,(zsp a0.2.1 a1.2.1 hu).1⟩
theorem zrq{x:Nd}(h:¬zb3 x.op)(ha:x.a.length=1):ofT x=196:=by
 unfold ofT;rw [if_neg fun e=>h (.inl e),if_neg fun e=>h (.inr (.inl e)),if_neg fun e=>h (.inr (.inr (.inl e))),if_neg fun e=>h (.inr (.inr (.inr e))),if_pos ha]
theorem zlq{x:Nd}(h:¬zb3 x.op)(ha:x.a.length=2):ofT x=197:=by
 unfold ofT;rw [if_neg fun e=>h (.inl e),if_neg fun e=>h (.inr (.inl e)),if_neg fun e=>h (.inr (.inr (.inl e))),if_neg fun e=>h (.inr (.inr (.inr e))),if_neg (by omega)]
theorem zpx{op:List UInt8}(h:op=z1b):¬zb3 op:=by
 subst h;unfold zb3;decide
theorem zoz{t:List UInt8}(h:mkok t=true):t.length≤128:=by
 simp only [mkok,Bool.and_eq_true,decide_eq_true_eq]at h;exact h.1.2
theorem zn4{x:Nd}{a:List (Nat×Nat)}{p:Nat×Nat}(h:OpRes x a p):
  ∃g fn c,Tryz.prog.funcs[g]?=some fn∧fn.body=some c∧(fn.name == "runtime.NumGoroutine")=false∧(∀w,(Go.method (Tryz.prog.types.size+Made.depth) (ofT x) (.agg #[]) "vidimus/word.value").run Tryz.prog w=.ok (g,.agg #[]) w) ∧
   ACall Tryz.prog g [aG0,.d (eNd x),.d (eNums a)] [] (fun r o=>r=tupOf [.d (vN p.1 p.2),vI .i64 0]):=by
 cases h with
 | const h hm=>
  refine⟨_,_,_,Tryz.func199,rfl,rfl,?_,zk1 x [] _ _ (Nat.le_trans (zoz hm) (by decide)) (by rw [mkR,if_pos hm])⟩;rw [show ofT x=190 by unfold ofT;rw [if_pos h]];exact zm0
 | ite h hc hy hz=>
  refine⟨_,_,_,Tryz.func200,rfl,rfl,?_,zm8 x _ _ _ _ hc⟩;rw [show ofT x=191 by unfold ofT;rw [if_neg (by rw [h];decide),if_pos h]];exact zp1
 | slice h hwb h1 h2 hn e0 e1=>
  refine⟨_,_,_,Tryz.func202,rfl,rfl,?_,zjc x _ _ _ _ hwb h1 h2 hn e0 e1⟩;rw [show ofT x=192 by unfold ofT;rw [if_neg (by rw [h];decide),if_neg (by rw [h];decide),if_pos h]];exact zly
 | ext h hw hwb hnb hy hn e0=>
  refine⟨_,_,_,Tryz.func206,rfl,rfl,?_,zje x _ _ _ _ hw hwb hnb hn e0 rfl⟩;rw [show ofT x=193 by unfold ofT;rw [if_neg (by rcases h with h|h<;>rw [h]<;>decide),if_neg (by rcases h with h|h<;>rw [h]<;>decide),if_neg (by rcases h with h|h<;>rw [h]<;>decide),if_pos h]];exact zlz
 | un h hal hw hwb hy hp=>
  refine⟨_,_,_,Tryz.func213,rfl,rfl,?_,zlm x _ _ _ _ ((ztn x.op _ _ hy hw hwb).mono fun r o hr=>?_)⟩
  ·rw [zrq h hal];exact zp0
  ·rw [hr,zt1,hp];rfl
 | cat h hal hw hv hb hy hz=>
  refine⟨_,_,_,Tryz.func233,rfl,rfl,?_,zef x _ _ _ _ _ _ ?_⟩
  ·rw [zlq (zpx h) hal];exact zi8
  ·rw [h];exact zsw _ _ _ _ hw hv (by omega) (by omega) hb
 | bin h h2 hal hw hwb hy hz hp=>
  refine⟨_,_,_,Tryz.func233,rfl,rfl,?_,zef x _ _ _ _ _ _ ((zsx x.op _ _ _ h2 hy hz hw hwb).mono fun r o hr=>?_)⟩
  ·rw [zlq h hal];exact zi8
  ·rw [hr,hp];rfl
end Go.Proofs.YtbodbhpdelgpnaaGreatDoor
namespace Ab
open Go
variable [Draws]
section
variable {P:Program}[Globals P]{T:Tab}{f:FuncId}{fn:Func}{n m:Nat}{C:Cx}{R:AV→List (Option AObj)→Prop}{env env' envF:Env}{objs objs':List (Option AObj)}{ops:Array Oper}{todo k:List Item}{nd:Prop}
theorem zb7{O:List Nat→List (Option AObj)}{j:Nat}{o:Oper}{E:Env}{a:AV}{c:Option Prop}(hT:TabOk P T)(hw:wantE ops (restr E (o.looksAt ops)) o=.yes)(hE:∀t∈o.looksAt ops,∀b,look E t=some b→look envF t=some b)
  (hs:∀L,j∉L→(∀q,zv ops j q=true→q∈L)→estep T o (restr E (o.looksAt ops)) (O L)=some ⟨c,true,a,none,O (j::L)⟩) (hc:cond c) (hdst:o.dst=none):HeadH P n C O m ops envF j o:=by
 intro L _ hjL hdeps _ π w tmps hsz hm hgk hlk;have he:z13 w (okOf C.X π (O L)) π (restr E (o.looksAt ops)) tmps:=fun t b ht=>by
  obtain⟨h1,h2⟩:=z12 ht;exact hlk t h1 b (hE t h1 b h2)
 have hst:=z3v (ds:=[]) hT hm he o;rw [hs L hjL hdeps]at hst;obtain⟨v,w',π',h1,h2,_⟩:=hst hc;refine .inr ⟨(zm he).1 hw,.inr (.inl ⟨w',π',h1,⟨h2.mem,fun hh=>hh.trans h2.hist,h2.keep⟩,fun d hd=>?_⟩)⟩;rw [hdst]at hd;cases hd
def boxO(ja js:Nat)(o1 o2:AObj)(L:List Nat):AObj:=if js∈L then o2 else if ja∈L then o1 else HD
@[reducible] def boxA(ja js:Nat)(d:Tmp)(p:Nat):Acts:=[(ja,some (d,.ptr p 0)),(js,none)]
theorem zc4(m ja js:Nat){d:Tmp}{t:TypeId}{r:TRow}{o2:AObj}{oa os:Oper}{E:Env}{a:AV}{c:Option Prop}{id:Nat}(hT:TabOk P T)(hf:P.funcs[f]?=some fn)(hmx:P.follows .mixedOrders=true)(h:srun T n fn.results.toList 2000 True todo env objs=.draw nd id ops k env' objs')(hn:nd)
  (hB:drawZ ops m=true) (hsee:seeB ops m (boxA ja js d objs'.length)=true) (hja:Nat.blt ja m=true) (hjs:Nat.blt js m=true) (hne:Nat.beq ja js=false) (hwt:zv ops js ja=true) (hpl:C.π.length≤objs'.length)
  (hoa:ops[ja]?=some oa) (hop:oa.op=.alloc t) (hg:oa.guard=none) (hr:tlook T t=some r) (hdst:oa.dst=some d) (hdn:Nat.blt d n=true)
  (hD:∀x,DSat P n C.X (objs'++[some x]) ops (fun e=>e=E) (zx ops m (boxA ja js d objs'.length)) env')
  (hos:ops[js]?=some os) (hsd:os.dst=none) (hws:wantE ops (restr ((d,.ptr objs'.length 0)::E) (os.looksAt ops)) os=.yes)
  (hs:estep T os (restr ((d,.ptr objs'.length 0)::E) (os.looksAt ops)) (objs'++[some (.cells t (r.zero.map fun v=>.d (.v v)))])=some ⟨c,true,a,none,objs'++[some o2]⟩) (hc:cond c)
  (hk:ASat P f n C (.inRegion ops (List.range' m (ops.size-m))::k) ((d,.ptr objs'.length 0)::E) (objs'++[some o2]) R) (hGk:GOk P C.π C.objs C.w:=by with_reducible assumption):ASat P f n C todo env objs R:=by
 have hne:ja≠js:=Nat.ne_of_beq_eq_false hne;have hnth:∀x:AObj,nth (objs'++[some x]) objs'.length=some (some x):=fun x=>by rw [z1k];simp
 have hset:∀x y:AObj,za (objs'++[some x]) objs'.length (some y)=objs'++[some y]:=fun x y=>by rw [z1t];simp
 refine z50 m 1 (boxA ja js d objs'.length) (fun L=>objs'++[some (boxO ja js (.cells t (r.zero.map fun v=>.d (.v v))) o2 L)]) E (objsF:=objs'++[some o2]) hT hf hmx h hn hB hsee (by simp [boxO]) (fun L hL=>?_) (fun j L hj=>?_) ?_ (fun L=>hD _) ?_ hk
 ·rw [boxO,if_pos (hL js (by simpa [Nat.blt_eq]using hjs))]
 ·simp only [actB,boxA,List.any_cons,List.any_nil,Bool.or_false,Bool.or_eq_false_iff]at hj;have n1:=Nat.ne_of_beq_eq_false hj.1;have n2:=Nat.ne_of_beq_eq_false hj.2;simp only [boxO,List.mem_cons,n1,n2,false_or]
 ·simp [hja,hjs]
 ·refine List.forall_mem_cons.2 ⟨⟨oa,hoa,hdst,?_⟩,List.forall_mem_cons.2 ⟨⟨os,hos,hsd,?_⟩,fun x h=>by cases h⟩⟩
  ·refine z6i (p:=objs'.length) hT hop hg hr hdst hdn ?_ hpl (fun L hL hcl=>?_) (fun L hL hcl=>?_)
   ·show look ((d,_)::E) d=_;simp [look]
   ·have hjsL:js∉L:=fun h=>hL (hcl js h ja hwt)
    simp only [boxO,if_neg hjsL,if_neg hL];exact hnth _
   ·have hjsL:js∉L:=fun h=>hL (hcl js h ja hwt)
    have hjs2:js∉ja::L:=by simp only [List.mem_cons,not_or];exact⟨fun e=>hne e.symm,hjsL⟩
    simp only [boxO,if_neg hjs2,if_neg hjsL,if_neg hL];rw [if_pos (List.mem_cons_self ..)];exact(hset _ _).symm
  ·refine zb7 (a:=a) hT hws (fun _ _ _ h=>h) (fun L hL hq=>?_) hc hsd;have hjaL:=hq ja hwt;simp only [boxO,if_neg hL,if_pos hjaL,List.mem_cons,true_or,if_true];exact hs
theorem z7g{α:Type}:∀{l:List α} {p:Nat} {x:α},nth l p=some x→za l p x=l
 | [],_,_,_=>rfl
 | _::_,0,_,h=>by simp only [nth,Option.some.injEq]at h;subst h;rfl
 | _::_,p+1,_,h=>by simp only [za];rw [z7g (by simpa only [nth]using h)]
theorem z3w(m js p:Nat){o1 o2:AObj}{os:Oper}{E:Env}{a:AV}{c:Option Prop}{id:Nat}(hT:TabOk P T)(hf:P.funcs[f]?=some fn)(hmx:P.follows .mixedOrders=true)(h:srun T n fn.results.toList 2000 True todo env objs=.draw nd id ops k env' objs')(hn:nd)
  (hB:drawZ ops m=true) (hsee:seeB ops m [(js,none)]=true) (hjs:Nat.blt js m=true) (ho:nth objs' p=some (some o1))
  (hD:∀x,DSat P n C.X (za objs' p (some x)) ops (fun e=>e=E) (zx ops m [(js,none)]) env')
  (hos:ops[js]?=some os) (hsd:os.dst=none) (hws:wantE ops (restr E (os.looksAt ops)) os=.yes)
  (hs:estep T os (restr E (os.looksAt ops)) objs'=some ⟨c,true,a,none,za objs' p (some o2)⟩) (hc:cond c)
  (hk:ASat P f n C (.inRegion ops (List.range' m (ops.size-m))::k) E (za objs' p (some o2)) R) (hGk:GOk P C.π C.objs C.w:=by with_reducible assumption):ASat P f n C todo env objs R:=by
 refine z50 m 0 [(js,none)] (fun L=>za objs' p (some (if js∈L then o2 else o1))) E (objsF:=za objs' p (some o2)) hT hf hmx h hn hB hsee (by simp [z7g ho]) (fun L hL=>?_) (fun j L hj=>?_) ?_ (fun L=>hD _) ?_ hk
 ·rw [if_pos (hL js (by simpa [Nat.blt_eq]using hjs))]
 ·simp only [actB,List.any_cons,List.any_nil,Bool.or_false]at hj;have n1:=Nat.ne_of_beq_eq_false hj;simp only [List.mem_cons,n1,false_or]
 ·simp [hjs]
 ·refine List.forall_mem_cons.2 ⟨⟨os,hos,hsd,?_⟩,fun x h=>by cases h⟩;refine zck (a:=a) hT hws (fun _ _ _ h=>h) (fun L hL=>?_) hc hsd;simp only [if_neg hL,List.mem_cons,true_or,if_true];rw [z7g ho];exact hs
end
end Ab
namespace Go.Proofs.YtbodbhpdelgpnaaGreatDoor
open Go Ab
@[reducible] def Vr:=Int×List Nat×Unit
@[reducible] def eVr(a:Vr):D:=.ag [eI a.1,eUs a.2.1]
@[reducible] def eRow(l:List Vr):D:=eL 2 eVr (0,[],()) l
def vr(p:Nat×Nat):Vr:=((p.1:Int),lmb (z6 p.1) p.2,())
def QVr(a:Vr):Prop:=lims a.2.1∧a.2.1.length≤maxLen
def zc8(a:Vr):Bool:=z83 a.1 a.2.1
theorem getD_map'{α β:Type}(f:α→β)(d:α)(l:List α)(i:Nat):(l.map f).getD i (f d)=f (l.getD i d):=by
 rw [List.getD_eq_getElem?_getD,List.getD_eq_getElem?_getD,List.getElem?_map];cases l[i]?<;>rfl
theorem z5r{α:Type}{d:α}{l:List α}{i:Nat}(h:i<l.length):l.getD i d=l[i]:=by
 rw [List.getD_eq_getElem?_getD,List.getElem?_eq_getElem h];rfl
theorem zfp(l:List (Nat×Nat)):eRow (l.map vr)=eNums l:=by
 show D.sl 2 ((l.map vr).map eVr) (fun i=>eVr ((l.map vr).getD i (0,[],())))=D.sl 2 (l.map fun p:Nat×Nat=>vN p.1 p.2) (fun i=>vN (l.getD i (0,0)).1 (l.getD i (0,0)).2);rw [List.map_map];congr 1;funext i;rw [show((0,[],()):Vr)=vr (0,0)from rfl,getD_map'];rfl
theorem zgc{p:Nat×Nat}(h1:1≤p.1)(h2:p.1≤128)(h3:p.2<2^p.1):zc8 (vr p)=true:=zf0 h1 h2 h3
theorem zto{p:Nat×Nat}(h:p.1≤1000000):QVr (vr p):=⟨z14 _ _,by show(lmb _ _).length≤_;rw [zr];unfold z6 maxLen;omega⟩
def fitAt(l:List Nd)(al:List Int)(r:List Vr)(i:Nat):Bool:=zc8 (r.getD i (0,[],()))&&decide ((r.getD i (0,[],())).1=wdN l (ln l (al.getD i 0)))
def fitB(l:List Nd)(op:List UInt8)(r:List Vr):Bool:=decide ((allL l op l.length).length=r.length)&&(List.range r.length).all (fitAt l (allL l op l.length) r)
structure Fit(l:List Nd)(op:List UInt8)(v:List (Nat×Nat)):Prop where
 len:v.length=(allL l op l.length).length
 at_:∀i,i<v.length→((nm v i).1:Int)=wdN l (ln l ((allL l op l.length).getD i 0))∧(nm v i).2<2^(nm v i).1∧1≤(nm v i).1∧(nm v i).1≤128
theorem zqp{l:List Nd}{op:List UInt8}{v:List (Nat×Nat)}(h:Fit l op v):fitB l op (v.map vr)=true:=by
 simp only [fitB,Bool.and_eq_true,decide_eq_true_eq,List.all_eq_true,List.mem_range,List.length_map];refine⟨h.len.symm,fun i hi=>?_⟩;obtain⟨h1,h2,h3,h4⟩:=h.at_ i hi;have e:(v.map vr).getD i (0,[],())=vr (nm v i):=getD_map' vr (0,0) v i;rw [fitAt,e,Bool.and_eq_true,decide_eq_true_eq];exact⟨zgc h3 h4 h2,h1⟩
theorem zix{l:List Nd}(ty:Ty l){op:List UInt8}(ho:isVal op=true){i:Nat}(hi:i<(allL l op l.length).length):1≤(allL l op l.length).getD i 0∧(allL l op l.length).getD i 0≤l.length∧isVal (ln l ((allL l op l.length).getD i 0)).op=true:=by
 obtain⟨h1,h2,h3⟩:=z88 (z11 0 hi);exact⟨h1,h2,by rw [h3];exact ho⟩
theorem wL_at{l:List Nd}{a:Int}(h1:1≤a)(h2:a≤l.length)(hv:isVal (ln l a).op=true):(wL l l.length).getD (a-1).toNat 0=wdN l (ln l a):=by
 rw [zkf (by omega),wN,if_pos hv]
theorem zfm(l:List Nd)(ty:Ty l)(op:List UInt8)(ho:isVal op=true)(r:List Vr)(hq:∀a∈r,QVr a):ACall Tryz.prog 99 [.d (eBt l),.d (eIs (wL l l.length)),vSL op,.d (eRow r)] [] (fun x o=>x=vB (fitB l op r)):=by
 refine yN Tryz.func99 fun C hC hCl hDs hGk=>?_;have hl:=ty.small;have hall:=@zix l ty op ho;refine yV Tryz.func99 rfl trivial (z44 l op hl) (.refl _) ?_;have hal:=z1s l op l.length;unfold fitB;generalize allL l op l.length=al at *;refine yB Tryz.func99 rfl trivial (fun h=>?_) (fun h=>?_)
 ·have h:(((al.map eI).length:Int) !=((r.map eVr).length:Int))=true:=h;have h':al.length≠r.length:=fun e=>by simp [e]at h
  refine yR Tryz.func99 rfl trivial ?_;rw [decide_eq_false h',Bool.false_and];rfl
 have h:(((al.map eI).length:Int) !=((r.map eVr).length:Int))=false:=h;have hlen:al.length=r.length:=by simp at h;omega
 refine yS Tryz.func99 rfl trivial ?_;refine z8 (α:=Nat) (fun i=>[(1,.d (eIs (wL l l.length))),(3,.d (eRow r)),(20,.d (eIs al)),(21,vI .i64 (al.length:Int)),(22,vI .i64 (i:Int))]) (fun i=>[some (bBt l)]) (fun i=>i≤al.length∧∀q,q<i→fitAt l al r q=true) (fun i=>al.length-i) 0 ⟨Nat.zero_le _,fun q hq=>by omega⟩ ?_ ?_
 ·exact fun h=>yE h ⟨erl rfl,erl rfl,erl rfl,⟨_,rfl,.of (by rw [List.length_map])⟩,erl rfl,trivial⟩ (oAl rfl)
 rintro i ⟨hi,hall2⟩ ih;refine yB Tryz.func99 rfl trivial (fun hb=>?_) (fun hb=>?_)<;>simp only [decide_eq_true_eq,decide_eq_false_iff_not]at hb
 ·have hlt:i<al.length:=by omega
  have ha:=hall hlt;have hm:r.getD i (0,[],())∈r:=z11 _ (by omega);have e1:IntKind.i64.wrap (al.getD i 0-1)=al.getD i 0-1:=z7 (by omega) (by omega);refine yO 17 Tryz.func99 rfl (by simp [andP]<;>omega) ?_;refine yQ Tryz.func137 rfl (by simp [andP]<;>omega) (zk5 (r.getD i (0,[],())).1 (r.getD i (0,[],())).2.1 (hq _ hm).1 (hq _ hm).2) (.refl _) ?_;have hnext:fitAt l al r i=true→∀q,q<i+1→fitAt l al r q=true:=fun h q hq=>by
   rcases Nat.lt_or_ge q i with h2|h2
   ·exact hall2 q h2
   ·obtain rfl:q=i:=by omega
    exact h
  have hno:fitAt l al r i=false→(decide (al.length=r.length)&&(List.range r.length).all (fitAt l al r))=false:=fun h=>by
   rw [Bool.and_eq_false_iff];refine .inr (List.all_eq_false.2 ⟨i,List.mem_range.2 (by omega),by rw [h];decide⟩)
  refine yb rfl trivial (fun h1=>?_) (fun h1=>?_)
  ·have h1:(!zc8 (r.getD i (0,[],())))=true:=h1;refine yq rfl trivial ?_;refine yT Tryz.func99 rfl trivial ?_;refine yR Tryz.func99 rfl trivial ?_;rw [hno (by rw [fitAt,show zc8 (r.getD i (0,[],()))=false by simpa using h1];rfl)];rfl
  ·have h1:(!zc8 (r.getD i (0,[],())))=false:=h1;have h1:zc8 (r.getD i (0,[],()))=true:=by simpa using h1
   refine yq rfl ?_ ?_
   ·simp only [Int.toNat_natCast,e1,List.length_map,z95];exact⟨⟨by omega,by omega⟩,⟨by omega,by omega⟩,trivial⟩
   refine yB Tryz.func99 rfl trivial (fun h2=>?_) (fun h2=>?_)
   ·have h2:((r.getD i (0,[],())).1 !=(wL l l.length).getD (IntKind.i64.wrap (al.getD i 0-1)).toNat 0)=true:=h2;rw [e1,wL_at ha.1 ha.2.1 ha.2.2]at h2;refine yR Tryz.func99 rfl trivial ?_;rw [hno (by rw [fitAt,h1,Bool.true_and];exact decide_eq_false (by simpa using h2))];rfl
   ·have h2:((r.getD i (0,[],())).1 !=(wL l l.length).getD (IntKind.i64.wrap (al.getD i 0-1)).toNat 0)=false:=h2;rw [e1,wL_at ha.1 ha.2.1 ha.2.2]at h2;refine yS Tryz.func99 rfl trivial ?_;refine yE (ih (i+1) ⟨by omega,hnext ?_⟩ (by omega)) ⟨erl rfl,erl rfl,erl rfl,erl rfl,erw rfl,trivial⟩ (oAl rfl);rw [fitAt,h1,Bool.true_and];exact decide_eq_true (by simpa using h2)
 ·obtain rfl:i=al.length:=by omega
  refine yR Tryz.func99 rfl trivial ?_;have:(decide (al.length=r.length)&&(List.range r.length).all (fitAt l al r))=true:=by
   rw [decide_eq_true hlen,Bool.true_and,List.all_eq_true];exact fun q hq=>hall2 q (by rw [hlen];exact List.mem_range.1 hq)
  rw [this];rfl
@[reducible] def gNums(v:List (Nat×Nat)):AObj:=gL 118 2 (fun p:Nat×Nat=>vN p.1 p.2) (0,0) v
@[reducible] def zVc:AObj:=.cells 118 [.d (eI 0),.d (.v (.slice none 0 0))]
theorem ztm{v:List (Nat×Nat)}{i j:Int}{q:Nat×Nat}(e:i=j)(n:v.getD j.toNat (0,0)=q):AV.d (vN (v.getD i.toNat (0,0)).1 (v.getD i.toNat (0,0)).2)=AV.d (vN q.1 q.2):=by
 subst e;rw [n]
def cnt(l:List Nd)(op:List UInt8)(n:Nat):Nat:=(allL l op n).length
def val1(l:List Nd)(st inp:List (Nat×Nat))(n:Nat)(v:List (Nat×Nat)):Nat×Nat:=
 if isVal (nd l n).op=false then(0,0)
 else if(nd l n).op=ze then nm st (cnt l ze n)
 else if(nd l n).op=zy then nm inp (cnt l zy n)
 else opV (nd l n) (takes (nd l n) v)
def valL(l:List Nd)(st inp:List (Nat×Nat)):Nat→List (Nat×Nat)
 | 0=>[]
 | n+1=>valL l st inp n++[val1 l st inp n (valL l st inp n)]
theorem z91(l:List Nd)(op:List UInt8)(n:Nat):∀k,∃r,allL l op (n+k)=allL l op n++r
 | 0=>⟨[],by simp⟩
 | k+1=>by
  obtain⟨r,h⟩:=z91 l op n k;rw [←Nat.add_assoc,z4d,h];exact⟨_,List.append_assoc ..⟩
theorem z4o(l:List Nd)(op:List UInt8)(n:Nat):cnt l op (n+1)=cnt l op n+if(nd l n).op=op then 1 else 0:=by
 unfold cnt;rw [z4d,List.length_append];split<;>rfl
theorem ztj{l:List Nd}{op:List UInt8}{n m:Nat}(h:n<m)(ho:(nd l n).op=op):cnt l op n<cnt l op m∧(allL l op m).getD (cnt l op n) 0=(n:Int)+1:=by
 obtain⟨r,hr⟩:=z91 l op (n+1) (m-(n+1));rw [show n+1+(m-(n+1))=m by omega,z4d,if_pos ho,List.append_assoc]at hr;unfold cnt;rw [hr];constructor
 ·simp
 ·simp [List.getD_eq_getElem?_getD,List.getElem?_append_right]
theorem cnt_le{l:List Nd}{op:List UInt8}{n m:Nat}(h:n≤m):cnt l op n≤cnt l op m:=by
 obtain⟨r,hr⟩:=z91 l op n (m-n);rw [show n+(m-n)=m by omega]at hr;unfold cnt;rw [hr,List.length_append];omega
theorem zrx(l:List Nd)(n:Nat):ln l ((n:Int)+1)=nd l n:=by
 show l.getD ((n:Int)+1-1).toNat default=l.getD n default;rw [show((n:Int)+1-1).toNat=n by omega]
theorem zik{l:List Nd}{op:List UInt8}{v:List (Nat×Nat)}(h:Fit l op v){n:Nat}(hn:n<l.length)(ho:(nd l n).op=op):
  cnt l op n<v.length∧((nm v (cnt l op n)).1:Int)=wdN l (nd l n)∧(nm v (cnt l op n)).2<2^(nm v (cnt l op n)).1:=by
 obtain⟨h1,h2⟩:=ztj hn ho;have h3:cnt l op n<v.length:=by rw [h.len];exact h1
 obtain⟨h4,h5,_⟩:=h.at_ _ h3;rw [h2,zrx]at h4;exact⟨h3,h4,h5⟩
theorem z9m(l:List Nd)(st inp:List (Nat×Nat)):∀n,(valL l st inp n).length=n
 | 0=>rfl
 | n+1=>by rw [valL,List.length_append,z9m l st inp n];rfl
theorem zt8{a:List (Nat×Nat)}{x:Nat×Nat}{n:Nat}(ha:a.length=n):(∀j,j<n→nm (a++[x]) j=nm a j)∧nm (a++[x]) n=x:=by
 subst ha;constructor
 ·intro j hj;simp [nm,List.getD_eq_getElem?_getD,List.getElem?_append_left hj]
 ·simp [nm,List.getD_eq_getElem?_getD]
theorem zcz{l:List Nd}(ty:Ty l){st inp:List (Nat×Nat)}(hs:Fit l ze st)(hi:Fit l zy inp):∀n,n≤l.length→VOk l (valL l st inp n) n
 | 0,_=>⟨rfl,fun j hj=>by omega,fun j hj=>by omega⟩
 | n+1,hn=>by
  have ih:=zcz ty hs hi n (by omega);obtain⟨a1,a2⟩:=zt8 (x:=val1 l st inp n (valL l st inp n)) ih.len;refine⟨z9m _ _ _ _,fun j hj hv=>?_,fun j hj hv=>?_⟩
  ·rcases Nat.lt_or_ge j n with h|h
   ·rw [valL,a1 j h];exact ih.no j h hv
   ·obtain rfl:j=n:=by omega
    rw [valL,a2,val1,if_pos hv]
  ·rcases Nat.lt_or_ge j n with h|h
   ·rw [valL,a1 j h];exact ih.yes j h hv
   ·obtain rfl:j=n:=by omega
    rw [valL,a2,val1,if_neg (by rw [hv];decide)];by_cases h1:(nd l j).op=ze
    ·rw [if_pos h1];exact(zik hs (by omega) h1).2
    ·by_cases h2:(nd l j).op=zy
     ·rw [if_neg h1,if_pos h2];exact(zik hi (by omega) h2).2
     ·rw [if_neg h1,if_neg h2];exact(zqh ty (by omega) ih hv h1 h2).2
theorem zr4{l:List Nd}(ty:Ty l){n:Nat}(hn:n<l.length):decide (wN l (nd l n)=0)=!isVal (nd l n).op:=by
 unfold wN;cases h:isVal (nd l n).op with
 | false=>simp
 | true=>
  have:=(za3 ty hn h).1;rw [if_pos rfl];exact decide_eq_false (by omega)
@[reducible] def vO(st:List (Nat×Nat))(c:Nat):D:=eNums (st.drop c)
theorem zn3(st:List (Nat×Nat))(c:Nat)(rd:Nat→D):VLe (.d (.sl 2 ((((st.drop c).map fun p:Nat×Nat=>vN p.1 p.2).drop (Int.toNat 1)).take ((((st.drop c).map fun p:Nat×Nat=>vN p.1 p.2).length:Int)-1).toNat) rd)) (.d (vO st (c+1))):=by
 refine VLe.sl ?_ (z4m (fun p:Nat×Nat=>vN p.1 p.2) (0,0) _);rw [show Int.toNat 1=1 from rfl,List.take_of_length_le (by rw [List.length_drop];omega),←List.map_drop,List.drop_drop]
theorem zlv(st:List (Nat×Nat))(c:Nat):nm (st.drop c) 0=nm st c:=by simp [nm,List.getD_eq_getElem?_getD]
theorem fitQ{l:List Nd}{op:List UInt8}{v:List (Nat×Nat)}(h:Fit l op v):∀a∈v.map vr,QVr a:=by
 intro a ha;obtain⟨p,hp,rfl⟩:=List.mem_map.1 ha;obtain⟨i,hi,rfl⟩:=List.getElem_of_mem hp;have:=(h.at_ i hi).2.2.2;rw [show nm v i=v[i]by simp [nm,hi]]at this;exact zto (by omega)
theorem zo4(l:List Nd)(st inp:List (Nat×Nat))(n:Nat):(valL l st inp (n+1)).map (fun p:Nat×Nat=>vN p.1 p.2)=(valL l st inp n).map (fun p:Nat×Nat=>vN p.1 p.2)++[vN (val1 l st inp n (valL l st inp n)).1 (val1 l st inp n (valL l st inp n)).2]:=by
 rw [valL,List.map_append];rfl
theorem zqz:CLe z24 (vN 0 0):=by
 intro w ok us h;cases h with|cons h1 f1 t=>
 cases t with|cons h2 f2 t=>
 cases t;cases h2;exact .cons h1 f1 (.cons (.nil (Nat.zero_le _)) f2 .nil)
theorem zj4{x:Nd}{v:List (Nat×Nat)}{j:Nat}(h:j<x.a.length):(takes x v).take (j+1)=(takes x v).take j++[nm v (x.a.getD j 0-1).toNat]:=by
 have h2:j<(takes x v).length:=by rw [z7x];exact h
 rw [List.take_succ_eq_append_getElem h2,←zej h,←z5r (d:=(0,0)) h2]
theorem znq(l:List Nd)(hm:MdB l)(ty:Ty l)(st inp:List (Nat×Nat))(hs:Fit l ze st)(hi:Fit l zy inp):ACall Tryz.prog 73 [.d (eBt l),.d (eNums st),.d (eNums inp)] [] (fun r o=>r=tupOf [.d (eNums (valL l st inp l.length)),vI .i64 0]):=by
 refine yN Tryz.func73 fun C hC hCl hDs hGk=>?_;have hl:=ty.small;have f1:=zfm l ty ze rfl (st.map vr) (fitQ hs);have f2:=zfm l ty zy rfl (inp.map vr) (fitQ hi);rw [zfp,zqp hs]at f1;rw [zfp,zqp hi]at f2;refine yV Tryz.func73 rfl trivial (z96 l hm ty) (.refl _) ?_;refine yV Tryz.func73 rfl trivial f1 (.refl _) ?_;refine yF Tryz.func73 rfl trivial ?_;refine yV Tryz.func73 rfl trivial f2 (.refl _) ?_;refine yF Tryz.func73 rfl trivial ?_;refine yS Tryz.func73 rfl ?nd ?_;case nd=>
  show(0≤(0:Int)∧(0:Int)≤((l.map eNd).length:Int)∧((l.map eNd).length:Int)*32≤281474976710656)∧True;rw [List.length_map];exact⟨⟨by decide,by omega,by omega⟩,trivial⟩
 refine z8 (α:=Nat) (fun n=>[(8,.d (eIs (wL l l.length))),(1,.d (vO st (cnt l ze n))),(2,.d (vO inp (cnt l zy n))),(3,.ptr 0 0),(11,.gs 1),(41,.d (eNds l)),(42,vI .i64 (l.length:Int)),(43,vI .i64 (n:Int))])
  (fun n=>[some (bBt l),some (gNums (valL l st inp n))]) (fun n=>n≤l.length) (fun n=>l.length-n) 0 (Nat.zero_le _) ?_ ?_
 ·exact fun h=>yE h ⟨erl rfl,erl rfl,erl rfl,erl rfl,erl rfl,erl rfl,⟨_,rfl,.of (by rw [List.length_map])⟩,erl rfl,trivial⟩ ⟨.refl _,.gL rfl,trivial⟩
 rintro n hn ih;refine yB Tryz.func73 rfl trivial (fun hb=>?_) (fun hb=>?_)<;>simp only [decide_eq_true_eq,decide_eq_false_iff_not]at hb
 ·have hlt:n<l.length:=by omega
  have hv:=zcz ty hs hi n hn;have next:∀(y:D) (v1:Nat×Nat),val1 l st inp n (valL l st inp n)=v1→CLe y (vN v1.1 v1.2)→OLe (.grow 118 2 ((valL l st inp n).map (fun p:Nat×Nat=>vN p.1 p.2)++[y]) (catRd ((valL l st inp n).map (fun p:Nat×Nat=>vN p.1 p.2)).length (fun i=>vN ((valL l st inp n).getD i (0,0)).1 ((valL l st inp n).getD i (0,0)).2) (litRd [y]))) (gNums (valL l st inp (n+1))):=by
   intro y v1 hv1 hle;refine OLe.gL_c ?_;rw [zo4,hv1];exact CLes.append (CLes.refl _) ⟨hle,trivial⟩
  have hwz:=zr4 ty hlt;have hwg:(wL l l.length).getD n 0=wN l (nd l n):=zkf hlt;have room:∀a:D,(((valL l st inp n).map (fun p:Nat×Nat=>vN p.1 p.2)).length+[a].length)*32≤140737488355328∧True:=fun a=>by
   rw [List.length_map,z9m];exact⟨by show(n+1)*32≤_;omega,trivial⟩
  refine yB Tryz.func73 rfl (by simp [andP,z95]<;>omega) (fun h1=>?_) (fun h1=>?_)
  ·have h1:((wL l l.length).getD n 0==0)=true:=h1;rw [hwg,beqI,hwz]at h1;have h1:isVal (nd l n).op=false:=by simpa using h1
   have hv1:val1 l st inp n (valL l st inp n)=(0,0):=by rw [val1,if_pos h1]
   have k1:¬(nd l n).op=ze:=fun e=>by rw [e]at h1;cases h1
   have k2:¬(nd l n).op=zy:=fun e=>by rw [e]at h1;cases h1
   refine yS Tryz.func73 rfl (room _) ?_;refine yE (ih (n+1) (by omega) (by omega)) ⟨erl rfl,⟨_,rfl,.of ?_⟩,⟨_,rfl,.of ?_⟩,erl rfl,erl rfl,erl rfl,erl rfl,erw rfl,trivial⟩ ⟨.refl _,next _ _ hv1 zqz,trivial⟩
   ·rw [z4o,if_neg k1];rfl
   ·rw [z4o,if_neg k2];rfl
  have h1:((wL l l.length).getD n 0==0)=false:=h1;rw [hwg,beqI,hwz]at h1;have h1:isVal (nd l n).op=true:=by simpa using h1
  refine yB Tryz.func73 rfl trivial (fun h2=>?_) (fun h2=>?_)<;>rw [show((⟨#[115,116,97,116,101]⟩:ByteArray))=⟨ze.toArray⟩from rfl,strB]at h2
  ·have h2:(nd l n).op=ze:=of_decide_eq_true h2;obtain⟨g1,g2⟩:=zik hs hlt h2;have hv1:val1 l st inp n (valL l st inp n)=nm st (cnt l ze n):=by rw [val1,if_neg (by rw [h1];decide),if_pos h2]
   refine z3w 6 5 3 (c:=none) (a:=.dead) (o2:=bN (nm (st.drop (cnt l ze n)) 0).1 (nm (st.drop (cnt l ze n)) 0).2) tabOk Tryz.func73 rfl rfl trivial (by kernel_rfl) (by kernel_rfl) rfl rfl (fun _=>yq rfl ?nd rfl) rfl rfl ?_ ?_ trivial ?_;case nd=>
    simp only [List.length_map,List.length_drop];exact⟨⟨by decide,by omega,by omega⟩,⟨by decide,by omega⟩,trivial⟩
   ·rfl
   ·rfl
   refine yS Tryz.func73 rfl (room _) ?_;refine yE (ih (n+1) (by omega) (by omega)) ⟨erl rfl,⟨_,rfl,?_⟩,⟨_,rfl,.of ?_⟩,erl rfl,erl rfl,erl rfl,erl rfl,erw rfl,trivial⟩ ⟨.refl _,next _ _ hv1 ?_,trivial⟩
   ·rw [z4o,if_pos h2];exact zn3 _ _ _
   ·rw [z4o,if_neg (by rw [h2];decide)];rfl
   ·rw [zlv];exact .refl _
  have h2:¬(nd l n).op=ze:=of_decide_eq_false h2;refine yB Tryz.func73 rfl trivial (fun h3=>?_) (fun h3=>?_)<;>rw [show((⟨#[105,110,112,117,116]⟩:ByteArray))=⟨zy.toArray⟩from rfl,strB]at h3
  ·have h3:(nd l n).op=zy:=of_decide_eq_true h3;obtain⟨g1,g2⟩:=zik hi hlt h3;have hv1:val1 l st inp n (valL l st inp n)=nm inp (cnt l zy n):=by rw [val1,if_neg (by rw [h1];decide),if_neg h2,if_pos h3]
   refine z3w 6 5 3 (c:=none) (a:=.dead) (o2:=bN (nm (inp.drop (cnt l zy n)) 0).1 (nm (inp.drop (cnt l zy n)) 0).2) tabOk Tryz.func73 rfl rfl trivial (by kernel_rfl) (by kernel_rfl) rfl rfl (fun _=>yq rfl ?nd rfl) rfl rfl ?_ ?_ trivial ?_;case nd=>
    simp only [List.length_map,List.length_drop];exact⟨⟨by decide,by omega,by omega⟩,⟨by decide,by omega⟩,trivial⟩
   ·rfl
   ·rfl
   refine yS Tryz.func73 rfl (room _) ?_;refine yE (ih (n+1) (by omega) (by omega)) ⟨erl rfl,⟨_,rfl,.of ?_⟩,⟨_,rfl,?_⟩,erl rfl,erl rfl,erl rfl,erl rfl,erw rfl,trivial⟩ ⟨.refl _,next _ _ hv1 ?_,trivial⟩
   ·rw [z4o,if_neg h2];rfl
   ·rw [z4o,if_pos h3];exact zn3 _ _ _
   ·rw [zlv];exact .refl _
  have h3:¬(nd l n).op=zy:=of_decide_eq_false h3;have hop:=zqh ty hlt hv h1 h2 h3;have hv1:val1 l st inp n (valL l st inp n)=opV (nd l n) (takes (nd l n) (valL l st inp n)):=by rw [val1,if_neg (by rw [h1];decide),if_neg h2,if_neg h3]
  have hab:∀a∈(nd l n).a,1≤a∧a≤n:=fun a ha=>by
   have:=(ty.node n hlt).ab a ha;omega
  have hxa:(nd l n).a.length≤4:=by
   rw [(ty.node n hlt).al];exact Nat.le_trans List.count_le_length (z8g _)
  obtain⟨gf,fn,c,hf1,hf2,hf3,hmeth,hval⟩:=zn4 hop.1;have hofc:=zrp (nd l n);generalize ofT (nd l n)=oT at *;have hvl:=z9m l st inp n;have hsub:∀j,j≤(nd l n).a.length→((takes (nd l n) (valL l st inp n)).take j).length=j:=fun j hj=>by rw [List.length_take,z7x];omega
  refine yS Tryz.func73 rfl trivial ?_;refine z45 (s:=2) (e:=118) (t:=15) (.inl rfl) (fun i=>vN (nm [] i).1 (nm [] i).2) ?_;refine z8 (α:=Nat) (fun j=>[(15,.gs 4),(49,.d (eIs (nd l n).a)),(50,vI .i64 ((nd l n).a.length:Int)),(51,vI .i64 (j:Int)),(13,.ptr 2 0),(14,.ptr 3 0),(8,.d (eIs (wL l l.length))),(1,.d (vO st (cnt l ze n))),(2,.d (vO inp (cnt l zy n))),(3,.ptr 0 0),(11,.gs 1),(41,.d (eNds l)),(42,vI .i64 (l.length:Int)),(43,vI .i64 (n:Int))])
   (fun j=>[some (bBt l),some (gNums (valL l st inp n)),some (bNd (nd l n)),some zVc,some (gNums ((takes (nd l n) (valL l st inp n)).take j))]) (fun j=>j≤(nd l n).a.length) (fun j=>(nd l n).a.length-j) 0 (Nat.zero_le _) ?_ ?_
  ·intro h;refine yE h ⟨erl rfl,erl rfl,⟨_,rfl,.of ?_⟩,erl rfl,erl rfl,erl rfl,erl rfl,erl rfl,erl rfl,erl rfl,erl rfl,erl rfl,erl rfl,erl rfl,trivial⟩ ⟨.refl _,.refl _,.refl _,.refl _,.gL rfl,trivial⟩;rw [List.length_map];rfl
  rintro j hj ihj;refine yB Tryz.func73 rfl trivial (fun hb=>?_) (fun hb=>?_)<;>simp only [decide_eq_true_eq,decide_eq_false_iff_not]at hb
  ·have hjl:j<(nd l n).a.length:=by omega
   have hd:=hab _ (z11 0 hjl);have e1:IntKind.i64.wrap ((nd l n).a.getD j 0-1)=(nd l n).a.getD j 0-1:=z7 (by omega) (by omega);refine yS Tryz.func73 rfl ?nd ?_;case nd=>
    refine⟨?_,?_⟩
    ·rw [List.length_map,hsub j hj];show(j+1)*32≤_;omega
    ·simp only [andP,Int.toNat_natCast,e1,List.length_map,hvl];exact⟨by omega,⟨by omega,by omega⟩,⟨by omega,by omega⟩,trivial⟩
   refine yE (ihj (j+1) (by omega) (by omega)) ⟨erl rfl,erl rfl,erl rfl,erw rfl,erl rfl,erl rfl,erl rfl,erl rfl,erl rfl,erl rfl,erl rfl,erl rfl,erl rfl,erl rfl,trivial⟩ ⟨.refl _,.refl _,.refl _,.refl _,.gL ?_,trivial⟩;rw [zj4 hjl,List.map_append];show _++[vN (nm (valL l st inp n) (IntKind.i64.wrap ((nd l n).a.getD j 0-1)).toNat).1 (nm (valL l st inp n) (IntKind.i64.wrap ((nd l n).a.getD j 0-1)).toNat).2]=_;rw [e1];rfl
  ·obtain rfl:j=(nd l n).a.length:=by omega
   refine zj 4 rfl ?_;have htk:(takes (nd l n) (valL l st inp n)).take (nd l n).a.length=takes (nd l n) (valL l st inp n):=List.take_of_length_le (by rw [z7x];omega);rw [htk];refine zt (env':=[(52,.lit false),(13,.ptr 2 0),(14,.ptr 3 0),(15,.d (eNums (takes (nd l n) (valL l st inp n)))),(8,.d (eIs (wL l l.length))),(1,.d (vO st (cnt l ze n))),(2,.d (vO inp (cnt l zy n))),(3,.ptr 0 0),(11,.gs 1),(41,.d (eNds l)),(42,vI .i64 (l.length:Int)),(43,vI .i64 (n:Int))])
    (objs':=[some (bBt l),some (gNums (valL l st inp n)),some (bNd (nd l n)),some zVc]) ?_ hC hCl ⟨⟨_,rfl,.refl _⟩,⟨_,rfl,.refl _⟩,⟨_,rfl,.refl _⟩,⟨_,rfl,.refl _⟩,⟨_,rfl,.refl _⟩,⟨_,rfl,.refl _⟩,⟨_,rfl,.refl _⟩,⟨_,rfl,.refl _⟩,⟨_,rfl,.refl _⟩,⟨_,rfl,.refl _⟩,⟨_,rfl,.refl _⟩,⟨_,rfl,.refl _⟩,trivial⟩ ⟨.refl _,.refl _,.refl _,.refl _,trivial⟩ rfl rfl (Nat.zero_le _)
   generalize takes (nd l n) (valL l st inp n)=a at *;generalize opV (nd l n) a=p at *;refine z3w 9 8 3 (c:=none) (a:=.dead) (o2:=bN p.1 p.2) tabOk Tryz.func73 rfl rfl trivial (by kernel_rfl) (by kernel_rfl) rfl rfl
    (fun _=>by
     refine yQ Tryz.func100 rfl trivial hofc (.refl _) ?_;refine ds_ok tabOk rfl rfl rfl rfl rfl ?_;refine ds_ok tabOk rfl rfl rfl rfl rfl ?_;refine zn1 (v0:=.agg #[]) (x:=aG0) rfl rfl rfl rfl rfl rfl ?_ ?_ hmeth rfl hval (zb hf1 hf2 hf3) (by rintro r o rfl;rfl) (.refl _) rfl rfl ?_
     ·intro w ok π v hv;cases hv with|d hd=>cases hd with|ifc hd=>cases hd with|ag hd=>cases hd;rfl
     ·intro w ok π;exact .d (.ag .nil)
     exact yq rfl trivial rfl)
    (by rfl) (by rfl) (by rfl) (by rfl) trivial ?_
   refine yS Tryz.func73 rfl (room _) ?_;refine yE (ih (n+1) (by omega) (by omega)) ⟨erl rfl,⟨_,rfl,.of ?_⟩,⟨_,rfl,.of ?_⟩,erl rfl,erl rfl,erl rfl,erl rfl,erw rfl,trivial⟩ ⟨.refl _,next _ _ hv1 (.refl _),trivial⟩
   ·rw [z4o,if_neg h2];rfl
   ·rw [z4o,if_neg h3];rfl
 ·obtain rfl:n=l.length:=by omega
  refine zj 1 rfl ?_;exact yR Tryz.func73 rfl trivial rfl
def flg(l:List Nd)(v:List (Nat×Nat))(id:Int):Bool:=bitI' (nm v ((ln l id).a.getD 0 0-1).toNat).1 (nm v ((ln l id).a.getD 0 0-1).toNat).2 0
def flagL(l:List Nd)(op:List UInt8)(v:List (Nat×Nat))(n:Nat):List Bool:=(allL l op n).map (flg l v)
def zqm(op:List UInt8):Prop:=op=kBad∨op=zg
theorem zmp{l:List Nd}(ty:Ty l){op:List UInt8}(ho:zqm op){id:Int}(h1:1≤id)(h2:id≤l.length)(h3:(ln l id).op=op):(ln l id).a.length=1∧1≤(ln l id).a.getD 0 0∧(ln l id).a.getD 0 0≤l.length∧isVal (ln l ((ln l id).a.getD 0 0)).op=true:=by
 have hk:=ty.node (id-1).toNat (by omega);have hln:=ty.ty.ln (id-1).toNat (by omega);have hx:(ln l id).a.length=1:=by
  rw [hk.al,show(nd l (id-1).toNat).op=op from h3];rcases ho with rfl|rfl<;>decide
 have hm:(ln l id).a.getD 0 0∈(ln l id).a:=z11 0 (by omega);have:=hk.ab _ hm;exact⟨hx,this.1,by omega,hln.val _ hm⟩
theorem val_w{l:List Nd}(ty:Ty l){v:List (Nat×Nat)}(hv:VOk l v l.length){id:Int}(h1:1≤id)(h2:id≤l.length):(nm v (id-1).toNat).1≤128:=by
 cases h:isVal (nd l (id-1).toNat).op with
 | false=>rw [hv.no _ (by omega) h];exact Nat.zero_le _
 | true=>
  have a:=(hv.yes _ (by omega) h).1;have b:=(za3 ty (j:=(id-1).toNat) (by omega) h).2;omega
theorem zcn(l:List Nd)(hm:MdB l)(ty:Ty l)(op:List UInt8)(ho:zqm op)(v:List (Nat×Nat))(hv:VOk l v l.length):ACall Tryz.prog 74 [.d (eBt l),vSL op,.d (eNums v)] [] (fun r o=>r=.d (eBs (flagL l op v l.length))):=by
 refine yN Tryz.func74 fun C hC hCl hDs hGk=>?_;have hl:=ty.small;have hvl:=hv.len;refine yV Tryz.func74 rfl trivial (z44 l op hl) (.refl _) ?_;have hal:=z1s l op l.length;have hall:∀i,i<(allL l op l.length).length→1≤(allL l op l.length).getD i 0∧(allL l op l.length).getD i 0≤l.length∧(ln l ((allL l op l.length).getD i 0)).op=op:=fun i hi=>z88 (z11 0 hi)
 unfold flagL;generalize allL l op l.length=al at *;refine yS Tryz.func74 rfl trivial ?_;refine z45 (s:=1) (e:=4) (t:=7) (.inl rfl) (fun i=>eB (([]:List Bool).getD i false)) ?_;refine z8 (α:=Nat) (fun i=>[(2,.d (eNums v)),(3,.ptr 0 0),(7,.gs 1),(12,.d (eIs al)),(13,vI .i64 (al.length:Int)),(14,vI .i64 (i:Int))]) (fun i=>[some (bBt l),some (gBs ((al.take i).map (flg l v)))]) (fun i=>i≤al.length) (fun i=>al.length-i) 0 (Nat.zero_le _) ?_ ?_
 ·exact fun h=>yE h ⟨erl rfl,erl rfl,erl rfl,erl rfl,⟨_,rfl,.of (by rw [List.length_map])⟩,erl rfl,trivial⟩ ⟨.refl _,.gL rfl,trivial⟩
 rintro i hi ih;refine yB Tryz.func74 rfl trivial (fun hb=>?_) (fun hb=>?_)<;>simp only [decide_eq_true_eq,decide_eq_false_iff_not]at hb
 ·have hlt:i<al.length:=by omega
  obtain⟨a1,a2,a3⟩:=hall i hlt;obtain⟨b1,b2,b3,b4⟩:=zmp ty ho a1 a2 a3;have e1:IntKind.i64.wrap (al.getD i 0-1)=al.getD i 0-1:=z7 (by omega) (by omega);have e2:IntKind.i64.wrap ((ln l (al.getD i 0)).a.getD 0 0-1)=(ln l (al.getD i 0)).a.getD 0 0-1:=z7 (by omega) (by omega);have hw:=val_w ty hv b2 b3;have e3:IntKind.i64.wrap ((l.getD (IntKind.i64.wrap (al.getD i 0-1)).toNat default).a.getD 0 0-1)=(ln l (al.getD i 0)).a.getD 0 0-1:=by rw [e1];exact e2
  refine yC Tryz.func74 rfl ?nd (z4f (nm v ((ln l (al.getD i 0)).a.getD 0 0-1).toNat).1 (nm v ((ln l (al.getD i 0)).a.getD 0 0-1).toNat).2 0 (by omega)) ⟨.of (ztm e3 rfl),.refl _,trivial⟩ ?_;case nd=>
   simp only [Int.toNat_natCast,show Int.toNat 0=0 from rfl,List.length_map];rw [e3,e1];exact⟨⟨by omega,by omega⟩,⟨by decide,by rw [show(l.getD (al.getD i 0-1).toNat default).a.length=1 from b1];decide⟩,⟨by omega,by omega⟩,⟨by omega,by omega⟩,trivial⟩
  rintro _ o rfl;refine yS Tryz.func74 rfl ?nd ?_;case nd=>
   refine⟨?_,trivial⟩;rw [List.length_map,List.length_map,List.length_take];show(min i al.length+1)*1≤_;omega
  refine yE (ih (i+1) (by omega) (by omega)) ⟨erl rfl,erl rfl,erl rfl,erl rfl,erl rfl,erw rfl,trivial⟩ ⟨.refl _,.gL ?_,trivial⟩;rw [List.take_succ_eq_append_getElem hlt,List.map_append,List.map_append,←z5r (d:=0) hlt];rfl
 ·obtain rfl:i=al.length:=by omega
  refine zj 1 rfl ?_;refine yR Tryz.func74 rfl trivial ?_;rw [List.take_length];rfl
theorem zoq{l:List Nd}{op:List UInt8}{s:Int}{j:Nat}(h:ofJ l op s=some j):j<l.length∧(nd l j).op=op∧(nd l j).a.getD 0 0=s:=by
 unfold ofJ at h;have h1:=List.mem_of_find?_eq_some h;have h2:=List.find?_some h;simp only [decide_eq_true_eq]at h2;exact⟨List.mem_range.1 h1,h2.1,h2.2⟩
theorem ofJ_none'{l:List Nd}{op:List UInt8}{s:Int}(h:ofJ l op s=none):¬hadP l l.length op s:=by
 rintro⟨j,h1,h2,h3⟩;unfold ofJ at h;have:=List.find?_eq_none.1 h j (List.mem_range.2 h1);simp only [decide_eq_true_eq]at this;exact this ⟨h2,h3⟩
def isOf(op:List UInt8):Prop:=op=kInit∨op=kNext
theorem zdm{l:List Nd}(ty:Ty l){op:List UInt8}(ho:isOf op){s:Int}{j:Nat}(h:ofJ l op s=some j):
  1≤ofV l op s∧ofV l op s≤l.length∧isVal (ln l (ofV l op s)).op=true∧wdN l (ln l (ofV l op s))=wdN l (ln l s)∧(op=kInit→(ln l (ofV l op s)).op=z1a):=by
 obtain⟨h1,h2,h3⟩:=zoq h;have hk:=ty.node j h1;have hln:=ty.ty.ln j h1;have hx:(nd l j).a.length=2:=by
  rw [hk.al,h2];rcases ho with rfl|rfl<;>decide
 have e:ofV l op s=(nd l j).a.getD 1 0:=by rw [ofV,h]
 have hm:(nd l j).a.getD 1 0∈(nd l j).a:=z11 0 (by omega);have hab:=hk.ab _ hm;have hsame:=(hln.ask.inx (by rw [h2];exact ho)).1;have s0:=hsame 0 (by omega);have s1:=hsame 1 (by omega);unfold awN at s0 s1;rw [h3]at s0;rw [e];exact⟨hab.1,by omega,hln.val _ hm,by rw [s1,s0],fun e=>hln.ask.ini (by rw [h2,e])⟩
theorem zlp{l:List Nd}(ty:Ty l){op:List UInt8}(ho:isOf op):∀j,j<l.length→(nd l j).op=op→(nd l j).a.length=2:=fun j h1 h2=>by
 rw [(ty.node j h1).al,h2];rcases ho with rfl|rfl<;>decide
theorem zlx{l:List Nd}(ty:Ty l){s:Int}(h1:1≤s)(h2:s≤l.length)(h3:(ln l s).op=ze):∃j,ofJ l kNext s=some j:=by
 have:=ty.ty.nx (s-1).toNat (by omega) h3;rw [show(((s-1).toNat:Nat):Int)+1=s by omega]at this;cases h:ofJ l kNext s with
 | some j=>exact⟨j,rfl⟩
 | none=>exact absurd this (ofJ_none' h)
def nextL(l:List Nd)(v:List (Nat×Nat)):List (Nat×Nat):=(allL l ze l.length).map fun s=>nm v (ofV l kNext s-1).toNat
theorem zf9{l:List Nd}(ty:Ty l){s:Int}(hs:s∈allL l ze l.length):1≤ofV l kNext s∧ofV l kNext s≤l.length∧isVal (ln l (ofV l kNext s)).op=true∧wdN l (ln l (ofV l kNext s))=wdN l (ln l s):=by
 obtain⟨h1,h2,h3⟩:=z88 hs;obtain⟨j,hj⟩:=zlx ty h1 h2 h3;have:=zdm ty (.inr rfl) hj;exact⟨this.1,this.2.1,this.2.2.1,this.2.2.2.1⟩
theorem zox{l:List Nd}(ty:Ty l){v:List (Nat×Nat)}(hv:VOk l v l.length):Fit l ze (nextL l v):=by
 refine⟨by simp [nextL],fun i hi=>?_⟩;have hi':i<(allL l ze l.length).length:=by simpa [nextL]using hi
 have e:nm (nextL l v) i=nm v (ofV l kNext ((allL l ze l.length).getD i 0)-1).toNat:=by
  rw [z5r hi'];simp [nm,nextL,hi']
 obtain⟨h1,h2,h3,h4⟩:=zf9 ty (z11 (i:=i) (l:=allL l ze l.length) 0 hi');have hy:=hv.yes (ofV l kNext ((allL l ze l.length).getD i 0)-1).toNat (by omega) h3;have hw:=za3 ty (j:=(ofV l kNext ((allL l ze l.length).getD i 0)-1).toNat) (by omega) h3;rw [e];exact⟨by rw [hy.1];exact h4,hy.2,by omega,by omega⟩
@[reducible] def e2B(a b:List Bool):D:=.ag [eBs a,eBs b]
@[reducible] def stepA(l:List Nd)(v:List (Nat×Nat)):AV:=tupOf [.d (eNums (nextL l v)),.d (e2B (flagL l kBad v l.length) (flagL l zg v l.length)),vI .i64 0]
theorem zsu(l:List Nd)(hm:MdB l)(ty:Ty l)(st inp:List (Nat×Nat))(hs:Fit l ze st)(hi:Fit l zy inp):ACall Tryz.prog 46 [.d (eBt l),.d (eNums st),.d (eNums inp)] [] (fun r o=>r=stepA l (valL l st inp l.length)):=by
 refine yN Tryz.func46 fun C hC hCl hDs hGk=>?_;have hl:=ty.small;have hv:=zcz ty hs hi l.length (Nat.le_refl _);have hc:=znq l hm ty st inp hs hi;generalize valL l st inp l.length=v at *;have hvl:=hv.len;refine yV Tryz.func46 rfl trivial hc (.refl _) ?_;refine yF Tryz.func46 rfl trivial ?_;refine yV Tryz.func46 rfl trivial (z44 l ze hl) (.refl _) ?_;have hal:=z1s l ze l.length;have hall:=@zf9 l ty;unfold stepA nextL;generalize allL l ze l.length=al at *;refine yS Tryz.func46 rfl trivial ?_;refine z45 (s:=2) (e:=118) (t:=11) (.inl rfl) (fun i=>vN (nm [] i).1 (nm [] i).2) ?_;refine z8 (α:=Nat) (fun i=>[(3,.ptr 0 0),(7,.ptr 1 0),(9,.d (eNums v)),(11,.gs 2),(28,.d (eIs al)),(29,vI .i64 (al.length:Int)),(30,vI .i64 (i:Int))]) (fun i=>[some (bBt l),some (.cells 78 [.d (.v (.slice none 0 0)),.d (.v (.slice none 0 0))]),some (gNums ((al.take i).map fun s=>nm v (ofV l kNext s-1).toNat))]) (fun i=>i≤al.length) (fun i=>al.length-i) 0 (Nat.zero_le _) ?_ ?_
 ·exact fun h=>yE h ⟨erl rfl,erl rfl,erl rfl,erl rfl,erl rfl,⟨_,rfl,.of (by rw [List.length_map])⟩,erl rfl,trivial⟩ ⟨.refl _,.refl _,.gL rfl,trivial⟩
 rintro i hi ih;refine yB Tryz.func46 rfl trivial (fun hb=>?_) (fun hb=>?_)<;>simp only [decide_eq_true_eq,decide_eq_false_iff_not]at hb
 ·have hlt:i<al.length:=by omega
  obtain⟨a1,a2,a3,a4⟩:=hall (z11 (i:=i) (l:=al) 0 hlt);have e1:IntKind.i64.wrap (ofV l kNext (al.getD i 0)-1)=ofV l kNext (al.getD i 0)-1:=z7 (by omega) (by omega);refine yV Tryz.func46 rfl (by simp [andP]<;>omega) (zhk l kNext (al.getD i 0) hl (zlp ty (.inr rfl))) (.refl _) ?_;refine yS Tryz.func46 rfl ?nd ?_;case nd=>
   refine⟨?_,?_⟩
   ·rw [List.length_map,List.length_map,List.length_take];show(min i al.length+1)*32≤_;omega
   ·simp only [andP,e1,List.length_map];exact⟨⟨by omega,by omega⟩,trivial⟩
  refine yE (ih (i+1) (by omega) (by omega)) ⟨erl rfl,erl rfl,erl rfl,erl rfl,erl rfl,erl rfl,erw rfl,trivial⟩ ⟨.refl _,.refl _,.gL ?_,trivial⟩;rw [List.take_succ_eq_append_getElem hlt,List.map_append,List.map_append,←z5r (d:=0) hlt];show _++[vN (v.getD (IntKind.i64.wrap (ofV l kNext (al.getD i 0)-1)).toNat (0,0)).1 (v.getD (IntKind.i64.wrap (ofV l kNext (al.getD i 0)-1)).toNat (0,0)).2]=_;rw [e1];rfl
 ·obtain rfl:i=al.length:=by omega
  refine zj 2 rfl ?_;rw [List.take_length];refine yO 9 Tryz.func46 rfl trivial ?_;refine yQ Tryz.func74 rfl trivial (zcn l hm ty kBad (.inl rfl) v hv) (.refl _) ?_;refine yQ Tryz.func74 rfl trivial (zcn l hm ty zg (.inr rfl) v hv) (.refl _) ?_;refine yq rfl trivial ?_;exact yR Tryz.func46 rfl trivial rfl
end Go.Proofs.YtbodbhpdelgpnaaGreatDoor
namespace Ab
open Go
variable [Draws]
def eLitG(T:Tab)(t:TypeId)(len:Nat)(ps:List (Nat×AV))(objs:List (Option AObj)):Option EOut:=
 match tlook T t with
 | none=>none
 | some r=>match r.kd with
  | .slice e=>match tlook T e with
   | none=>none
   | some re=>match ps with
    | []=>none
    | p::ps'=>match z3d re.size 0 (p::ps')with
     | none=>none
     | some xs=>match lenIs xs len with
      | false=>none
      | true=>match Nat.ble (len*re.size) 16777216 with
       | true=>match Nat.beq re.size 0 with
        | true=>none
        | false=>some ⟨none,false,.gs objs.length,none,objs++[some (.grow e re.size xs (litRd xs))]⟩
       | false=>none
  | _=>none
theorem zph{P:Program}{T:Tab}(hT:TabOk P T){X:Nat→Prop}{π:List Value}{objs:List (Option AObj)}{w:World}(m:Mem X π objs w){t:TypeId}{len:Nat}{ps:List (Nat×AV)}{vs:List (Nat×Value)}
  (hp:RelPs w (okOf X π objs) π ps vs):ERok P X π objs w (eLitG T t len ps objs) (do pure (.value (←Instr.buildSlice t len vs.toArray))):=by
 unfold eLitG;split
 ·trivial
 ·rename_i r hr;split
  ·rename_i e hk;have ht:=z1c hT hr hk;split
   ·trivial
   ·rename_i re hre;obtain⟨z,hzr,hzc,hzf,_,_⟩:=(zn hT hre).zero;have hzl:z.cells.size=re.size:=by
     have:=(zn hT hre).zl;rw [←hzc]at this;simpa using this
    split
    ·trivial
    ·rename_i p ps';split
     ·trivial
     ·rename_i xs hxs;split
      ·trivial
      ·rename_i hlen;have hlen:=z5p hlen;split
       ·rename_i hble;have hble':len*re.size≤16777216:=by simpa using hble
        split
        ·trivial
        ·rename_i hz0;intro _;obtain⟨us,h1,h2⟩:=zds hxs hp [] ((List.range (len*re.size)).map fun i=>z.cells[i%z.cells.size]!) (by simp) (by simp [hlen]);have hul:=h1.length;simp only [List.nil_append]at h2;have hrun:(Instr.buildSlice t len vs.toArray).run P w=.ok (.slice (some ⟨w.heap.size,0,none⟩) len len) (w.alloc (.cells us.toArray e)):=by
          have hz0':re.size≠0:=by
           intro e;rw [e]at hz0;cases hz0
          have hsz:=(zn hT hre).sizeOf w;have h2':Instr.fill (fun i=>some (i*re.size,re.size)) (Array.map (fun i=>z.cells[i%z.cells.size]!) (Array.range (len*re.size))) vs=some us.toArray:=by
           rw [←h2];congr 1;apply Array.ext';simp
          by_cases hl0:len*re.size=0
          ·have hl00:len=0:=by
            rcases Nat.mul_eq_zero.1 hl0 with h|h
            ·exact h
            ·exact absurd h hz0'
           subst hl00;have hx0:xs=[]:=List.eq_nil_of_length_eq_zero hlen;subst hx0;exfalso;revert hxs;simp only [z3d];repeat' split
           all_goals simp
          ·simp [Instr.buildSlice,run_underlying ht,hsz,hl0,show ¬16777216<len*re.size by omega,hzr,h2',z1u]
         have hext:∀b,b<w.heap.size→(w.alloc (.cells us.toArray e)).heap[b]?=w.heap[b]?:=fun b hb=>z1h _ hb
         obtain⟨q,hq⟩:∃q,len=q+1:=by
          cases len with
          | zero=>
           have hx0:xs=[]:=List.eq_nil_of_length_eq_zero hlen;subst hx0;exfalso;revert hxs;simp only [z3d];repeat' split
           all_goals simp
          | succ q=>exact⟨q,rfl⟩
         have hzp:0<re.size:=by
          have:re.size≠0:=by intro e;rw [e]at hz0;cases hz0
          omega
         have hk:∀X' π' objs',Keeps w (okOf X π objs) (w.alloc (.cells us.toArray e)) (okOf X' π' objs')→RelE (w.alloc (.cells us.toArray e)) (okOf X' π' objs') re.size xs us:=fun _ _ _ hk=>h1.mono hk
         subst hlen;refine⟨_,_,π++[.slice (some ⟨w.heap.size,0,none⟩) xs.length xs.length],by simp only [Sem.run_bind,hrun,Result.andThen_ok,Sem.run_pure];rfl,zki m (.cells us.toArray e) (.slice (some ⟨w.heap.size,0,none⟩) xs.length xs.length) (.grow e re.size xs (litRd xs)) (by rw [hq];rfl) ?_,fun _=>.gs (z5n m.len _)⟩;have hrel:=RelO.grow (w:=w.alloc (.cells us.toArray e)) (ok:=okOf X (π++[.slice (some ⟨w.heap.size,0,none⟩) xs.length xs.length]) (objs++[some (.grow e re.size xs (litRd xs))])) (π:=π++[.slice (some ⟨w.heap.size,0,none⟩) xs.length xs.length]) (e:=e) (s:=re.size) (b:=w.heap.size) (o:=0) (c:=q) (xs:=xs) (us:=us) (vs:=us) (rd:=litRd xs) (fz:=(0,0)) (z23 _) (fun i hi=>by omega)
          (hk _ _ _ (zaw _ _ _ m.len (by intro b e;rw [hq]at e;cases e;exact Nat.le_refl _))) (fun i hi=>by rw [Nat.zero_add]) (by omega) (by have hml:maxLen=9223372036854775807:=rfl;have:xs.length*1≤xs.length*re.size:=Nat.mul_le_mul_left _ hzp;omega) (by rw [hul,hq];omega) (zdt xs)
         rw [←hq]at hrel;exact hrel
       ·trivial
  ·trivial
section
variable {P:Program}[Globals P]{T:Tab}{f:FuncId}{n:Nat}{C:Cx}{R:AV→List (Option AObj)→Prop}{env:Env}{objs:List (Option AObj)}
theorem zd8{ops:Array Oper}{i:Nat}{r:List Nat}{k:List Item}{o:Oper}{e:Env}{t:TypeId}{len:Nat}{ps:List (Nat×Operand)}{az:List (Nat×AV)}(out:EOut)(hT:TabOk P T)(ho:ops[i]?=some o)(hw:wantE ops env o=.yes)(hop:o.op=.buildSlice t len ⟨ps⟩)(hp:parts env ps=some az)
  (hs:eLitG T t len az objs=some out) (hc:cond out.c) (hput:putE n o.dst (skA out.skip out.a) (z5v out.q env)=some e) (h:ASat P f n C (.inRegion ops r::k) e out.objs R):ASat P f n C (.inRegion ops (i::r)::k) env objs R:=by
 refine za9 out ho hw (fun X π w tmps hm he=>?_) hc hput h;have:=zph hT hm (t:=t) (len:=len) (z6c (ds:=[]) he hp);rw [hs]at this;unfold execOp;rw [hop];simpa using this
end
end Ab
namespace Go.Proofs.YtbodbhpdelgpnaaGreatDoor
open Go Ab
theorem zpw{l:List Nd}(ty:Ty l){id:Int}(h1:1≤id)(h2:id≤l.length)(h3:(ln l id).op=z1a):mkok (ln l id).t=true∧((ln l id).t.length:Int)=wdN l (ln l id):=by
 have hk:=ty.node (id-1).toNat (by omega);have hln:=ty.ty.ln (id-1).toNat (by omega);have h3':(nd l (id-1).toNat).op=z1a:=h3;have hs:=(val_s ty (j:=(id-1).toNat) (by omega) (by rw [h3'];rfl)).1;refine⟨hk.txt (by rw [h3'];decide),?_⟩;have:=hln.ask.const h3';rwa [wOf,if_pos hs]at this
end Go.Proofs.YtbodbhpdelgpnaaGreatDoor
namespace Go.Proofs.YtbodbhpdelgpnaaGreatDoor
open Go Ab Go.RowKit
theorem zk2(w:World)(k:Nat)(os:Array Obj):Below w.heap.size w (Go.Sort.grow (w.drewN k) os):=by
 refine⟨rfl,rfl,rfl,by simp [Go.Sort.grow,World.drewN],fun b hb=>?_⟩;show(w.heap++os)[b]?=_;rw [Array.getElem?_append_left hb]
@[reducible] def tItoa(n:Int):List UInt8:=Go.Lib.itoa n
@[reducible] def vTx(l:List UInt8):AV:=.d (.v (.string ⟨l.toArray⟩))
theorem zbx(n:Int)(h0:-9223372036854775808≤n)(h1:n≤9223372036854775807):ACall Tryz.prog 88 [vI .i64 n,vI .i64 10] [] (fun r o=>r=vTx (tItoa n)):=
 z6n (fun _ _=>Nat.le_refl _) rfl (vs:=[.int .i64 n,.int .i64 10]) (fun w ok π us h=>by
  cases h with|cons h1 h=>cases h with|cons h2 h=>cases h with|nil=>
  cases h1 with|d h1=>cases h1 with|v _=>cases h2 with|d h2=>cases h2 with|v _=>rfl) (fun args w=>zb Tryz.func88 rfl rfl args w) fun w ht=>(Any.internal_strconv_FormatInt_10 Tryz.itoaL n h0 h1 w (tb_pow ht)).mono fun e w' ⟨he,k,os,hw⟩=>⟨he,hw▸zk2 w k os⟩
theorem zjj(n:Int)(h0:-9223372036854775808≤n)(h1:n≤9223372036854775807):ACall Tryz.prog 57 [vI .i64 n] [] (fun r o=>r=vTx (tItoa n)):=by
 refine yN Tryz.func57 fun C hC hCl hDs hGk=>?_;refine yV Tryz.func57 rfl trivial (zbx n h0 h1) (.refl _) ?_;exact yR Tryz.func57 rfl trivial rfl
theorem z6p(n:Int)(h0:-9223372036854775808≤n)(h1:n≤9223372036854775807):ACall Tryz.prog 25 [vI .i64 n] [] (fun r o=>r=vTx (tItoa n)):=by
 refine yN Tryz.func25 fun C hC hCl hDs hGk=>?_;refine yV Tryz.func25 rfl trivial (zjj n h0 h1) (.refl _) ?_;exact yR Tryz.func25 rfl trivial rfl
end Go.Proofs.YtbodbhpdelgpnaaGreatDoor
namespace Ab
open Go
variable [Draws]
section
variable {α:Type}[Inhabited α]{enc:α→Value}
theorem zde{w:World}{ok:Nat→Prop}:∀{l:List α} {us:List Value},RelE w ok 1 (l.map fun x=>D.v (enc x)) us→us=l.map enc
 | [],us,h=>by
  simp only [List.map_nil]at h;cases h;rfl
 | x::r,us,h=>by
  simp only [List.map_cons]at h;cases h with
  | cons h hl t=>
   cases h with
   | cons h hf t'=>
    cases t';cases h;rw [zde t];rfl
end
end Ab
namespace Go.Proofs.YtbodbhpdelgpnaaGreatDoor
open Go Ab Go.RowKit
@[reducible] def eBy(l:List UInt8):D:=eL 1 eU8 0 l
theorem zqa(l:List UInt8)(hl:l≠[]):ACall Tryz.prog 169 [.d (eBy l)] [] (fun r o=>r=tupOf [vI .i32 ((Go.Lib.decodeGo ⟨l.toArray⟩).1:Int),vI .i64 ((Go.Lib.decodeGo ⟨l.toArray⟩).2:Int)]):=by
 intro X π w us hgk m hv;refine .inl ⟨zb Tryz.func169 rfl rfl _ _,?_⟩;cases hv with|cons hv ht=>cases ht with|nil=>
 cases hv with|d hv=>
 have hv':RelD w (okOf X π []) (.sl 1 (l.map fun x=>D.v (.int .u8 (x.toNat:Int))) (fun i=>eU8 (l.getD i 0))) _:=hv;generalize hxs:(l.map fun x=>D.v (.int .u8 (x.toNat:Int)))=xs at hv';cases hv' with
 | nil hb=>exact absurd (List.map_eq_nil_iff.1 hxs) hl
 | sl he hm hc hb hr=>
  rename_i b o c us;subst hxs;obtain rfl:=zde (enc:=fun x:UInt8=>Value.int .u8 (x.toNat:Int)) he;have hsz:(⟨l.toArray⟩:ByteArray).size=l.length:=by show l.toArray.size=_;simp
  have hcall:=Any7.utf8_DecodeRune Tryz.decL ⟨l.toArray⟩ b o c w (tb_utf hgk.tb) (fun j hj=>by
   rw [hsz]at hj;have h1:=(hm j (by simpa using hj)).2;rw [h1];have e:(⟨l.toArray⟩:ByteArray).get! j=l[j]:=by
    show l.toArray[j]! = _;simp [hj]
   rw [e];simp [hj])
  rw [hsz]at hcall;have hll:(l.map fun x=>D.v (Value.int .u8 (x.toNat:Int))).length=l.length:=by simp
  rw [hll];refine Calls.mono hcall ?_;rintro e w' ⟨rfl,bl⟩;have t:=z3b m bl.os bl.tape ⟨bl.output,Nat.le_refl _⟩ bl.size bl.block;exact⟨_,_,[],π,rfl,rfl,t.mem,.tp (.cons (.d (.v rfl)) (.cons (.d (.v rfl)) .nil)),t.hist⟩
theorem strBy(a b:List UInt8):((⟨a.toArray⟩:ByteArray).toList==(⟨b.toArray⟩:ByteArray).toList)=decide (a=b):=by
 rw [Go.Lib.toList_data,Go.Lib.toList_data];simp only [List.toList_toArray];by_cases h:a=b
 ·simp [h]
 ·simp [h]
theorem z4j(l:List UInt8):(⟨l.toArray⟩:ByteArray).size=l.length:=by
 show l.toArray.size=l.length;simp
theorem z9c(b:List UInt8)(at_:Int):ACall Tryz.prog 79 [.d (eBy b),vI .i64 at_] [] (fun r o=>r=vB (decide (0≤at_∧at_≤b.length))):=by
 refine yN Tryz.func79 fun C hC hCl hDs hGk=>?_;refine yB Tryz.func79 rfl trivial (fun h=>?_) (fun h=>?_)
 ·have h:decide (at_≥0)=true:=h;rw [decide_eq_true_eq]at h;refine yR Tryz.func79 rfl trivial ?_;show vB (decide (at_≤((b.map eU8).length:Int)))=_;rw [List.length_map];congr 2;simp [h]
 ·have h:decide (at_≥0)=false:=h;rw [decide_eq_false_iff_not]at h;refine yR Tryz.func79 rfl trivial ?_;show vB false=_;rw [decide_eq_false (fun hh=>h hh.1)]
theorem exBy(l:List UInt8)(i j:Nat):(⟨l.toArray⟩:ByteArray).extract i j=⟨((l.take j).drop i).toArray⟩:=by
 apply ByteArray.ext;apply Array.ext';simp [ByteArray.data_extract,List.drop_take,List.extract_eq_take_drop]
theorem zdg(s p:List UInt8):p.isPrefixOf s=decide (p.length≤s.length∧s.take p.length=p):=by
 rw [Bool.eq_iff_iff,List.isPrefixOf_iff_prefix,decide_eq_true_eq];constructor
 ·rintro⟨r,rfl⟩;simp
 ·rintro⟨_,h⟩;rw [←h];exact List.take_prefix _ _
theorem zb5(s p:List UInt8):ACall Tryz.prog 109 [vTx s,vTx p] [] (fun r o=>r=vB (p.isPrefixOf s)):=by
 refine yN Tryz.func109 fun C hC hCl hDs hGk=>?_;refine yB Tryz.func109 rfl trivial (fun h=>?_) (fun h=>?_)
 ·have h:decide ((((⟨s.toArray⟩:ByteArray).size:Nat):Int)≥(((⟨p.toArray⟩:ByteArray).size:Nat):Int))=true:=h;rw [decide_eq_true_eq,z4j,z4j]at h;refine yR Tryz.func109 rfl ?_ ?_
  ·rw [z4j,z4j];exact⟨⟨by omega,by omega,by omega⟩,trivial⟩
  ·show vB (((⟨s.toArray⟩:ByteArray).extract (Int.toNat 0) (((⟨p.toArray⟩:ByteArray).size:Nat):Int).toNat).toList==(⟨p.toArray⟩:ByteArray).toList)=_;rw [z4j,exBy,strBy,zdg];have hle:p.length≤s.length:=by omega
   simp [hle]
 ·have h:decide ((((⟨s.toArray⟩:ByteArray).size:Nat):Int)≥(((⟨p.toArray⟩:ByteArray).size:Nat):Int))=false:=h;rw [decide_eq_false_iff_not,z4j,z4j]at h;refine yR Tryz.func109 rfl trivial ?_;show vB false=_;rw [zdg,decide_eq_false (fun hh=>h (by have:=hh.1;omega))]
theorem zbw(s p:List UInt8):ACall Tryz.prog 83 [vTx s,vTx p] [] (fun r o=>r=vB (p.isPrefixOf s)):=by
 refine yN Tryz.func83 fun C hC hCl hDs hGk=>?_;refine yV Tryz.func83 rfl trivial (zb5 s p) (.refl _) ?_;exact yR Tryz.func83 rfl trivial rfl
theorem znb(x:UInt8):byteD (eU8 x)=x:=by
 show UInt8.ofNat ((x.toNat:Int)).toNat=x;simp
theorem zkm(l:List UInt8):strD (l.map eU8)=⟨l.toArray⟩:=by
 unfold strD;rw [List.map_map];congr 2
 conv=>rhs;rw [←List.map_id l]
 exact List.map_congr_left fun x _=>znb x
theorem zfh(l:List UInt8):∀x∈l.map eU8,z2h x=true:=by
 intro x hx;obtain⟨y,_,rfl⟩:=List.mem_map.1 hx;rfl
theorem zd6(b:List UInt8)(i:Nat)(n:Nat)(hn:b.length-i≤n):List.take n (List.drop i (b.map eU8))=(b.drop i).map eU8:=by
 rw [←List.map_drop,List.take_of_length_le (by simp;omega)]
def isAt(b:List UInt8)(at_:Int)(s:List UInt8):Bool:=decide (0≤at_∧at_≤b.length)&&s.isPrefixOf (b.drop at_.toNat)
def isTo(b:List UInt8)(at_:Int)(s:List UInt8):Int:=if ¬(0≤at_∧at_≤b.length)then 0 else if s.isPrefixOf (b.drop at_.toNat)=true then at_+s.length else at_
theorem zhe(b:List UInt8)(at_:Int)(s:List UInt8)(hb:b.length≤1000000)(hs:s.length≤1000000):ACall Tryz.prog 53 [.d (eBy b),vI .i64 at_,vTx s] [] (fun r o=>r=tupOf [vI .i64 (isTo b at_ s),vB (isAt b at_ s)]):=by
 refine yN Tryz.func53 fun C hC hCl hDs hGk=>?_;refine yV Tryz.func53 rfl trivial (z9c b at_) (.refl _) ?_;refine yB Tryz.func53 rfl trivial (fun h=>?_) (fun h=>?_)
 ·rw [Bool.not_eq_true',decide_eq_false_iff_not]at h;refine yR Tryz.func53 rfl trivial ?_;rw [isTo,isAt,if_pos h,decide_eq_false h];rfl
 have h:0≤at_∧at_≤b.length:=by
  rw [Bool.not_eq_false',decide_eq_true_eq]at h;exact h
 refine yC Tryz.func53 rfl ?nd (zbw (b.drop at_.toNat) s) ⟨.of ?a0,.refl _,trivial⟩ ?kk;case nd=>
  rw [List.length_map,zd6 b _ _ (by omega)];exact⟨zfh _,⟨h.1,h.2,Int.le_refl _⟩,trivial⟩
 case a0=>
  rw [List.length_map,zd6 b _ _ (by omega),zkm]
 case kk=>
 rintro _ o rfl;refine yB Tryz.func53 rfl trivial (fun h2=>?_) (fun h2=>?_)
 ·have h2:s.isPrefixOf (b.drop at_.toNat)=false:=by simpa using h2
  refine yR Tryz.func53 rfl trivial ?_;rw [isTo,isAt,h2,Bool.and_false,if_neg (fun hh=>hh h),if_neg (by simp)]
 ·have h2:s.isPrefixOf (b.drop at_.toNat)=true:=by simpa using h2
  refine yR Tryz.func53 rfl trivial ?_;rw [isTo,isAt,h2,Bool.and_true,decide_eq_true h,if_neg (fun hh=>hh h),if_pos rfl];show tupOf [vI .i64 (IntKind.i64.wrap (at_+(((⟨s.toArray⟩:ByteArray).size:Nat):Int))),vB true]=_;rw [z4j,z7 (by omega) (by omega)]
theorem zn5(c:UInt8)(r:List UInt8):(c.toNat<128→Go.Lib.decodeGo ⟨(c::r).toArray⟩=(c.toNat,1))∧(¬c.toNat<128→128≤(Go.Lib.decodeGo ⟨(c::r).toArray⟩).1):=by
 have hsz:(⟨(c::r).toArray⟩:ByteArray).size=r.length+1:=by rw [z4j];rfl
 have h0:(⟨(c::r).toArray⟩:ByteArray).get! 0=c:=by
  show(c::r).toArray[0]! = c;simp
 unfold Go.Lib.decodeGo;rw [if_neg (by rw [hsz];omega),Go.Lib.decode_at,h0];generalize (⟨(c::r).toArray⟩:ByteArray).size-0=n;generalize ((⟨(c::r).toArray⟩:ByteArray).get! (0+1)).toNat=b1;generalize ((⟨(c::r).toArray⟩:ByteArray).get! (0+2)).toNat=b2;generalize ((⟨(c::r).toArray⟩:ByteArray).get! (0+3)).toNat=b3;generalize c.toNat=b0;unfold Go.Lib.decodeN;constructor
 ·intro h;rw [if_pos h]
 ·intro h;rw [if_neg h];repeat' split
  all_goals first|(show 128≤65533;decide)|(simp only;omega)
@[reducible] def vFn(g:FuncId):AV:=.d (.v (.func (.func g) #[] #[]))
@[reducible] def bFn(g:FuncId):AObj:=.cells 132 [vFn g]
theorem zl1(g:FuncId)(p:UInt8→Bool)(hp:∀c:UInt8,ACall Tryz.prog g [.d (eU8 c)] [] (fun r o=>r=vB (p c)))(R:Nat):ACall Tryz.prog 107 [vI .i32 (R:Int),.ptr 0 0] [some (bFn g)] (fun r o=>r=vB (decide (128≤R)||!p (UInt8.ofNat R))∧o=[some (bFn g)]):=by
 refine yN Tryz.func107 fun C hC hCl hDs hGk=>?_;refine yB Tryz.func107 rfl trivial (fun h=>?_) (fun h=>?_)
 ·have h:decide ((R:Int)≥128)=true:=h;rw [decide_eq_true_eq]at h;refine yR Tryz.func107 rfl trivial ⟨?_,rfl⟩;rw [decide_eq_true (by omega:128≤R)];rfl
 have h:decide ((R:Int)≥128)=false:=h;rw [decide_eq_false_iff_not]at h;have hlt:R<128:=by omega
 refine yC Tryz.func107 rfl trivial (hp (UInt8.ofNat R)) ⟨.of ?a0,trivial⟩ ?kk;case a0=>
  show AV.d (.v (.int .u8 (IntKind.u8.wrap (R:Int))))=AV.d (.v (.int .u8 ((UInt8.ofNat R).toNat:Int)));have e1:(UInt8.ofNat R).toNat=R:=by rw [UInt8.toNat_ofNat'];omega
  have e2:IntKind.u8.wrap (R:Int)=(R:Int):=by simp [IntKind.wrap,IntKind.bits,IntKind.signed];omega
  rw [e1,e2]
 case kk=>
 rintro _ o rfl;refine yR Tryz.func107 rfl trivial ⟨?_,rfl⟩;rw [decide_eq_false (by omega:¬128≤R),Bool.false_or];rfl
def runN(p:UInt8→Bool)(l:List UInt8):Nat:=(l.takeWhile fun c=>decide (c.toNat<128)&&p c).length
theorem zda(p:UInt8→Bool)(l:List UInt8):runN p l≤l.length:=(List.takeWhile_sublist _).length_le
theorem z64(p:UInt8→Bool)(c:UInt8)(l:List UInt8):runN p (c::l)=if c.toNat<128∧p c=true then runN p l+1 else 0:=by
 unfold runN;rw [List.takeWhile_cons];by_cases h:c.toNat<128∧p c=true
 ·rw [if_pos h,if_pos (by simp [h.1,h.2])];rfl
 ·rw [if_neg h,if_neg (by simpa using h)];rfl
def idxA(p:UInt8→Bool)(l:List UInt8):Int:=if runN p l<l.length then runN p l else -1
theorem zbt(g:FuncId)(p:UInt8→Bool)(hp:∀c:UInt8,ACall Tryz.prog g [.d (eU8 c)] [] (fun r o=>r=vB (p c)))(l:List UInt8)(hl:l.length≤1000000):
  ACall Tryz.prog 145 [.d (eBy l),.fn (.func 107) [.ptr 0 0],vB true] [some (bFn g)] (fun r o=>r=vI .i64 (idxA p l)∧o=[some (bFn g)]):=by
 refine yN Tryz.func145 fun C hC hCl hDs hGk=>?_;refine yS Tryz.func145 rfl trivial ?_;refine z8 (α:=Nat) (fun i=>[(0,.d (eBy l)),(1,.fn (.func 107) [.ptr 0 0]),(2,vB true),(7,vI .i64 (i:Int))]) (fun i=>[some (bFn g)]) (fun i=>i≤l.length∧runN p l=i+runN p (l.drop i)) (fun i=>l.length-i) 0 ⟨Nat.zero_le _,by simp⟩ ?_ ?_
 ·exact fun h=>yE h (eAl rfl) (oAl rfl)
 rintro i ⟨hi,hr⟩ ih;refine yB Tryz.func145 rfl trivial (fun hb=>?_) (fun hb=>?_)
 ·have hb:decide ((i:Int)<((l.map eU8).length:Int))=true:=hb;rw [List.length_map,decide_eq_true_eq]at hb;have hlt:i<l.length:=by omega
  obtain⟨c,r,hcr⟩:∃c r,l.drop i=c::r:=⟨_,_,List.drop_eq_getElem_cons hlt⟩
  have hdr:l.drop (i+1)=r:=by rw [←List.drop_drop,hcr];rfl
  obtain⟨d1,d2⟩:=zn5 c r;rw [hcr,z64]at hr;refine yC Tryz.func145 rfl ?nd (zqa (l.drop i) (by rw [hcr];simp)) ⟨.eL ?a0,trivial⟩ ?kk;case nd=>
   simp only [List.length_map];exact⟨⟨by omega,by omega,Int.le_refl _⟩,trivial⟩
  case a0=>
   rw [List.length_map,Int.toNat_natCast,zd6 l _ _ (by omega)]
  case kk=>
  rintro _ o rfl;rw [hcr];obtain⟨⟨R,K⟩,hRK⟩:∃q,Go.Lib.decodeGo ⟨(c::r).toArray⟩=q:=⟨_,rfl⟩
  rw [hRK]at d1 d2 ⊢;refine yW [0] Tryz.func145 rfl trivial (zl1 g p hp R) ⟨⟨_,rfl,.refl _⟩,trivial⟩ (.refl _) ?_;refine yB Tryz.func145 rfl trivial (fun h2=>?_) (fun h2=>?_)
  ·have h2:(decide (128≤R)||!p (UInt8.ofNat R))=true:=by simpa using h2
   refine yR Tryz.func145 rfl trivial ⟨?_,rfl⟩;have hno:¬(c.toNat<128∧p c=true):=by
    rintro⟨q1,q2⟩;cases d1 q1;rw [UInt8.ofNat_toNat,q2,decide_eq_false (by omega)]at h2;exact absurd h2 (by decide)
   rw [if_neg hno]at hr;rw [idxA,if_pos (by omega),hr];rfl
  ·have h2:(decide (128≤R)||!p (UInt8.ofNat R))=false:=by simpa using h2
   rw [Bool.or_eq_false_iff,decide_eq_false_iff_not]at h2;have hc:c.toNat<128:=Decidable.byContradiction fun hh=>h2.1 (d2 hh)
   cases d1 hc;have hp2:p c=true:=by
    have:=h2.2;rw [UInt8.ofNat_toNat]at this;simpa using this
   rw [if_pos ⟨hc,hp2⟩,←hdr]at hr;refine yS Tryz.func145 rfl trivial ?_;refine yE (ih (i+1) ⟨by omega,by omega⟩ (by omega)) ⟨erl rfl,erl rfl,erl rfl,erw rfl,trivial⟩ (oAl rfl)
 ·have hb:decide ((i:Int)<((l.map eU8).length:Int))=false:=hb;rw [List.length_map,decide_eq_false_iff_not]at hb;obtain rfl:i=l.length:=by omega
  refine yR Tryz.func145 rfl trivial ⟨?_,rfl⟩;rw [List.drop_length]at hr;rw [idxA,if_neg (by have:runN p ([]:List UInt8)=0:=rfl;omega)];rfl
theorem zbv(g:FuncId)(p:UInt8→Bool)(hp:∀c:UInt8,ACall Tryz.prog g [.d (eU8 c)] [] (fun r o=>r=vB (p c)))(l:List UInt8)(hl:l.length≤1000000):
  ACall Tryz.prog 106 [.d (eBy l),.fn (.func 107) [.ptr 0 0]] [some (bFn g)] (fun r o=>r=vI .i64 (idxA p l)∧o=[some (bFn g)]):=by
 refine yN Tryz.func106 fun C hC hCl hDs hGk=>?_;refine yW [0] Tryz.func106 rfl trivial (zbt g p hp l hl) ⟨⟨_,rfl,.refl _⟩,trivial⟩ (.refl _) ?_;exact yR Tryz.func106 rfl trivial ⟨rfl,rfl⟩
theorem zok(g:FuncId)(p:UInt8→Bool)(hp:∀c:UInt8,ACall Tryz.prog g [.d (eU8 c)] [] (fun r o=>r=vB (p c)))(b:List UInt8)(i:Nat)(hi:i≤b.length)(hb:b.length≤1000000):
  ACall Tryz.prog 80 [.d (eBy b),vI .i64 (i:Int),vFn g] [] (fun r o=>r=vI .i64 ((i+runN p (b.drop i):Nat):Int)):=by
 refine yN Tryz.func80 fun C hC hCl hDs hGk=>?_;have hdl:(b.drop i).length=b.length-i:=List.length_drop;have hrl:=zda p (b.drop i);refine yG [0] Tryz.func80 rfl ?nd (zbv g p hp (b.drop i) (by omega)) ⟨⟨_,rfl,.refl _⟩,trivial⟩ ⟨.eL ?a0,.refl _,trivial⟩ ?kk;case nd=>
  rw [List.length_map];exact⟨⟨by omega,by omega,Int.le_refl _⟩,trivial⟩
 case a0=>
  rw [List.length_map,Int.toNat_natCast,zd6 b _ _ (by omega)]
 case kk=>
 rintro _ o ⟨rfl,rfl⟩;have hcase:idxA p (b.drop i)=if runN p (b.drop i)<(b.drop i).length then(runN p (b.drop i):Int)else -1:=rfl
 generalize idxA p (b.drop i)=q at *;refine yB Tryz.func80 rfl trivial (fun h=>?_) (fun h=>?_)
 ·have h:decide (q<0)=true:=h;rw [decide_eq_true_eq]at h;refine yR Tryz.func80 rfl trivial ?_;show vI .i64 (((b.map eU8).length:Nat):Int)=_;rw [List.length_map];split at hcase
  ·omega
  ·rw [show i+runN p (b.drop i)=b.length by omega]
 ·have h:decide (q<0)=false:=h;rw [decide_eq_false_iff_not]at h;refine yR Tryz.func80 rfl trivial ?_;show vI .i64 (IntKind.i64.wrap ((i:Int)+q))=_;split at hcase
  ·rw [z7 (by omega) (by omega),hcase];rfl
  ·omega
theorem zjx(c:UInt8):ACall Tryz.prog 81 [.d (eU8 c)] [] (fun r o=>r=vB (decide (48≤c.toNat∧c.toNat≤57))):=by
 refine yN Tryz.func81 fun C hC hCl hDs hGk=>?_;refine yB Tryz.func81 rfl trivial (fun h=>?_) (fun h=>?_)
 ·have h:decide ((c.toNat:Int)≥48)=true:=h;rw [decide_eq_true_eq]at h;refine yR Tryz.func81 rfl trivial ?_;show vB (decide ((c.toNat:Int)≤57))=_;congr 2;simp only [eq_iff_iff];omega
 ·have h:decide ((c.toNat:Int)≥48)=false:=h;rw [decide_eq_false_iff_not]at h;refine yR Tryz.func81 rfl trivial ?_;show vB false=_;rw [decide_eq_false (by omega)]
@[reducible] def isDig(c:UInt8):Bool:=decide (48≤c.toNat∧c.toNat≤57)
def numN(l:List UInt8):Nat:=l.foldl (fun n c=>n*10+(c.toNat-48)) 0
theorem zat(l:List UInt8)(c:UInt8):numN (l++[c])=numN l*10+(c.toNat-48):=by simp [numN]
theorem zpe(l:List UInt8):∀n,n≤l.foldl (fun n c=>n*10+(c.toNat-48)) n:=by
 induction l with
 | nil=>exact fun n=>Nat.le_refl _
 | cons c r ih=>
  intro n;have:=ih (n*10+(c.toNat-48));simp only [List.foldl_cons];omega
theorem zii{α:Type}{d:α}{l:List α}{i:Nat}(h:i<l.length):l.getD i d=l[i]:=by simp [List.getD_eq_getElem?_getD,h]
theorem zi5(a b:List UInt8):numN a≤numN (a++b):=by
 unfold numN;rw [List.foldl_append];exact zpe _ _
def numDs(b:List UInt8)(i:Nat):List UInt8:=(b.drop i).take (runN isDig (b.drop i))
def numR(b:List UInt8)(i most:Int):Int×Int×Int:=
 if ¬(0≤i∧i≤b.length)then(0,0,2)
 else if runN isDig (b.drop i.toNat)=0∨(b.getD i.toNat 0=48∧1<runN isDig (b.drop i.toNat))then(0,i,2)
 else if min most 2147483647<numN (numDs b i.toNat)then(0,i,3)
 else(numN (numDs b i.toNat),i+runN isDig (b.drop i.toNat),0)
theorem takeW{l:List UInt8}{j:Nat}(h:j<runN isDig l):∃c,l[j]?=some c∧isDig c=true:=by
 induction l generalizing j with
 | nil=>simp [runN]at h
 | cons c r ih=>
  rw [z64]at h;split at h
  ·rename_i hc;cases j with
   | zero=>exact⟨c,rfl,hc.2⟩
   | succ j=>obtain⟨d,h1,h2⟩:=ih (j:=j) (by omega);exact⟨d,by simpa using h1,h2⟩
  ·omega
@[reducible] def numA(q:Int×Int×Int):AV:=tupOf [vI .i64 q.1,vI .i64 q.2.1,vI .i64 q.2.2]
theorem zhd(b:List UInt8)(i most:Int)(hb:b.length≤1000000):ACall Tryz.prog 51 [.d (eBy b),vI .i64 i,vI .i64 most] [] (fun r o=>r=numA (numR b i most)):=by
 refine yN Tryz.func51 fun C hC hCl hDs hGk=>?_;refine yV Tryz.func51 rfl trivial (z9c b i) (.refl _) ?_;refine yB Tryz.func51 rfl trivial (fun h=>?_) (fun h=>?_)
 ·rw [Bool.not_eq_true',decide_eq_false_iff_not]at h;refine yR Tryz.func51 rfl trivial ?_;rw [numR,if_pos h]
 have h:0≤i∧i≤b.length:=by
  rw [Bool.not_eq_false',decide_eq_true_eq]at h;exact h
 obtain⟨j,rfl⟩:∃j:Nat,i=j:=⟨i.toNat,by omega⟩
 have hj:j≤b.length:=by omega
 refine yV Tryz.func51 rfl trivial (zok 81 isDig zjx b j hj hb) (.refl _) ?_;have hR:numR b j most=if runN isDig (b.drop j)=0∨(b.getD j 0=48∧1<runN isDig (b.drop j))then(0,(j:Int),2)else if min most 2147483647<numN (numDs b j)then(0,(j:Int),3)else((numN (numDs b j):Int),(j:Int)+runN isDig (b.drop j),0):=by
  rw [numR,if_neg (fun hh=>hh h)];rfl
 rw [hR];have hkl:=zda isDig (b.drop j);rw [List.length_drop]at hkl;have htk:=@takeW (b.drop j);have hds:numDs b j=(b.drop j).take (runN isDig (b.drop j)):=rfl;clear hR;generalize numDs b j=ds at *;generalize runN isDig (b.drop j)=k at *;refine yB Tryz.func51 rfl trivial (fun h1=>?_) (fun h1=>?_)
 ·have h1:((((j+k:Nat):Int))==(j:Int))=true:=h1;have h1:k=0:=by
   rw [beq_iff_eq]at h1;omega
  refine yT Tryz.func51 rfl trivial ?_;refine yR Tryz.func51 rfl trivial ?_;rw [if_pos (.inl h1)]
 have h1:((((j+k:Nat):Int))==(j:Int))=false:=h1;have hk:0<k:=by
  rw [beq_eq_false_iff_ne]at h1;omega
 have wj:IntKind.i64.wrap ((j:Int)+1)=(j:Int)+1:=z7 (by omega) (by omega);have hgo:(¬(b.getD j 0=48∧1<k))→∀R0,R0=(if min most 2147483647<(numN ds:Int)then((0:Int),(j:Int),(3:Int))else((numN ds:Int),(j:Int)+k,0))→(if k=0∨(b.getD j 0=48∧1<k)then((0:Int),(j:Int),(2:Int))else if min most 2147483647<(numN ds:Int)then(0,(j:Int),3)else((numN ds:Int),(j:Int)+k,0))=R0:=fun hh R0 e=>by
  rw [if_neg (fun e=>e.elim (fun e=>by omega) hh),e]
 have hdl:ds.length=k:=by rw [hds,List.length_take,List.length_drop];omega
 have hdig:∀q,q<k→48≤(ds.getD q 0).toNat∧(ds.getD q 0).toNat≤57:=fun q hq=>by
  obtain⟨c,g1,g2⟩:=htk hq;have:ds.getD q 0=c:=by rw [hds,List.getD_eq_getElem?_getD,List.getElem?_take,if_pos hq,g1];rfl
  rw [this];exact of_decide_eq_true g2
 have hsl:List.take (((j+k:Nat):Int)-(j:Int)).toNat (List.drop (j:Int).toNat (b.map eU8))=ds.map eU8:=by
  rw [show(((j+k:Nat):Int)-(j:Int)).toNat=k by omega,Int.toNat_natCast,hds,List.map_take,List.map_drop]
 apply letK (p:=ASat Tryz.prog 51 Tryz.f51.ntmps C _ [(1,vI .i64 (j:Int)),(2,vI .i64 most),(9,vI .i64 ((j+k:Nat):Int)),(10,vI .i64 0),(40,.d (eBy ds)),(41,vI .i64 (k:Int)),(42,vI .i64 ((0:Nat):Int))] [] (fun r o=>r=numA (if min most 2147483647<(numN ds:Int)then((0:Int),(j:Int),(3:Int))else((numN ds:Int),(j:Int)+k,0))))
 ·intro key;refine yB Tryz.func51 rfl ?nd (fun h2=>?_) (fun h2=>?_);case nd=>
   simp only [List.length_map];exact⟨⟨by omega,by omega⟩,trivial⟩
  ·have h2:(((b.getD j 0).toNat:Int)==48)=true:=h2;have h2:b.getD j 0=48:=by
    rw [beq_iff_eq]at h2;exact UInt8.toNat_inj.1 (by show(b.getD j 0).toNat=48;omega)
   refine yB Tryz.func51 rfl trivial (fun h3=>?_) (fun h3=>?_)
   ·have h3:decide (((j+k:Nat):Int)>IntKind.i64.wrap ((j:Int)+1))=true:=h3;rw [wj,decide_eq_true_eq]at h3;refine yR Tryz.func51 rfl trivial ?_;rw [if_pos (.inr ⟨h2,by omega⟩)]
   ·have h3:decide (((j+k:Nat):Int)>IntKind.i64.wrap ((j:Int)+1))=false:=h3;rw [wj,decide_eq_false_iff_not]at h3;rw [hgo (fun hh=>by omega) _ rfl];refine yS Tryz.func51 rfl ?nd2 ?_;case nd2=>
     simp only [List.length_map];exact⟨⟨by omega,by omega,by omega⟩,trivial⟩
    refine yE key ⟨erl rfl,erl rfl,erl rfl,erl rfl,⟨_,rfl,.eL hsl⟩,⟨_,rfl,.of ?_⟩,erl rfl,trivial⟩ trivial;show vI .i64 (((List.take (((j+k:Nat):Int)-(j:Int)).toNat (List.drop (j:Int).toNat (b.map eU8))).length:Nat):Int)=_;rw [hsl,List.length_map,hdl]
  ·have h2:(((b.getD j 0).toNat:Int)==48)=false:=h2;have h2:b.getD j 0≠48:=fun e=>by rw [e]at h2;exact absurd h2 (by decide)
   rw [hgo (fun hh=>h2 hh.1) _ rfl];refine yF Tryz.func51 rfl trivial ?_;refine yS Tryz.func51 rfl ?nd3 ?_;case nd3=>
    simp only [List.length_map];exact⟨⟨by omega,by omega,by omega⟩,trivial⟩
   refine yE key ⟨erl rfl,erl rfl,erl rfl,erl rfl,⟨_,rfl,.eL hsl⟩,⟨_,rfl,.of ?_⟩,erl rfl,trivial⟩ trivial;show vI .i64 (((List.take (((j+k:Nat):Int)-(j:Int)).toNat (List.drop (j:Int).toNat (b.map eU8))).length:Nat):Int)=_;rw [hsl,List.length_map,hdl]
 refine z8 (α:=Nat) (fun q=>[(1,vI .i64 (j:Int)),(2,vI .i64 most),(9,vI .i64 ((j+k:Nat):Int)),(10,vI .i64 ((numN (ds.take q):Nat):Int)),(40,.d (eBy ds)),(41,vI .i64 (k:Int)),(42,vI .i64 ((q:Nat):Int))]) (fun q=>[]) (fun q=>q≤k∧(q=0∨(numN (ds.take q):Int)≤min most 2147483647)) (fun q=>k-q) 0 ⟨Nat.zero_le _,.inl rfl⟩ ?_ ?_
 ·exact fun h=>yE h (eAl rfl) trivial
 rintro q ⟨hq,hn⟩ ih;have hnb:numN (ds.take q)≤2147483647:=by
  rcases hn with rfl|hn
  ·simp [numN]
  ·omega
 refine yB Tryz.func51 rfl trivial (fun hb2=>?_) (fun hb2=>?_)
 ·have hb2:decide ((q:Int)<(k:Int))=true:=hb2;rw [decide_eq_true_eq]at hb2;have hlt:q<k:=by omega
  obtain⟨g1,g2⟩:=hdig q hlt;have hsn:numN (ds.take (q+1))=numN (ds.take q)*10+((ds.getD q 0).toNat-48):=by
   rw [List.take_succ_eq_append_getElem (by omega),zat,zii (d:=0) (by omega)]
  have e0:IntKind.u8.wrap (((ds.getD q 0).toNat:Int)-48)=((ds.getD q 0).toNat:Int)-48:=by
   generalize (ds.getD q 0).toNat=v at g1 g2;simp [IntKind.wrap,IntKind.bits,IntKind.signed];omega
  have e1:IntKind.i64.wrap (IntKind.i64.wrap (((numN (ds.take q):Nat):Int)*10)+IntKind.i64.wrap (IntKind.u8.wrap (((ds.getD q 0).toNat:Int)-48)))=((numN (ds.take (q+1)):Nat):Int):=by
   rw [e0,z7 (n:=((numN (ds.take q):Nat):Int)*10) (by omega) (by omega),z7 (n:=((ds.getD q 0).toNat:Int)-48) (by omega) (by omega),z7 (by omega) (by omega),hsn];omega
  refine yB Tryz.func51 rfl ?nd (fun h4=>?_) (fun h4=>?_);case nd=>
   simp only [List.length_map];exact⟨⟨by omega,by omega⟩,trivial⟩
  ·have h4:decide (IntKind.i64.wrap (IntKind.i64.wrap (((numN (ds.take q):Nat):Int)*10)+IntKind.i64.wrap (IntKind.u8.wrap (((ds.getD q 0).toNat:Int)-48)))>min most 2147483647)=true:=h4;rw [e1,decide_eq_true_eq]at h4;have hpre:=zi5 (ds.take (q+1)) (ds.drop (q+1));rw [List.take_append_drop]at hpre;refine yR Tryz.func51 rfl trivial ?_;rw [if_pos (by omega)]
  ·have h4:decide (IntKind.i64.wrap (IntKind.i64.wrap (((numN (ds.take q):Nat):Int)*10)+IntKind.i64.wrap (IntKind.u8.wrap (((ds.getD q 0).toNat:Int)-48)))>min most 2147483647)=false:=h4;rw [e1,decide_eq_false_iff_not]at h4;refine yS Tryz.func51 rfl trivial ?_;exact yE (ih (q+1) ⟨by omega,.inr (by omega)⟩ (by omega)) ⟨erl rfl,erl rfl,erl rfl,⟨_,rfl,.of (by show vI .i64 _=_;rw [←e1];rfl)⟩,erl rfl,erl rfl,erw rfl,trivial⟩ trivial
 ·have hb2:decide ((q:Int)<(k:Int))=false:=hb2;rw [decide_eq_false_iff_not]at hb2;obtain rfl:q=k:=by omega
  rw [List.take_of_length_le (by omega)]at hn hnb ⊢;refine yR Tryz.func51 rfl trivial ?_;rw [if_neg (by rcases hn with e|e<;>omega)];show tupOf [vI .i64 _,vI .i64 ((j+q:Nat):Int),vI .i64 0]=_;rw [show((j+q:Nat):Int)=(j:Int)+q by omega]
end Go.Proofs.YtbodbhpdelgpnaaGreatDoor
namespace Go.Proofs.YtbodbhpdelgpnaaGreatDoor
open Go Ab Go.RowKit Go.Lib
theorem z7d{k:Nat}(h:k<256):(UInt8.ofNat k).toNat=k:=by
 rw [UInt8.toNat_ofNat'];exact Nat.mod_eq_of_lt h
theorem zsn(u:Nat):∀c∈decDigits u,isDig c=true:=by
 induction u using Nat.strongRecOn with
 | _ u ih=>
  intro c hc;rw [decDigits]at hc;split at hc
  ·rename_i h;rw [List.mem_singleton]at hc;subst hc;unfold isDig;rw [z7d (by omega),decide_eq_true_eq];omega
  ·rename_i h;rcases List.mem_append.1 hc with hc|hc
   ·exact ih _ (by omega) c hc
   ·rw [List.mem_singleton]at hc;subst hc;unfold isDig;rw [z7d (by omega),decide_eq_true_eq];omega
theorem zth(u:Nat):decDigits u≠[]:=by
 rw [decDigits];split<;>simp
theorem zow(u:Nat):numN (decDigits u)=u:=by
 induction u using Nat.strongRecOn with
 | _ u ih=>
  rw [decDigits];split
  ·rename_i h;simp only [numN,List.foldl_cons,List.foldl_nil];rw [z7d (by omega)];omega
  ·rename_i h;rw [zat,ih _ (by omega),z7d (by omega)];omega
theorem zpt(u:Nat)(h:1≤u):∃c r,decDigits u=c::r∧c≠48:=by
 induction u using Nat.strongRecOn with
 | _ u ih=>
  rw [decDigits];split
  ·rename_i h2;refine⟨_,_,rfl,fun e=>?_⟩;have:=congrArg UInt8.toNat e;rw [z7d (by omega)]at this;have e48:(48:UInt8).toNat=48:=rfl;omega
  ·rename_i h2;obtain⟨c,r,h3,h4⟩:=ih (u / 10) (by omega) (by omega);rw [h3];exact⟨c,_,rfl,h4⟩
theorem ze5{c:UInt8}(h:isDig c=true):48≤c.toNat∧c.toNat≤57:=of_decide_eq_true h
theorem zip:∀(k:Nat) (ds:List UInt8),ds.length=k+1→(∀c∈ds,isDig c=true)→(ds.getD 0 0=48→ds.length=1)→decDigits (numN ds)=ds
 | 0,ds,hl,hd,_=>by
  obtain⟨c,rfl⟩:=List.length_eq_one_iff.1 hl;obtain⟨h1,h2⟩:=ze5 (hd c List.mem_cons_self);have e:numN [c]=c.toNat-48:=by simp [numN]
  rw [e,decDigits,dif_pos (by omega)];congr 1;apply UInt8.toNat_inj.1;rw [z7d (by omega)];omega
 | k+1,ds,hl,hd,h0=>by
  obtain⟨a,c,rfl⟩:∃a c,ds=a++[c]:=by
   have hne:ds≠[]:=by intro e;rw [e]at hl;cases hl
   exact⟨ds.dropLast,ds.getLast hne,(List.dropLast_concat_getLast hne).symm⟩
  have hal:a.length=k+1:=by simpa using hl
  obtain⟨x,r,rfl⟩:∃x r,a=x::r:=by
   cases a with
   | nil=>cases hal
   | cons x r=>exact⟨x,r,rfl⟩
  have hx:x≠48:=fun e=>by
   have:=h0 (by rw [e];rfl);rw [hl]at this;omega
  obtain⟨h1,h2⟩:=ze5 (hd c (by simp));obtain⟨h3,h4⟩:=ze5 (hd x (by simp));have hxn:x.toNat≠48:=fun e=>hx (UInt8.toNat_inj.1 e)
  have hge:1≤numN (x::r):=by
   have:=zi5 [x] r;have e:numN [x]=x.toNat-48:=by simp [numN]
   have e2:[x]++r=x::r:=rfl;rw [e2]at this;omega
  have ih:=zip k (x::r) hal (fun y hy=>hd y (List.mem_append_left _ hy)) (fun e=>absurd e hx);rw [zat,decDigits,dif_neg (by omega),show(numN (x::r)*10+(c.toNat-48)) / 10=numN (x::r)by omega,ih,show(numN (x::r)*10+(c.toNat-48))%10=c.toNat-48 by omega];congr 2;apply UInt8.toNat_inj.1;rw [z7d (by omega)];omega
theorem zhu:∀{ds:List UInt8},(∀c∈ds,isDig c=true)→∀(r:List UInt8),runN isDig (ds++r)=ds.length+runN isDig r
 | [],_,r=>by simp
 | c::ds,h,r=>by
  have h1:=ze5 (h c List.mem_cons_self);rw [List.cons_append,z64,if_pos ⟨by omega,h c List.mem_cons_self⟩,zhu (fun x hx=>h x (List.mem_cons_of_mem _ hx)) r,List.length_cons];omega
theorem zl0{c:UInt8}{r:List UInt8}(h:isDig c=false):runN isDig (c::r)=0:=by
 rw [z64,if_neg (fun hh=>by rw [h]at hh;cases hh.2)]
theorem zol(l:List UInt8):∀c∈l.take (runN isDig l),isDig c=true:=by
 induction l with
 | nil=>simp
 | cons x r ih=>
  rw [z64];split
  ·rename_i h;intro c hc;rw [List.take_succ_cons]at hc;rcases List.mem_cons.1 hc with rfl|hc
   ·exact h.2
   ·exact ih c hc
  ·simp
theorem zgu{b:List UInt8}{i:Int}{s:List UInt8}(h:isAt b i s=true):0≤i∧isTo b i s=i+s.length∧isTo b i s≤b.length:=by
 unfold isAt at h;rw [Bool.and_eq_true,decide_eq_true_eq]at h;obtain⟨h1,h2⟩:=h;have h3:isTo b i s=i+s.length:=by rw [isTo,if_neg (fun hh=>hh h1),if_pos h2]
 refine⟨h1.1,h3,?_⟩;rw [zdg,decide_eq_true_eq,List.length_drop]at h2;rw [h3];omega
theorem zs3{b:List UInt8}{at_:Int}{s:List UInt8}(h0:0≤at_)(h1:at_≤b.length):at_≤isTo b at_ s∧isTo b at_ s≤b.length:=by
 cases h:isAt b at_ s with
 | true=>
  have:=zgu h;omega
 | false=>
  unfold isAt at h;rw [decide_eq_true ⟨h0,h1⟩,Bool.true_and]at h;rw [isTo,if_neg (fun hh=>hh ⟨h0,h1⟩),if_neg (by rw [h];decide)];omega
theorem zlt{b:List UInt8}{i most:Int}(h:(numR b i most).2.2=0):0≤i∧i<(numR b i most).2.1∧(numR b i most).2.1≤b.length:=by
 unfold numR at h ⊢;split at h
 ·exact absurd h (by decide)
 ·rename_i h1;rw [if_neg h1];have h1:0≤i∧i≤b.length:=Decidable.not_not.1 h1;split at h
  ·exact absurd h (by simp)
  ·rename_i h2;rw [if_neg h2];split at h
   ·exact absurd h (by simp)
   ·rename_i h3;rw [if_neg h3];have:=zda isDig (b.drop i.toNat);rw [List.length_drop]at this;have hne:runN isDig (b.drop i.toNat)≠0:=fun e=>h2 (.inl e)
    refine⟨h1.1,?_,?_⟩<;>simp only<;>omega
theorem zio(a b:List UInt8)(i:Nat):(a++b).drop (a.length+i)=b.drop i:=by rw [←List.drop_drop,List.drop_left]
theorem zib(a b:List UInt8)(i:Nat)(hi:i≤b.length)(s:List UInt8):isAt (a++b) ((a.length+i:Nat):Int) s=isAt b (i:Int) s:=by
 unfold isAt;rw [decide_eq_true (show(0:Int)≤((a.length+i:Nat):Int)∧((a.length+i:Nat):Int)≤(a++b).length by rw [List.length_append];omega),decide_eq_true (show(0:Int)≤(i:Int)∧(i:Int)≤b.length by omega),Int.toNat_natCast,Int.toNat_natCast,zio]
theorem zpd(a b:List UInt8)(i:Nat):(a++b).getD (a.length+i) 0=b.getD i 0:=by
 rw [List.getD_eq_getElem?_getD,List.getD_eq_getElem?_getD,List.getElem?_append_right (by omega),Nat.add_sub_cancel_left]
theorem zot(a b:List UInt8)(i:Nat)(hi:i≤b.length)(most:Int):numR (a++b) ((a.length+i:Nat):Int) most=((numR b (i:Int) most).1,a.length+(numR b (i:Int) most).2.1,(numR b (i:Int) most).2.2):=by
 have h1:(0:Int)≤((a.length+i:Nat):Int)∧((a.length+i:Nat):Int)≤(a++b).length:=by rw [List.length_append];omega
 have h2:(0:Int)≤(i:Int)∧(i:Int)≤b.length:=by omega
 unfold numR numDs;rw [if_neg (not_not_intro h1),if_neg (not_not_intro h2),Int.toNat_natCast,Int.toNat_natCast,zio,zpd];split
 ·simp
 ·split
  ·simp
  ·simp only [Prod.mk.injEq,true_and,and_true];omega
theorem zb4(l s r:List UInt8):isAt (l++(s++r)) (l.length:Int) s=true:=by
 have h:=zib l (s++r) 0 (Nat.zero_le _) s;rw [Nat.add_zero]at h;rw [h];unfold isAt;rw [decide_eq_true (by simp;omega),Bool.true_and];simp
theorem zfg(l s r:List UInt8):isTo (l++(s++r)) (l.length:Int) s=l.length+s.length:=(zgu (zb4 l s r)).2.1
theorem zs7{c d:UInt8}{r s:List UInt8}(h:c≠d):isAt (c::r) 0 (d::s)=false:=by
 unfold isAt;simp [List.isPrefixOf,h.symm]
theorem zov{u:Nat}{n:Int}(hn:(u:Int)≤n)(hm:u≤2147483647){c:UInt8}(hc:isDig c=false)(r:List UInt8):numR (decDigits u++c::r) 0 n=((u:Int),((decDigits u).length:Int),0):=by
 have h0:(0:Int)≤0∧(0:Int)≤(decDigits u++c::r).length:=by omega
 have hrun:runN isDig (decDigits u++c::r)=(decDigits u).length:=by rw [zhu (zsn u),zl0 hc,Nat.add_zero]
 have hds:numDs (decDigits u++c::r) 0=decDigits u:=by rw [numDs,List.drop_zero,hrun,List.take_left]
 unfold numR;rw [if_neg (not_not_intro h0)];simp only [Int.toNat_zero,List.drop_zero,hrun,hds,zow];rw [if_neg,if_neg]
 ·simp
 ·omega
 ·rintro(h|⟨h1,h2⟩)
  ·exact zth u (List.eq_nil_of_length_eq_zero h)
  ·rcases Nat.eq_zero_or_pos u with rfl|hu
   ·rw [decDigits]at h2;simp at h2
   ·obtain⟨x,t,h3,h4⟩:=zpt u hu;rw [h3]at h1;exact h4 h1
theorem zic{b s:List UInt8}{i:Nat}(h:isAt b (i:Int) s=true):i+s.length≤b.length∧isTo b (i:Int) s=((i+s.length:Nat):Int)∧b.drop i=s++b.drop (i+s.length):=by
 obtain⟨h1,h2,h3⟩:=zgu h;refine⟨by omega,by omega,?_⟩;unfold isAt at h;rw [Bool.and_eq_true,Int.toNat_natCast]at h;obtain⟨t,ht⟩:=List.isPrefixOf_iff_prefix.1 h.2;rw [←List.drop_drop,←ht,List.drop_left]
theorem zou{b:List UInt8}{i:Nat}{n v nx:Int}(h:numR b (i:Int) n=(v,nx,0)):∃(u q:Nat),v=u∧nx=q∧i<q∧q≤b.length∧(u:Int)≤n∧u≤2147483647∧b.drop i=decDigits u++b.drop q:=by
 have hz:(numR b (i:Int) n).2.2=0:=by rw [h]
 have hpl:=zlt hz;rw [h]at hpl;simp only at hpl;unfold numR at h;rw [if_neg (not_not_intro ⟨by omega,by omega⟩),Int.toNat_natCast]at h;split at h
 ·simp at h
 ·rename_i h1;split at h
  ·simp at h
  ·rename_i h2;simp only [Prod.mk.injEq]at h;obtain⟨rfl,rfl,-⟩:=h;have hk:=zda isDig (b.drop i);rw [List.length_drop]at hk;have hdig:=zol (b.drop i);unfold numDs at h2 ⊢;generalize hkk:runN isDig (b.drop i)=k at *;have hk0:k≠0:=fun e=>h1 (.inl e)
   obtain⟨m,rfl⟩:∃m,k=m+1:=⟨k-1,by omega⟩
   have hl:((b.drop i).take (m+1)).length=m+1:=by rw [List.length_take,List.length_drop];omega
   have h0:((b.drop i).take (m+1)).getD 0 0=48→((b.drop i).take (m+1)).length=1:=fun e=>by
    have e2:((b.drop i).take (m+1)).getD 0 0=b.getD i 0:=by
     simp [List.getD_eq_getElem?_getD,List.getElem?_take,List.getElem?_drop]
    rw [e2]at e;rw [hl];have:¬1<m+1:=fun hh=>h1 (.inr ⟨e,hh⟩)
    omega
   refine⟨_,i+(m+1),rfl,by omega,by omega,by omega,by omega,by omega,?_⟩;rw [zip m _ hl hdig h0,←List.drop_drop,List.take_append_drop]
abbrev PR(α:Type):=(Int×Int) ⊕ (α×Int)
def bnd{α β:Type}(x:PR α)(f:α→Int→PR β):PR β:=match x with
 | .inl e=>.inl e
 | .inr (a,p)=>f a p
def wordP(b s:List UInt8)(at_:Int):PR Unit:=if isAt b at_ s=true then .inr ((),isTo b at_ s)else .inl (at_,2)
def numP(b:List UInt8)(most at_:Int):PR Int:=if(numR b at_ most).2.2≠0 then .inl (at_,(numR b at_ most).2.2)else .inr ((numR b at_ most).1,(numR b at_ most).2.1)
def At(b:List UInt8)(p:Nat)(r:List UInt8):Prop:=p≤b.length∧b.drop p=r
theorem At.split{b r:List UInt8}{p:Nat}(h:At b p r):b=b.take p++r∧(b.take p).length=p:=by
 obtain⟨h1,rfl⟩:=h;exact⟨(List.take_append_drop p b).symm,by rw [List.length_take];omega⟩
theorem At.step{b s r:List UInt8}{p:Nat}(h:At b p (s++r)):At b (p+s.length) r:=by
 obtain⟨h1,h2⟩:=h;have:=congrArg List.length h2;rw [List.length_drop,List.length_append]at this;refine⟨by omega,?_⟩;rw [←List.drop_drop,h2,List.drop_left]
theorem At.len{b r:List UInt8}{p:Nat}(h:At b p r):p+r.length=b.length:=by
 obtain⟨h1,rfl⟩:=h;rw [List.length_drop];omega
theorem z6q{b s r:List UInt8}{p:Nat}(h:At b p (s++r)):wordP b s (p:Int)=.inr ((),((p+s.length:Nat):Int)):=by
 obtain⟨h1,h2⟩:=h.split;have h3:=zb4 (b.take p) s r;have h4:=zfg (b.take p) s r;rw [←h1,h2]at h3 h4;unfold wordP;rw [if_pos h3,h4];simp
theorem zrt{b r:List UInt8}{p:Nat}{x most:Int}{c:UInt8}(h:At b p (tItoa x++c::r))(hc:isDig c=false)(h0:0≤x)(hu:x≤most)(hm:x≤2147483647):numP b most (p:Int)=.inr (x,((p+(tItoa x).length:Nat):Int)):=by
 obtain⟨u,rfl⟩:∃u:Nat,x=u:=⟨x.toNat,by omega⟩
 rw [show tItoa (u:Int)=decDigits u from itoa_nonneg u]at h ⊢;obtain⟨h1,h2⟩:=h.split;have h3:=zot (b.take p) (decDigits u++c::r) 0 (Nat.zero_le _) most;rw [show((0:Nat):Int)=0 from rfl,zov hu (by omega) hc r,Nat.add_zero,←h1,h2]at h3;unfold numP;rw [h3];simp
theorem At.assoc{b s t r:List UInt8}{p:Nat}(h:At b p (s++t++r)):At b p (s++(t++r)):=by rwa [List.append_assoc]at h
theorem zrs(b:List UInt8)(i most:Int):(numR b i most).2.2=0∨(numR b i most).2.2=2∨(numR b i most).2.2=3:=by
 unfold numR;split
 ·exact .inr (.inl rfl)
 ·split
  ·exact .inr (.inl rfl)
  ·split
   ·exact .inr (.inr rfl)
   ·exact .inl rfl
def RdT(b:List UInt8)(p q:Nat)(t:List UInt8):Prop:=q≤b.length∧b.drop p=t++b.drop q
theorem RdT.trans{b s t:List UInt8}{p q r:Nat}(h:RdT b p q s)(k:RdT b q r t):RdT b p r (s++t):=⟨k.1,by rw [h.2,k.2,List.append_assoc]⟩
def ErP(b:List UInt8)(a e:Int):Prop:=0≤a∧a≤b.length∧(e=2∨e=3)
structure GoodP{α:Type}(b:List UInt8)(p:Nat)(x:PR α)(R:α→List UInt8→Prop):Prop where
 ok:∀a e,x=.inr (a,e)→∃(q:Nat) (t:List UInt8),e=(q:Int)∧RdT b p q t∧R a t
 er:∀a e,x=.inl (a,e)→ErP b a e
theorem z2n{α β:Type}{b:List UInt8}{p:Nat}{x:PR α}{f:α→Int→PR β}{R:α→List UInt8→Prop}{R3:β→List UInt8→Prop}(h:GoodP b p x R)(hf:∀a (q:Nat) t,RdT b p q t→R a t→GoodP b q (f a (q:Int)) (fun r t2=>R3 r (t++t2))):GoodP b p (bnd x f) R3:=by
 constructor
 ·intro r e hr;cases x with
  | inl y=>cases hr
  | inr y=>
   obtain⟨a,p1⟩:=y;obtain⟨q,t,rfl,h1,h2⟩:=h.ok a p1 rfl;obtain⟨q2,t2,h3,h4,h5⟩:=(hf a q t h1 h2).ok r e hr;exact⟨q2,t++t2,h3,h1.trans h4,h5⟩
 ·intro a1 e hr;cases x with
  | inl y=>
   obtain⟨y1,y2⟩:=y;cases hr;exact h.er _ _ rfl
  | inr y=>
   obtain⟨a,p1⟩:=y;obtain⟨q,t,rfl,h1,h2⟩:=h.ok a p1 rfl;exact(hf a q t h1 h2).er a1 e hr
theorem z8e{α:Type}{b:List UInt8}{p:Nat}{a:α}{R:α→List UInt8→Prop}(hp:p≤b.length)(h:R a []):GoodP b p (.inr (a,(p:Int))) R:=
 ⟨fun x e hx=>by cases hx;exact⟨p,[],rfl,⟨hp,rfl⟩,h⟩,fun x e hx=>by cases hx⟩
theorem z8f{α:Type}{b:List UInt8}{p:Nat}{x:PR α}{R R':α→List UInt8→Prop}(h:GoodP b p x R)(hr:∀a t,R a t→R' a t):GoodP b p x R':=
 ⟨fun a e hx=>by obtain⟨q,t,h1,h2,h3⟩:=h.ok a e hx;exact⟨q,t,h1,h2,hr a t h3⟩,h.er⟩
theorem z4x{b s:List UInt8}{p:Nat}(hp:p≤b.length):GoodP b p (wordP b s (p:Int)) (fun _ t=>t=s):=by
 unfold wordP;constructor
 ·intro a e h;split at h
  ·rename_i h1;obtain⟨i1,i2,i3⟩:=zic h1;simp only [Sum.inr.injEq,Prod.mk.injEq]at h;exact⟨p+s.length,s,by rw [←h.2,i2],⟨i1,i3⟩,rfl⟩
  ·cases h
 ·intro a e h;split at h
  ·cases h
  ·simp only [Sum.inl.injEq,Prod.mk.injEq]at h;exact⟨by omega,by omega,.inl (by omega)⟩
theorem zos{b:List UInt8}{p:Nat}{most:Int}(hp:p≤b.length):GoodP b p (numP b most (p:Int)) (fun x t=>t=tItoa x∧0≤x∧x≤most):=by
 unfold numP;constructor
 ·intro a e h;split at h
  ·cases h
  ·rename_i h1;have h1:(numR b (p:Int) most).2.2=0:=Decidable.not_not.1 h1;simp only [Sum.inr.injEq,Prod.mk.injEq]at h;obtain⟨u,q,i1,i2,i3,i4,i5,i6,i7⟩:=zou (v:=(numR b (p:Int) most).1) (nx:=(numR b (p:Int) most).2.1) (by rw [←h1]);refine⟨q,tItoa a,by rw [←h.2,i2],⟨i4,?_⟩,rfl,by omega,by omega⟩;rw [←h.1,i1,i7,show tItoa (u:Int)=decDigits u from itoa_nonneg u]
 ·intro a e h;split at h
  ·rename_i h1;simp only [Sum.inl.injEq,Prod.mk.injEq]at h;refine⟨by omega,by omega,?_⟩;have:=zrs b (p:Int) most;omega
  ·cases h
theorem RdT.len{b t:List UInt8}{p q:Nat}(h:RdT b p q t)(hp:p≤b.length):q=p+t.length:=by
 have:=congrArg List.length h.2;rw [List.length_drop,List.length_append,List.length_drop]at this;have:=h.1;omega
def stP{α:Type}(q:PR α):Int×Int:=match q with
 | .inl e=>e
 | .inr (_,p)=>(p,0)
def OkS{α:Type}(b:List UInt8)(q:PR α):Prop:=match q with
 | .inl e=>e.2≠0∧0≤e.1∧e.1≤b.length
 | .inr (_,p)=>0≤p∧p≤b.length
theorem OkS.bnd{α β:Type}{b:List UInt8}{q:PR α}{f:α→Int→PR β}(h:OkS b q)(hf:∀a p,q=.inr (a,p)→0≤p→p≤b.length→OkS b (f a p)):OkS b (bnd q f):=by
 cases q with
 | inl e=>exact h
 | inr x=>exact hf x.1 x.2 rfl h.1 h.2
theorem OkS.word{b s:List UInt8}{p:Int}(h0:0≤p)(h1:p≤b.length):OkS b (wordP b s p):=by
 unfold wordP;split
 ·exact zs3 h0 h1 |>.imp (by omega) id
 ·exact⟨by show(2:Int)≠0;decide,h0,h1⟩
theorem OkS.num{b:List UInt8}{m p:Int}(h0:0≤p)(h1:p≤b.length):OkS b (numP b m p):=by
 unfold numP;split
 ·exact⟨by assumption,h0,h1⟩
 ·rename_i h;obtain⟨h2,h3,h4⟩:=zlt (Decidable.not_not.1 h);exact⟨by show 0≤(numR b p m).2.1;omega,h4⟩
theorem zs2{b s:List UInt8}{p:Int}(h0:0≤p)(h1:p≤b.length)(h:isAt b p s=false):isTo b p s=p:=by
 unfold isAt at h;rw [decide_eq_true (show 0≤p∧p≤b.length from⟨h0,h1⟩),Bool.true_and]at h;rw [isTo,if_neg (not_not_intro ⟨h0,h1⟩),if_neg (by rw [h];decide)]
theorem zrr{b:List UInt8}{m p:Int}(h0:0≤p)(h1:p≤b.length)(h:(numR b p m).2.2≠0):(numR b p m).1=0∧(numR b p m).2.1=p:=by
 unfold numR at h ⊢;rw [if_neg (not_not_intro ⟨h0,h1⟩)]at h ⊢;split at h
 ·rename_i h2;rw [if_pos h2];exact⟨rfl,rfl⟩
 ·rename_i h2;rw [if_neg h2];split at h
  ·rename_i h3;rw [if_pos h3];exact⟨rfl,rfl⟩
  ·exact absurd rfl h
def valP(q:PR Int):Int:=match q with
 | .inl _=>0
 | .inr (x,_)=>x
theorem GoodP.okS{α:Type}{b:List UInt8}{p:Nat}{x:PR α}{R:α→List UInt8→Prop}(h:GoodP b p x R):OkS b x:=by
 rcases x with⟨a,e⟩|⟨a,e⟩
 ·have:=h.er a e rfl;unfold ErP at this;exact⟨by show e≠0;omega,this.1,this.2.1⟩
 ·obtain⟨q,t,rfl,h1,-⟩:=h.ok a e rfl;exact⟨by omega,by have:=h1.1;omega⟩
theorem z16{α β:Type}(a:α)(p:Int)(f:α→Int→PR β):bnd (.inr (a,p)) f=f a p:=rfl
theorem zo3(a p:Int):valP (.inr (a,p))=a:=rfl
end Go.Proofs.YtbodbhpdelgpnaaGreatDoor
