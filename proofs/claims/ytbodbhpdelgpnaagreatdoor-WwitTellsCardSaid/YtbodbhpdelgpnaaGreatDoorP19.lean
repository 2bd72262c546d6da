/- A part of the proof. -/
import Derived.Test.YtbodbhpdelgpnaaGreatDoorP18
import Derived.KernelRfl
set_option linter.unusedVariables false
set_option linter.unusedSimpArgs false
set_option linter.unusedSectionVars false
set_option maxRecDepth 100000
set_option maxHeartbeats 8000000
namespace Go.Proofs.YtbodbhpdelgpnaaGreatDoor
open Go Ab
theorem zn6(w:World):(Go.method (Tryz.prog.types.size+Made.depth) 190 (.agg #[]) "vidimus/word.value").run Tryz.prog w=.ok (199,.agg #[]) w:=by kernel_rfl
theorem zqe(w:World):(Go.method (Tryz.prog.types.size+Made.depth) 191 (.agg #[]) "vidimus/word.value").run Tryz.prog w=.ok (200,.agg #[]) w:=by kernel_rfl
theorem zn4(w:World):(Go.method (Tryz.prog.types.size+Made.depth) 192 (.agg #[]) "vidimus/word.value").run Tryz.prog w=.ok (202,.agg #[]) w:=by kernel_rfl
theorem zn5(w:World):(Go.method (Tryz.prog.types.size+Made.depth) 193 (.agg #[]) "vidimus/word.value").run Tryz.prog w=.ok (206,.agg #[]) w:=by kernel_rfl
theorem zqd(w:World):(Go.method (Tryz.prog.types.size+Made.depth) 196 (.agg #[]) "vidimus/word.value").run Tryz.prog w=.ok (213,.agg #[]) w:=by kernel_rfl
theorem zj7(w:World):(Go.method (Tryz.prog.types.size+Made.depth) 197 (.agg #[]) "vidimus/word.value").run Tryz.prog w=.ok (233,.agg #[]) w:=by kernel_rfl
@[reducible] def eNums(l:List (Nat×Nat)):D:=eL 2 (fun p:Nat×Nat=>vN p.1 p.2) (0,0) l
@[reducible] def aG0:AV:=.d (.ag [])
@[reducible] def aI(t:TypeId):AV:=.d (.ifc t (.ag []))
theorem zmv(x:Nd)(w y w' y':Nat)(h:ACall Tryz.prog 214 [vSL x.op,.d (vN w y)] [] (fun r o=>r=tupOf [.d (vN w' y'),vI .i64 0])):ACall Tryz.prog 213 [aG0,.d (eNd x),.d (eNums [(w,y)])] [] (fun r o=>r=tupOf [.d (vN w' y'),vI .i64 0]):=by
 refine yN Tryz.func213 fun C hC hCl hDs hGk=>?_;refine yO 8 Tryz.func213 rfl trivial ?_;refine yQ Tryz.func214 rfl (by simp [andP]<;>omega) h (.refl _) ?_;refine yq rfl trivial ?_;exact yR Tryz.func213 rfl trivial rfl
theorem zfb(x:Nd)(w y v z w' y':Nat)(h:ACall Tryz.prog 234 [vSL x.op,.d (vN w y),.d (vN v z)] [] (fun r o=>r=tupOf [.d (vN w' y'),vI .i64 0])):ACall Tryz.prog 233 [aG0,.d (eNd x),.d (eNums [(w,y),(v,z)])] [] (fun r o=>r=tupOf [.d (vN w' y'),vI .i64 0]):=by
 refine yN Tryz.func233 fun C hC hCl hDs hGk=>?_;refine yO 11 Tryz.func233 rfl trivial ?_;refine yQ Tryz.func234 rfl (by simp [andP]<;>omega) h (.refl _) ?_;refine yq rfl trivial ?_;exact yR Tryz.func233 rfl trivial rfl
theorem zng(x:Nd)(c w y z:Nat)(hc:c<2^1):ACall Tryz.prog 200 [aG0,.d (eNd x),.d (eNums [(1,c),(w,y),(w,z)])] [] (fun r o=>r=tupOf [.d (vN w (if c=1 then y else z)),vI .i64 0]):=by
 refine yN Tryz.func200 fun C hC hCl hDs hGk=>?_;refine yO 12 Tryz.func200 rfl trivial ?_;refine yQ Tryz.func201 rfl (by simp [andP]<;>omega) (zuv c w y z hc) (.refl _) ?_;refine yq rfl trivial ?_;exact yR Tryz.func200 rfl trivial rfl
theorem zkd(x:Nd)(w y lo hi:Nat)(hwb:w≤128)(h1:lo≤hi)(h2:hi<w)(hn:x.n.length=2)(e0:x.n.getD 0 0=hi)(e1:x.n.getD 1 0=lo):ACall Tryz.prog 202 [aG0,.d (eNd x),.d (eNums [(w,y)])] [] (fun r o=>r=tupOf [.d (vN (hi-lo+1) (slN y lo (hi-lo+1))),vI .i64 0]):=by
 refine yN Tryz.func202 fun C hC hCl hDs hGk=>?_;refine yO 14 Tryz.func202 rfl trivial ?_;refine yQ Tryz.func203 rfl (by simp [andP,hn]<;>omega) (zrh w y lo hi hwb h1 h2) ⟨.refl _,.of (by show AV.d (eI (x.n.getD 0 0))=_;rw [e0];rfl),.of (by show AV.d (eI (x.n.getD 1 0))=_;rw [e1];rfl),trivial⟩ ?_;refine yq rfl trivial ?_;exact yR Tryz.func202 rfl trivial rfl
theorem zkf(x:Nd)(w y n:Nat)(s:Bool)(hw:0<w)(hwb:w≤128)(hnb:w+n≤128)(hn:x.n.length=1)(e0:x.n.getD 0 0=n)(hs:decide (x.op=kSext)=s):ACall Tryz.prog 206 [aG0,.d (eNd x),.d (eNums [(w,y)])] [] (fun r o=>r=tupOf [.d (vN (w+n) (exN w y n (s&&y.testBit (w-1)))),vI .i64 0]):=by
 refine yN Tryz.func206 fun C hC hCl hDs hGk=>?_;refine yO 13 Tryz.func206 rfl trivial ?_;refine yQ Tryz.func207 rfl (by simp [andP,hn]<;>omega) (zuw w y n s hw hwb hnb (repOk _ _ (by omega))) ⟨.refl _,.of (by show AV.d (eI (x.n.getD 0 0))=_;rw [e0];rfl),.of (by show vB ((⟨x.op.toArray⟩:ByteArray).toList==(⟨kSext.toArray⟩:ByteArray).toList)=_;rw [strB,hs]),trivial⟩ ?_;refine yq rfl trivial ?_;exact yR Tryz.func206 rfl trivial rfl
theorem zl2(x:Nd)(a:List (Nat×Nat))(w y:Nat)(hl:x.t.length≤1000000000)(h:mkR x.t=tupOf [.d (vN w y),vI .i64 0]):ACall Tryz.prog 199 [aG0,.d (eNd x),.d (eNums a)] [] (fun r o=>r=tupOf [.d (vN w y),vI .i64 0]):=by
 refine yN Tryz.func199 fun C hC hCl hDs hGk=>?_;refine yV Tryz.func199 rfl trivial ((z4t x.t hl).mono fun r o hr=>hr.trans h) (.refl _) ?_;exact yR Tryz.func199 rfl trivial rfl
def ofT(x:Nd):TypeId:=if x.op=z11 then 190 else if x.op=kIte then 191 else if x.op=z1d then 192 else if x.op=kUext∨x.op=kSext then 193 else if x.a.length=1 then 196 else 197
def ofE:List (List UInt8×AV):=[(z11,aI 190),(kIte,aI 191),(z1d,aI 192),(kUext,aI 193),(kSext,aI 193)]
theorem zq7(op:List UInt8):MFind (strK op) (ofE.map fun p=>(strK p.1,p.2)) (z2o op ofE):=by
 have:=z80 op (fun i=>i) ofE;have e1:renEs (fun i=>i) (ofE.map fun p=>(strK p.1,p.2))=ofE.map fun p=>(strK p.1,p.2):=rfl
 have e2:(z2o op ofE).map (AV.ren fun i=>i)=z2o op ofE:=by
  cases h:z2o op ofE with
  | none=>rfl
  | some a=>
   have:∀es:List (List UInt8×AV),(∀p∈es,∃t,p.2=aI t)→z2o op es=some a→∃t,a=aI t:=by
    intro es;induction es with
    | nil=>intro _ h;cases h
    | cons p r ih=>
     intro h1 h2;simp only [z2o]at h2;split at h2
     ·cases h2;exact h1 p (List.mem_cons_self ..)
     ·exact ih (fun q hq=>h1 q (List.mem_cons_of_mem _ hq)) h2
   obtain⟨t,rfl⟩:=this ofE (by
    intro p hp;simp only [ofE,List.mem_cons,List.not_mem_nil,or_false]at hp;rcases hp with rfl|rfl|rfl|rfl|rfl<;>exact⟨_,rfl⟩) h
   rfl
 rw [e1,e2]at this;exact this
theorem zt0(x:Nd):ACall Tryz.prog 100 [.d (eNd x)] [] (fun r o=>r=aI (ofT x)):=by
 refine yN Tryz.func100 fun C hC hCl hDs hGk=>?_;refine yX 12 Tryz.func100 rfl trivial ?_;refine zn (es':=(ofE.take 1).map fun p=>(strK p.1,p.2)) tabOk rfl rfl rfl rfl rfl rfl rfl rfl rfl rfl rfl rfl (by kernel_rfl) ?_ ?_
 ·exact zz (k:=z11) (es:=ofE.take 0) (by intro p hp;revert p;decide)
 refine zv (env':=[(1,.ptr 0 0),(2,.d (.v .nilIface)),(6,.mp 1)]) (objs':=[some (bNd x),some (mpK (ofE.take 1))]) ?_ hC hCl ⟨⟨_,rfl,.refl _⟩,⟨_,rfl,.refl _⟩,⟨_,rfl,.refl _⟩,trivial⟩ ⟨.refl _,.refl _,trivial⟩ rfl rfl (Nat.zero_le _);refine yX 2 Tryz.func100 rfl trivial ?_;refine zn (es':=(ofE.take 2).map fun p=>(strK p.1,p.2)) tabOk rfl rfl rfl rfl rfl rfl rfl rfl rfl rfl rfl rfl (by kernel_rfl) ?_ ?_
 ·exact zz (k:=kIte) (es:=ofE.take 1) (by intro p hp;revert p;decide)
 refine zv (env':=[(1,.ptr 0 0),(2,.d (.v .nilIface)),(6,.mp 1)]) (objs':=[some (bNd x),some (mpK (ofE.take 2))]) ?_ hC hCl ⟨⟨_,rfl,.refl _⟩,⟨_,rfl,.refl _⟩,⟨_,rfl,.refl _⟩,trivial⟩ ⟨.refl _,.refl _,trivial⟩ rfl rfl (Nat.zero_le _);refine yX 2 Tryz.func100 rfl trivial ?_;refine zn (es':=(ofE.take 3).map fun p=>(strK p.1,p.2)) tabOk rfl rfl rfl rfl rfl rfl rfl rfl rfl rfl rfl rfl (by kernel_rfl) ?_ ?_
 ·exact zz (k:=z1d) (es:=ofE.take 2) (by intro p hp;revert p;decide)
 refine zv (env':=[(1,.ptr 0 0),(2,.d (.v .nilIface)),(6,.mp 1)]) (objs':=[some (bNd x),some (mpK (ofE.take 3))]) ?_ hC hCl ⟨⟨_,rfl,.refl _⟩,⟨_,rfl,.refl _⟩,⟨_,rfl,.refl _⟩,trivial⟩ ⟨.refl _,.refl _,trivial⟩ rfl rfl (Nat.zero_le _);refine yX 2 Tryz.func100 rfl trivial ?_;refine zn (es':=(ofE.take 4).map fun p=>(strK p.1,p.2)) tabOk rfl rfl rfl rfl rfl rfl rfl rfl rfl rfl rfl rfl (by kernel_rfl) ?_ ?_
 ·exact zz (k:=kUext) (es:=ofE.take 3) (by intro p hp;revert p;decide)
 refine zv (env':=[(1,.ptr 0 0),(2,.d (.v .nilIface)),(6,.mp 1)]) (objs':=[some (bNd x),some (mpK (ofE.take 4))]) ?_ hC hCl ⟨⟨_,rfl,.refl _⟩,⟨_,rfl,.refl _⟩,⟨_,rfl,.refl _⟩,trivial⟩ ⟨.refl _,.refl _,trivial⟩ rfl rfl (Nat.zero_le _);refine yX 2 Tryz.func100 rfl trivial ?_;refine zn (es':=(ofE.take 5).map fun p=>(strK p.1,p.2)) tabOk rfl rfl rfl rfl rfl rfl rfl rfl rfl rfl rfl rfl (by kernel_rfl) ?_ ?_
 ·exact zz (k:=kSext) (es:=ofE.take 4) (by intro p hp;revert p;decide)
 refine zv (env':=[(1,.ptr 0 0),(2,.d (.v .nilIface)),(6,.mp 1)]) (objs':=[some (bNd x),some (mpK (ofE.take 5))]) ?_ hC hCl ⟨⟨_,rfl,.refl _⟩,⟨_,rfl,.refl _⟩,⟨_,rfl,.refl _⟩,trivial⟩ ⟨.refl _,.refl _,trivial⟩ rfl rfl (Nat.zero_le _);refine yX 16 Tryz.func100 rfl trivial ?_;have hof:(z2o x.op ofE=some (aI (ofT x)))∨(z2o x.op ofE=none∧ofT x=if x.a.length=1 then 196 else 197):=by
  unfold ofT;by_cases h1:x.op=z11
  ·rw [if_pos h1,h1];exact .inl rfl
  by_cases h2:x.op=kIte
  ·rw [if_neg h1,if_pos h2,h2];exact .inl rfl
  by_cases h3:x.op=z1d
  ·rw [if_neg h1,if_neg h2,if_pos h3,h3];exact .inl rfl
  by_cases h4:x.op=kUext
  ·rw [if_neg h1,if_neg h2,if_neg h3,if_pos (.inl h4),h4];exact .inl rfl
  by_cases h5:x.op=kSext
  ·rw [if_neg h1,if_neg h2,if_neg h3,if_pos (.inr h5),h5];exact .inl rfl
  rw [if_neg h1,if_neg h2,if_neg h3,if_neg (by rintro(h|h);exact h4 h;exact h5 h)];refine .inr ⟨?_,rfl⟩;rw [ofE,z16 h1,z16 h2,z16 h3,z16 h4,z16 h5];rfl
 have hfind:=zq7 x.op;rcases hof with h|⟨h,hT⟩
 ·rw [h]at hfind;refine z27 tabOk rfl rfl rfl rfl rfl rfl rfl rfl rfl rfl rfl rfl hfind rfl ?_;refine yT Tryz.func100 rfl trivial ?_;exact yR Tryz.func100 rfl trivial rfl
 ·rw [h]at hfind;refine z27 tabOk rfl rfl rfl rfl rfl rfl rfl rfl rfl rfl rfl rfl hfind rfl ?_;refine yF Tryz.func100 rfl trivial ?_;refine yB Tryz.func100 rfl trivial (fun g=>?_) (fun g=>?_)
  ·have g:((((x.a.map eI).length:Nat):Int)==1)=true:=g;rw [List.length_map]at g;refine yR Tryz.func100 rfl trivial ?_;rw [hT,if_pos (by have:=eq_of_beq g;omega)];rfl
  ·have g:((((x.a.map eI).length:Nat):Int)==1)=false:=g;rw [List.length_map]at g;refine yR Tryz.func100 rfl trivial ?_;rw [hT,if_neg (by rintro e;rw [e]at g;cases g)];rfl
def unV(op:List UInt8)(w x:Nat):Option (Nat×Nat):=
 if op=sNot then some (w,2^w-(x+1))
 else if op=sInc then some (w,(x+1)%2^w)
 else if op=sDec then some (w,(x+(2^w-1))%2^w)
 else if op=sNeg then some (w,(0+(2^w-(x+1))+1)%2^w)
 else if op=z3v then some (1,if onN w x=w then 1 else 0)
 else if op=z6a then some (1,if 0<onN w x then 1 else 0)
 else if op=z3u then some (1,if onN w x%2=1 then 1 else 0)
 else none
theorem zro(op:List UInt8)(w x:Nat):unR op w x=rbinA (unV op w x):=by
 unfold unR unV;by_cases h1:op=sNot
 ·rw [if_pos h1,if_pos h1];rfl
 by_cases h2:op=sInc
 ·rw [if_neg h1,if_pos h2,if_neg h1,if_pos h2];rfl
 by_cases h3:op=sDec
 ·rw [if_neg h1,if_neg h2,if_pos h3,if_neg h1,if_neg h2,if_pos h3];rfl
 by_cases h4:op=sNeg
 ·rw [if_neg h1,if_neg h2,if_neg h3,if_pos h4,if_neg h1,if_neg h2,if_neg h3,if_pos h4];rfl
 by_cases h5:op=z3v
 ·rw [if_neg h1,if_neg h2,if_neg h3,if_neg h4,if_pos h5,if_neg h1,if_neg h2,if_neg h3,if_neg h4,if_pos h5];rfl
 by_cases h6:op=z6a
 ·rw [if_neg h1,if_neg h2,if_neg h3,if_neg h4,if_neg h5,if_pos h6,if_neg h1,if_neg h2,if_neg h3,if_neg h4,if_neg h5,if_pos h6];rfl
 by_cases h7:op=z3u
 ·rw [if_neg h1,if_neg h2,if_neg h3,if_neg h4,if_neg h5,if_neg h6,if_pos h7,if_neg h1,if_neg h2,if_neg h3,if_neg h4,if_neg h5,if_neg h6,if_pos h7];rfl
 rw [if_neg h1,if_neg h2,if_neg h3,if_neg h4,if_neg h5,if_neg h6,if_neg h7,if_neg h1,if_neg h2,if_neg h3,if_neg h4,if_neg h5,if_neg h6,if_neg h7];rfl
def isRed(op:List UInt8):Prop:=op=z22∨op=z2n∨op=z1z
def isCmp(op:List UInt8):Prop:=op=kEq∨op=kUlt∨op=kSlt
theorem zu6{op:List UInt8}{w x:Nat}{p:Nat×Nat}(hx:x<2^w)(h:unV op w x=some p):p.2<2^p.1∧((isRed op∧p.1=1)∨(¬isRed op∧p.1=w)):=by
 have hp:=Nat.two_pow_pos w;unfold unV at h;by_cases h1:op=sNot
 ·rw [if_pos h1]at h;cases h;subst h1;exact⟨by show _<2^w;omega,.inr ⟨by unfold isRed;decide,rfl⟩⟩
 by_cases h2:op=sInc
 ·rw [if_neg h1,if_pos h2]at h;cases h;subst h2;exact⟨Nat.mod_lt _ hp,.inr ⟨by unfold isRed;decide,rfl⟩⟩
 by_cases h3:op=sDec
 ·rw [if_neg h1,if_neg h2,if_pos h3]at h;cases h;subst h3;exact⟨Nat.mod_lt _ hp,.inr ⟨by unfold isRed;decide,rfl⟩⟩
 by_cases h4:op=sNeg
 ·rw [if_neg h1,if_neg h2,if_neg h3,if_pos h4]at h;cases h;subst h4;exact⟨Nat.mod_lt _ hp,.inr ⟨by unfold isRed;decide,rfl⟩⟩
 by_cases h5:op=z3v
 ·rw [if_neg h1,if_neg h2,if_neg h3,if_neg h4,if_pos h5]at h;cases h;exact⟨by show(if _ then _ else _)<2^1;split<;>decide,.inl ⟨.inl h5,rfl⟩⟩
 by_cases h6:op=z6a
 ·rw [if_neg h1,if_neg h2,if_neg h3,if_neg h4,if_neg h5,if_pos h6]at h;cases h;exact⟨by show(if _ then _ else _)<2^1;split<;>decide,.inl ⟨.inr (.inl h6),rfl⟩⟩
 by_cases h7:op=z3u
 ·rw [if_neg h1,if_neg h2,if_neg h3,if_neg h4,if_neg h5,if_neg h6,if_pos h7]at h;cases h;exact⟨by show(if _ then _ else _)<2^1;split<;>decide,.inl ⟨.inr (.inr h7),rfl⟩⟩
 rw [if_neg h1,if_neg h2,if_neg h3,if_neg h4,if_neg h5,if_neg h6,if_neg h7]at h;cases h
theorem zus{op:List UInt8}{w x y:Nat}{p:Nat×Nat}(h:binR op w x y=some p):(isCmp op∧p.1=1)∨(¬isCmp op∧p.1=w):=by
 by_cases hc:isCmp op
 ·refine .inl ⟨hc,?_⟩;rcases hc with rfl|rfl|rfl<;>(revert h;intro h;cases h;rfl)
 ·refine .inr ⟨hc,?_⟩;have n1:op≠sEq:=fun e=>hc (.inl e)
  have n2:op≠sUlt:=fun e=>hc (.inr (.inl e))
  have n3:op≠sSlt:=fun e=>hc (.inr (.inr e))
  unfold binR at h;rw [if_neg n1,if_neg n2,if_neg n3]at h;revert h;repeat' split
  all_goals (intro h;cases h)
  all_goals rfl
def opV(x:Nd)(a:List (Nat×Nat)):Nat×Nat:=
 if x.op=z11 then(x.t.length,mkN x.t)
 else if x.op=kIte then((a.getD 1 (0,0)).1,if(a.getD 0 (0,0)).2=1 then(a.getD 1 (0,0)).2 else(a.getD 2 (0,0)).2)
 else if x.op=z1d then((x.n.getD 0 0).toNat-(x.n.getD 1 0).toNat+1,slN (a.getD 0 (0,0)).2 (x.n.getD 1 0).toNat ((x.n.getD 0 0).toNat-(x.n.getD 1 0).toNat+1))
 else if x.op=kUext∨x.op=kSext then((a.getD 0 (0,0)).1+(x.n.getD 0 0).toNat,exN (a.getD 0 (0,0)).1 (a.getD 0 (0,0)).2 (x.n.getD 0 0).toNat (decide (x.op=kSext)&&(a.getD 0 (0,0)).2.testBit ((a.getD 0 (0,0)).1-1)))
 else if x.a.length=1 then(unV x.op (a.getD 0 (0,0)).1 (a.getD 0 (0,0)).2).getD (0,0)
 else if x.op=z1e then((a.getD 0 (0,0)).1+(a.getD 1 (0,0)).1,jnN (a.getD 0 (0,0)).1 (a.getD 0 (0,0)).2 (a.getD 1 (0,0)).1 (a.getD 1 (0,0)).2)
 else(binR x.op (a.getD 0 (0,0)).1 (a.getD 0 (0,0)).2 (a.getD 1 (0,0)).2).getD (0,0)
theorem zt9{op:List UInt8}(h:(formR op).2=true)(hv:isVal op=true)(h1:op≠z11)(h2:op≠zq)(h3:op≠ze)(h4:op≠kIte)(h5:op≠z1d)(h6:op≠kUext)(h7:op≠kSext):
  ((formR op).1.count 97=1∧(∀w x,(unV op w x).isSome=true)∧∀k∈[kSort,zq,ze,z11,kBad,zg,kInit,kNext,kEq,kUlt,kSlt,z1e,kIte,z1d,kUext,kSext],op≠k) ∨
  ((formR op).1.count 97=2∧(op=z1e∨(op≠z1e∧(∀w x y,(binR op w x y).isSome=true)∧∀k∈[kSort,zq,ze,z11,kBad,zg,kInit,kNext,z22,z2n,z1z,z1e,kIte,z1d,kUext,kSext],op≠k))):=by
 have key:∀p:List UInt8×Bool→Prop,p=(fun f=>f.2=true→((f.1.count 97=1∧(∀w x,(unV op w x).isSome=true)∧∀k∈[kSort,zq,ze,z11,kBad,zg,kInit,kNext,kEq,kUlt,kSlt,z1e,kIte,z1d,kUext,kSext],op≠k) ∨
  (f.1.count 97=2∧(op=z1e∨(op≠z1e∧(∀w x y,(binR op w x y).isSome=true)∧∀k∈[kSort,zq,ze,z11,kBad,zg,kInit,kNext,z22,z2n,z1z,z1e,kIte,z1d,kUext,kSext],op≠k)))))→p (formR op):=by
  intro p hp;unfold formR;refine ite_P p (fun e=>by subst e;exact absurd hv (by decide)) fun _=>?_;refine ite_P p (fun e=>absurd e h1) fun _=>?_;refine ite_P p (fun e=>absurd e h2) fun _=>?_;refine ite_P p (fun e=>absurd e h3) fun _=>?_
  iterate 2 refine ite_P p (fun e=>by subst e;exact absurd hv (by decide)) fun _=>?_
  iterate 7 refine ite_P p (fun e=>by subst e;rw [hp];exact fun _=>.inl ⟨by decide,fun _ _=>rfl,by decide⟩) fun _=>?_
  iterate 2 refine ite_P p (fun e=>by subst e;exact absurd hv (by decide)) fun _=>?_
  iterate 14 refine ite_P p (fun e=>by subst e;rw [hp];exact fun _=>.inr ⟨by decide,.inr ⟨by decide,fun _ _ _=>rfl,by decide⟩⟩) fun _=>?_
  refine ite_P p (fun e=>by subst e;rw [hp];exact fun _=>.inr ⟨by decide,.inl rfl⟩) fun _=>?_;refine ite_P p (fun e=>absurd e h4) fun _=>?_;refine ite_P p (fun e=>absurd e h5) fun _=>?_;refine ite_P p (fun e=>absurd e h6) fun _=>?_;refine ite_P p (fun e=>absurd e h7) fun _=>?_;rw [hp];intro h;cases h
 exact key _ rfl h
@[reducible] def nm(l:List (Nat×Nat))(i:Nat):Nat×Nat:=l.getD i (0,0)
def zbt(op:List UInt8):Prop:=op=z11∨op=kIte∨op=z1d∨op=kUext∨op=kSext
inductive OpRes(x:Nd):List (Nat×Nat)→Nat×Nat→Prop
 |const (h:x.op=z11) (hm:mkok x.t=true):OpRes x [] (x.t.length,mkN x.t)
 |ite {c w y z:Nat} (h:x.op=kIte) (hc:c<2^1) (hy:y<2^w) (hz:z<2^w):OpRes x [(1,c),(w,y),(w,z)] (w,if c=1 then y else z)
 |slice {w y lo hi:Nat} (h:x.op=z1d) (hwb:w≤128) (h1:lo≤hi) (h2:hi<w) (hn:x.n.length=2) (e0:x.n.getD 0 0=hi) (e1:x.n.getD 1 0=lo):OpRes x [(w,y)] (hi-lo+1,slN y lo (hi-lo+1))
 |ext {w y n:Nat} (h:x.op=kUext∨x.op=kSext) (hw:0<w) (hwb:w≤128) (hnb:w+n≤128) (hy:y<2^w) (hn:x.n.length=1) (e0:x.n.getD 0 0=n):OpRes x [(w,y)] (w+n,exN w y n (decide (x.op=kSext)&&y.testBit (w-1)))
 |un {w y:Nat} {p:Nat×Nat} (h:¬zbt x.op) (hal:x.a.length=1) (hw:0<w) (hwb:w≤128) (hy:y<2^w) (hp:unV x.op w y=some p):OpRes x [(w,y)] p
 |cat {w y v z:Nat} (h:x.op=z1e) (hal:x.a.length=2) (hw:0<w) (hv:0<v) (hb:w+v≤128) (hy:y<2^w) (hz:z<2^v):OpRes x [(w,y),(v,z)] (w+v,jnN w y v z)
 |bin {w y z:Nat} {p:Nat×Nat} (h:¬zbt x.op) (h2:x.op≠z1e) (hal:x.a.length=2) (hw:0<w) (hwb:w≤128) (hy:y<2^w) (hz:z<2^w) (hp:binR x.op w y z=some p):OpRes x [(w,y),(w,z)] p
structure VOk(l:List Nd)(v:List (Nat×Nat))(n:Nat):Prop where
 len:v.length=n
 no:∀j,j<n→isVal (nd l j).op=false→nm v j=(0,0)
 yes:∀j,j<n→isVal (nd l j).op=true→((nm v j).1:Int)=wdN l (nd l j)∧(nm v j).2<2^(nm v j).1
theorem val_s{l:List Nd}(ty:Ty l){j:Nat}(hj:j<l.length)(hv:isVal (nd l j).op=true):0<(nd l j).s∧SortAt l (nd l j):=by
 have hk:=ty.node j hj;have h1:=z6t hv hk.known;have h2:=(hk.s1 h1).1;exact⟨by omega,(ty.ty.ln j hj).srt (by omega)⟩
theorem zai{l:List Nd}(ty:Ty l){j:Nat}(hj:j<l.length)(hv:isVal (nd l j).op=true):1≤wdN l (nd l j)∧wdN l (nd l j)≤128:=by
 have hk:=ty.node j hj;have h1:=z6t hv hk.known;refine wd_bd (i:=j) (fun q hq=>ty.node q (by omega)) (val_s ty hj hv).2 ?_;have:=(hk.s1 h1).2;omega
@[reducible] def takes(x:Nd)(v:List (Nat×Nat)):List (Nat×Nat):=x.a.map fun a=>nm v (a-1).toNat
theorem z6f(x:Nd)(v:List (Nat×Nat)):(takes x v).length=x.a.length:=by simp [takes]
theorem zal{x:Nd}{v:List (Nat×Nat)}{j:Nat}(h:j<x.a.length):nm (takes x v) j=nm v (x.a.getD j 0-1).toNat:=by
 simp [nm,takes,List.getD_eq_getElem?_getD,h]
theorem list1{α:Type}{d:α}{l:List α}(h:l.length=1):l=[l.getD 0 d]:=by
 match l,h with
 | [a],_=>rfl
theorem list2{α:Type}{d:α}{l:List α}(h:l.length=2):l=[l.getD 0 d,l.getD 1 d]:=by
 match l,h with
 | [a,b],_=>rfl
theorem list3{α:Type}{d:α}{l:List α}(h:l.length=3):l=[l.getD 0 d,l.getD 1 d,l.getD 2 d]:=by
 match l,h with
 | [a,b,c],_=>rfl
theorem sl_lt(y lo n:Nat):slN y lo n<2^n:=z3r _ _
theorem ex_lt(w y n:Nat)(b:Bool):exN w y n b<2^(w+n):=z3r _ _
theorem jn_lt(w y v z:Nat):jnN w y v z<2^(w+v):=z3r _ _
theorem mk_lt(t:List UInt8):mkN t<2^t.length:=z3r _ _
theorem zmu{l:List Nd}(ty:Ty l){i:Nat}(hi:i<l.length){v:List (Nat×Nat)}(hv:VOk l v i)(hx:isVal (nd l i).op=true)(h1:(nd l i).op≠ze)(h2:(nd l i).op≠zq):
  OpRes (nd l i) (takes (nd l i) v) (opV (nd l i) (takes (nd l i) v))∧((opV (nd l i) (takes (nd l i) v)).1:Int)=wdN l (nd l i)∧(opV (nd l i) (takes (nd l i) v)).2<2^(opV (nd l i) (takes (nd l i) v)).1:=by
 have hk:=ty.node i hi;have hln:=ty.ty.ln i hi;have hs:=(val_s ty hi hx).1;have hwd:=zai ty hi hx;have hwof:wOf l (nd l i)=wdN l (nd l i):=by rw [wOf,if_pos hs]
 have hask:=hln.ask;generalize nd l i=x at *;have harg:∀j,j<x.a.length→((nm (takes x v) j).1:Int)=awN l x j∧(nm (takes x v) j).2<2^(nm (takes x v) j).1∧1≤awN l x j∧awN l x j≤128:=fun j hj=>by
  rw [zal hj];have hm:=zw 0 hj;have hab:=hk.ab _ hm;have hvl:=hln.val _ hm;have hb:=zai ty (j:=(x.a.getD j 0-1).toNat) (by omega) hvl;exact⟨(hv.yes _ (by omega) hvl).1,(hv.yes _ (by omega) hvl).2,hb⟩
 have hal:=hk.al;have htl:=z6f x v;generalize takes x v=a at *;by_cases k1:x.op=z11
 ·have h0:x.a.length=0:=by rw [hal,k1];decide
  have ha:a=[]:=List.length_eq_zero_iff.1 (by omega);have ht:=hk.txt (by rw [k1];decide);have hc:=hask.const k1;have e:opV x a=(x.t.length,mkN x.t):=by rw [opV,if_pos k1]
  rw [e,ha];exact⟨.const k1 ht,by show((x.t.length:Nat):Int)=_;omega,mk_lt _⟩
 by_cases k2:x.op=kIte
 ·have h0:x.a.length=3:=by rw [hal,k2];decide
  have ha:=list3 (d:=(0,0)) (htl.trans h0);obtain⟨c1,c2,c3⟩:=hask.ite k2;have a0:=harg 0 (by omega);have a1:=harg 1 (by omega);have a2:=harg 2 (by omega);have e:opV x a=((nm a 1).1,if(nm a 0).2=1 then(nm a 1).2 else(nm a 2).2):=by rw [opV,if_neg k1,if_pos k2]
  rw [e,ha];obtain⟨⟨w0,y0⟩,hp0⟩:∃p,nm a 0=p:=⟨_,rfl⟩
  obtain⟨⟨w1,y1⟩,hp1⟩:∃p,nm a 1=p:=⟨_,rfl⟩
  obtain⟨⟨w2,y2⟩,hp2⟩:∃p,nm a 2=p:=⟨_,rfl⟩
  have hp0':a.getD 0 (0,0)=(w0,y0):=hp0;have hp1':a.getD 1 (0,0)=(w1,y1):=hp1;have hp2':a.getD 2 (0,0)=(w2,y2):=hp2;rw [hp0]at a0;rw [hp1]at a1;rw [hp2]at a2;simp only at a0 a1 a2;obtain rfl:w0=1:=by omega
  obtain rfl:w2=w1:=by omega
  show OpRes x [a.getD 0 (0,0),a.getD 1 (0,0),a.getD 2 (0,0)] _∧_;rw [hp0',hp1',hp2'];refine⟨.ite k2 a0.2.1 a1.2.1 a2.2.1,by show((w2:Nat):Int)=_;omega,?_⟩;show(if y0=1 then y1 else y2)<2^w2;split
  ·exact a1.2.1
  ·exact a2.2.1
 by_cases k3:x.op=z1d
 ·have h0:x.a.length=1:=by rw [hal,k3];decide
  have hn:x.n.length=2:=by rw [hk.nl,k3];decide
  have ha:=list1 (d:=(0,0)) (htl.trans h0);obtain⟨c1,c2,c3⟩:=hask.slice k3;have a0:=harg 0 (by omega);have n0:=hk.nb _ (zw (i:=0) (l:=x.n) 0 (by omega));have n1:=hk.nb _ (zw (i:=1) (l:=x.n) 0 (by omega));have e:opV x a=((x.n.getD 0 0).toNat-(x.n.getD 1 0).toNat+1,slN (nm a 0).2 (x.n.getD 1 0).toNat ((x.n.getD 0 0).toNat-(x.n.getD 1 0).toNat+1)):=by rw [opV,if_neg k1,if_neg k2,if_pos k3]
  rw [e,ha];obtain⟨⟨w0,y0⟩,hp0⟩:∃p,nm a 0=p:=⟨_,rfl⟩
  have hp0':a.getD 0 (0,0)=(w0,y0):=hp0;rw [hp0]at a0;simp only at a0;show OpRes x [a.getD 0 (0,0)] _∧_;rw [hp0'];refine⟨.slice k3 (by omega) (by omega) (by omega) hn (by omega) (by omega),?_,sl_lt _ _ _⟩;show(((x.n.getD 0 0).toNat-(x.n.getD 1 0).toNat+1:Nat):Int)=_;omega
 by_cases k4:x.op=kUext∨x.op=kSext
 ·have h0:x.a.length=1:=by rcases k4 with k|k<;>rw [hal,k]<;>decide
  have hn:x.n.length=1:=by rcases k4 with k|k<;>rw [hk.nl,k]<;>decide
  have ha:=list1 (d:=(0,0)) (htl.trans h0);have c1:=hask.ext k4;have a0:=harg 0 (by omega);have n0:=hk.nb _ (zw (i:=0) (l:=x.n) 0 (by omega));have e:opV x a=((nm a 0).1+(x.n.getD 0 0).toNat,exN (nm a 0).1 (nm a 0).2 (x.n.getD 0 0).toNat (decide (x.op=kSext)&&(nm a 0).2.testBit ((nm a 0).1-1))):=by rw [opV,if_neg k1,if_neg k2,if_neg k3,if_pos k4]
  rw [e,ha];obtain⟨⟨w0,y0⟩,hp0⟩:∃p,nm a 0=p:=⟨_,rfl⟩
  have hp0':a.getD 0 (0,0)=(w0,y0):=hp0;rw [hp0]at a0;simp only at a0;show OpRes x [a.getD 0 (0,0)] _∧_;rw [hp0'];refine⟨.ext k4 (by omega) (by omega) (by omega) a0.2.1 hn (by omega),?_,ex_lt _ _ _ _⟩;show((w0+(x.n.getD 0 0).toNat:Nat):Int)=_;omega
 have hsp:¬zbt x.op:=by
  rintro(h|h|h|h|h)
  ·exact k1 h
  ·exact k2 h
  ·exact k3 h
  ·exact k4 (.inl h)
  ·exact k4 (.inr h)
 rcases zt9 hk.known hx k1 h2 h1 k2 k3 (fun h=>k4 (.inl h)) (fun h=>k4 (.inr h))with⟨g1,g2,g3⟩|⟨g1,g2⟩
 ·have h0:x.a.length=1:=by rw [hal,g1]
  have ha:=list1 (d:=(0,0)) (htl.trans h0);have a0:=harg 0 (by omega);obtain⟨⟨w0,y0⟩,hp0⟩:∃p,nm a 0=p:=⟨_,rfl⟩
  have hp0':a.getD 0 (0,0)=(w0,y0):=hp0;rw [hp0]at a0;simp only at a0;have ha1:a=[(w0,y0)]:=by rw [ha,hp0']
  have hsome:=g2 w0 y0;cases hu:unV x.op w0 y0 with
  | none=>rw [hu]at hsome;cases hsome
  | some p=>
   have hok:=zu6 a0.2.1 hu;have e:opV x a=p:=by
    rw [opV,if_neg k1,if_neg k2,if_neg k3,if_neg k4,if_pos h0,hp0'];simp only;rw [hu];rfl
   rw [e,ha1];refine⟨.un hsp h0 (by omega) (by omega) a0.2.1 hu,?_,hok.1⟩;show((p.1:Nat):Int)=_;rcases hok.2 with⟨r1,r2⟩|⟨r1,r2⟩
   ·have:=hask.red r1;omega
   ·have hall:∀k∈[kSort,zq,ze,z11,kBad,zg,kInit,kNext,z22,z2n,z1z,kEq,kUlt,kSlt,z1e,kIte,z1d,kUext,kSext],x.op≠k:=by
     intro k hkm;by_cases hin:k∈[kSort,zq,ze,z11,kBad,zg,kInit,kNext,kEq,kUlt,kSlt,z1e,kIte,z1d,kUext,kSext]
     ·exact g3 k hin
     ·intro ek;have:k=z22∨k=z2n∨k=z1z:=by
       have key:∀k∈[kSort,zq,ze,z11,kBad,zg,kInit,kNext,z22,z2n,z1z,kEq,kUlt,kSlt,z1e,kIte,z1d,kUext,kSext],k∈[kSort,zq,ze,z11,kBad,zg,kInit,kNext,kEq,kUlt,kSlt,z1e,kIte,z1d,kUext,kSext]∨(k=z22∨k=z2n∨k=z1z):=by decide
       exact(key k hkm).resolve_left hin
      exact r1 (by rw [ek];exact this)
    have:=hask.dflt hall 0 (by omega);omega
 ·have h0:x.a.length=2:=by rw [hal,g1]
  have ha:=list2 (d:=(0,0)) (htl.trans h0);have a0:=harg 0 (by omega);have a1:=harg 1 (by omega);obtain⟨⟨w0,y0⟩,hp0⟩:∃p,nm a 0=p:=⟨_,rfl⟩
  obtain⟨⟨w1,y1⟩,hp1⟩:∃p,nm a 1=p:=⟨_,rfl⟩
  have hp0':a.getD 0 (0,0)=(w0,y0):=hp0;have hp1':a.getD 1 (0,0)=(w1,y1):=hp1;rw [hp0]at a0;rw [hp1]at a1;simp only at a0 a1;rcases g2 with g2|⟨g2,g3,g4⟩
  ·have e:opV x a=(w0+w1,jnN w0 y0 w1 y1):=by rw [opV,if_neg k1,if_neg k2,if_neg k3,if_neg k4,if_neg (by omega),if_pos g2,hp0',hp1']
   have hc:=hask.cat g2;rw [e];have ha2:a=[(w0,y0),(w1,y1)]:=by rw [ha,hp0',hp1']
   rw [ha2];refine⟨.cat g2 h0 (by omega) (by omega) (by omega) a0.2.1 a1.2.1,?_,jn_lt _ _ _ _⟩;show((w0+w1:Nat):Int)=_;omega
  ·have hsome:=g3 w0 y0 y1;cases hu:binR x.op w0 y0 y1 with
   | none=>rw [hu]at hsome;cases hsome
   | some p=>
    have e:opV x a=p:=by
     rw [opV,if_neg k1,if_neg k2,if_neg k3,if_neg k4,if_neg (by omega),if_neg g2,hp0',hp1'];simp only;rw [hu];rfl
    have hww:w1=w0∧((p.1:Nat):Int)=wdN l x:=by
     rcases zus hu with⟨r1,r2⟩|⟨r1,r2⟩
     ·have:=hask.cmp r1;omega
     ·have hall:∀k∈[kSort,zq,ze,z11,kBad,zg,kInit,kNext,z22,z2n,z1z,kEq,kUlt,kSlt,z1e,kIte,z1d,kUext,kSext],x.op≠k:=by
       intro k hkm;by_cases hin:k∈[kSort,zq,ze,z11,kBad,zg,kInit,kNext,z22,z2n,z1z,z1e,kIte,z1d,kUext,kSext]
       ·exact g4 k hin
       ·intro ek;have:k=kEq∨k=kUlt∨k=kSlt:=by
         have key:∀k∈[kSort,zq,ze,z11,kBad,zg,kInit,kNext,z22,z2n,z1z,kEq,kUlt,kSlt,z1e,kIte,z1d,kUext,kSext],k∈[kSort,zq,ze,z11,kBad,zg,kInit,kNext,z22,z2n,z1z,z1e,kIte,z1d,kUext,kSext]∨(k=kEq∨k=kUlt∨k=kSlt):=by decide
         exact(key k hkm).resolve_left hin
        exact r1 (by rw [ek];exact this)
      have b0:=hask.dflt hall 0 (by omega);have b1:=hask.dflt hall 1 (by omega);omega
    obtain⟨rfl,hpw⟩:=hww;rw [e];have ha2:a=[(w1,y0),(w1,y1)]:=by rw [ha,hp0',hp1']
    rw [ha2];exact⟨.bin hsp g2 h0 (by omega) (by omega) a0.2.1 a1.2.1 hu,hpw,(zor a0.2.1 a1.2.1 hu).1⟩
theorem zt1{x:Nd}(h:¬zbt x.op)(ha:x.a.length=1):ofT x=196:=by
 unfold ofT;rw [if_neg fun e=>h (.inl e),if_neg fun e=>h (.inr (.inl e)),if_neg fun e=>h (.inr (.inr (.inl e))),if_neg fun e=>h (.inr (.inr (.inr e))),if_pos ha]
theorem zmy{x:Nd}(h:¬zbt x.op)(ha:x.a.length=2):ofT x=197:=by
 unfold ofT;rw [if_neg fun e=>h (.inl e),if_neg fun e=>h (.inr (.inl e)),if_neg fun e=>h (.inr (.inr (.inl e))),if_neg fun e=>h (.inr (.inr (.inr e))),if_neg (by omega)]
theorem zr7{op:List UInt8}(h:op=z1e):¬zbt op:=by
 subst h;unfold zbt;decide
theorem zj6{t:List UInt8}(h:mkok t=true):t.length≤128:=by
 simp only [mkok,Bool.and_eq_true,decide_eq_true_eq]at h;exact h.1.2
theorem zoe{x:Nd}{a:List (Nat×Nat)}{p:Nat×Nat}(h:OpRes x a p):
  ∃g fn c,Tryz.prog.funcs[g]?=some fn∧fn.body=some c∧(fn.name == "runtime.NumGoroutine")=false∧(∀w,(Go.method (Tryz.prog.types.size+Made.depth) (ofT x) (.agg #[]) "vidimus/word.value").run Tryz.prog w=.ok (g,.agg #[]) w) ∧
   ACall Tryz.prog g [aG0,.d (eNd x),.d (eNums a)] [] (fun r o=>r=tupOf [.d (vN p.1 p.2),vI .i64 0]):=by
 cases h with
 | const h hm=>
  refine⟨_,_,_,Tryz.func199,rfl,rfl,?_,zl2 x [] _ _ (Nat.le_trans (zj6 hm) (by decide)) (by rw [mkR,if_pos hm])⟩;rw [show ofT x=190 by unfold ofT;rw [if_pos h]];exact zn6
 | ite h hc hy hz=>
  refine⟨_,_,_,Tryz.func200,rfl,rfl,?_,zng x _ _ _ _ hc⟩;rw [show ofT x=191 by unfold ofT;rw [if_neg (by rw [h];decide),if_pos h]];exact zqe
 | slice h hwb h1 h2 hn e0 e1=>
  refine⟨_,_,_,Tryz.func202,rfl,rfl,?_,zkd x _ _ _ _ hwb h1 h2 hn e0 e1⟩;rw [show ofT x=192 by unfold ofT;rw [if_neg (by rw [h];decide),if_neg (by rw [h];decide),if_pos h]];exact zn4
 | ext h hw hwb hnb hy hn e0=>
  refine⟨_,_,_,Tryz.func206,rfl,rfl,?_,zkf x _ _ _ _ hw hwb hnb hn e0 rfl⟩;rw [show ofT x=193 by unfold ofT;rw [if_neg (by rcases h with h|h<;>rw [h]<;>decide),if_neg (by rcases h with h|h<;>rw [h]<;>decide),if_neg (by rcases h with h|h<;>rw [h]<;>decide),if_pos h]];exact zn5
 | un h hal hw hwb hy hp=>
  refine⟨_,_,_,Tryz.func213,rfl,rfl,?_,zmv x _ _ _ _ ((zut x.op _ _ hy hw hwb).mono fun r o hr=>?_)⟩
  ·rw [zt1 h hal];exact zqd
  ·rw [hr,zro,hp];rfl
 | cat h hal hw hv hb hy hz=>
  refine⟨_,_,_,Tryz.func233,rfl,rfl,?_,zfb x _ _ _ _ _ _ ?_⟩
  ·rw [zmy (zr7 h) hal];exact zj7
  ·rw [h];exact zu3 _ _ _ _ hw hv (by omega) (by omega) hb
 | bin h h2 hal hw hwb hy hz hp=>
  refine⟨_,_,_,Tryz.func233,rfl,rfl,?_,zfb x _ _ _ _ _ _ ((zu4 x.op _ _ _ h2 hy hz hw hwb).mono fun r o hr=>?_)⟩
  ·rw [zmy h hal];exact zj7
  ·rw [hr,hp];rfl
end Go.Proofs.YtbodbhpdelgpnaaGreatDoor
namespace Ab
open Go
variable [Draws]
section
variable {P:Program}[Globals P]{T:Tab}{f:FuncId}{fn:Func}{n m:Nat}{C:Cx}{R:AV→List (Option AObj)→Prop}{env env' envF:Env}{objs objs':List (Option AObj)}{ops:Array Oper}{todo k:List Item}{nd:Prop}
theorem zhx{O:List Nat→List (Option AObj)}{j:Nat}{o:Oper}{E:Env}{a:AV}{c:Option Prop}(hT:TabOk P T)(hw:wantE ops (restr E (o.looksAt ops)) o=.yes)(hE:∀t∈o.looksAt ops,∀b,look E t=some b→look envF t=some b)
  (hs:∀L,j∉L→(∀q,z1a ops j q=true→q∈L)→estep T o (restr E (o.looksAt ops)) (O L)=some ⟨c,true,a,none,O (j::L)⟩) (hc:cond c) (hdst:o.dst=none):HeadH P n C O m ops envF j o:=by
 intro L _ hjL hdeps _ π w tmps hsz hm hgk hlk;have he:z17 w (okOf C.X π (O L)) π (restr E (o.looksAt ops)) tmps:=fun t b ht=>by
  obtain⟨h1,h2⟩:=z1c ht;exact hlk t h1 b (hE t h1 b h2)
 have hst:=z4z (ds:=[]) hT hm he o;rw [hs L hjL hdeps]at hst;obtain⟨v,w',π',h1,h2,_⟩:=hst hc;refine .inr ⟨(zt he).1 hw,.inr (.inl ⟨w',π',h1,⟨h2.mem,fun hh=>hh.trans h2.hist,h2.keep⟩,fun d hd=>?_⟩)⟩;rw [hdst]at hd;cases hd
def boxO(ja js:Nat)(o1 o2:AObj)(L:List Nat):AObj:=if js∈L then o2 else if ja∈L then o1 else HD
@[reducible] def boxA(ja js:Nat)(d:Tmp)(p:Nat):Acts:=[(ja,some (d,.ptr p 0)),(js,none)]
theorem z2d(m ja js:Nat){d:Tmp}{t:TypeId}{r:TRow}{o2:AObj}{oa os:Oper}{E:Env}{a:AV}{c:Option Prop}{id:Nat}(hT:TabOk P T)(hf:P.funcs[f]?=some fn)(hmx:P.follows .mixedOrders=true)(h:srun T n fn.results.toList 2000 True todo env objs=.draw nd id ops k env' objs')(hn:nd)
  (hB:drawZ ops m=true) (hsee:seeB ops m (boxA ja js d objs'.length)=true) (hja:Nat.blt ja m=true) (hjs:Nat.blt js m=true) (hne:Nat.beq ja js=false) (hwt:z1a ops js ja=true) (hpl:C.π.length≤objs'.length)
  (hoa:ops[ja]?=some oa) (hop:oa.op=.alloc t) (hg:oa.guard=none) (hr:tlook T t=some r) (hdst:oa.dst=some d) (hdn:Nat.blt d n=true)
  (hD:∀x,DSat P n C.X (objs'++[some x]) ops (fun e=>e=E) (z15 ops m (boxA ja js d objs'.length)) env')
  (hos:ops[js]?=some os) (hsd:os.dst=none) (hws:wantE ops (restr ((d,.ptr objs'.length 0)::E) (os.looksAt ops)) os=.yes)
  (hs:estep T os (restr ((d,.ptr objs'.length 0)::E) (os.looksAt ops)) (objs'++[some (.cells t (r.zero.map fun v=>.d (.v v)))])=some ⟨c,true,a,none,objs'++[some o2]⟩) (hc:cond c)
  (hk:ASat P f n C (.inRegion ops (List.range' m (ops.size-m))::k) ((d,.ptr objs'.length 0)::E) (objs'++[some o2]) R) (hGk:GOk P C.π C.objs C.w:=by with_reducible assumption):ASat P f n C todo env objs R:=by
 have hne:ja≠js:=Nat.ne_of_beq_eq_false hne;have hnth:∀x:AObj,nth (objs'++[some x]) objs'.length=some (some x):=fun x=>by rw [z1p];simp
 have hset:∀x y:AObj,zb (objs'++[some x]) objs'.length (some y)=objs'++[some y]:=fun x y=>by rw [z1r];simp
 refine z4l m 1 (boxA ja js d objs'.length) (fun L=>objs'++[some (boxO ja js (.cells t (r.zero.map fun v=>.d (.v v))) o2 L)]) E (objsF:=objs'++[some o2]) hT hf hmx h hn hB hsee (by simp [boxO]) (fun L hL=>?_) (fun j L hj=>?_) ?_ (fun L=>hD _) ?_ hk
 ·rw [boxO,if_pos (hL js (by simpa [Nat.blt_eq]using hjs))]
 ·simp only [actB,boxA,List.any_cons,List.any_nil,Bool.or_false,Bool.or_eq_false_iff]at hj;have n1:=Nat.ne_of_beq_eq_false hj.1;have n2:=Nat.ne_of_beq_eq_false hj.2;simp only [boxO,List.mem_cons,n1,n2,false_or]
 ·simp [hja,hjs]
 ·refine List.forall_mem_cons.2 ⟨⟨oa,hoa,hdst,?_⟩,List.forall_mem_cons.2 ⟨⟨os,hos,hsd,?_⟩,fun x h=>by cases h⟩⟩
  ·refine z9o (p:=objs'.length) hT hop hg hr hdst hdn ?_ hpl (fun L hL hcl=>?_) (fun L hL hcl=>?_)
   ·show look ((d,_)::E) d=_;simp [look]
   ·have hjsL:js∉L:=fun h=>hL (hcl js h ja hwt)
    simp only [boxO,if_neg hjsL,if_neg hL];exact hnth _
   ·have hjsL:js∉L:=fun h=>hL (hcl js h ja hwt)
    have hjs2:js∉ja::L:=by simp only [List.mem_cons,not_or];exact⟨fun e=>hne e.symm,hjsL⟩
    simp only [boxO,if_neg hjs2,if_neg hjsL,if_neg hL];rw [if_pos (List.mem_cons_self ..)];exact(hset _ _).symm
  ·refine zhx (a:=a) hT hws (fun _ _ _ h=>h) (fun L hL hq=>?_) hc hsd;have hjaL:=hq ja hwt;simp only [boxO,if_neg hL,if_pos hjaL,List.mem_cons,true_or,if_true];exact hs
theorem z7u{α:Type}:∀{l:List α} {p:Nat} {x:α},nth l p=some x→zb l p x=l
 | [],_,_,_=>rfl
 | _::_,0,_,h=>by simp only [nth,Option.some.injEq]at h;subst h;rfl
 | _::_,p+1,_,h=>by simp only [zb];rw [z7u (by simpa only [nth]using h)]
theorem z4b(m js p:Nat){o1 o2:AObj}{os:Oper}{E:Env}{a:AV}{c:Option Prop}{id:Nat}(hT:TabOk P T)(hf:P.funcs[f]?=some fn)(hmx:P.follows .mixedOrders=true)(h:srun T n fn.results.toList 2000 True todo env objs=.draw nd id ops k env' objs')(hn:nd)
  (hB:drawZ ops m=true) (hsee:seeB ops m [(js,none)]=true) (hjs:Nat.blt js m=true) (ho:nth objs' p=some (some o1))
  (hD:∀x,DSat P n C.X (zb objs' p (some x)) ops (fun e=>e=E) (z15 ops m [(js,none)]) env')
  (hos:ops[js]?=some os) (hsd:os.dst=none) (hws:wantE ops (restr E (os.looksAt ops)) os=.yes)
  (hs:estep T os (restr E (os.looksAt ops)) objs'=some ⟨c,true,a,none,zb objs' p (some o2)⟩) (hc:cond c)
  (hk:ASat P f n C (.inRegion ops (List.range' m (ops.size-m))::k) E (zb objs' p (some o2)) R) (hGk:GOk P C.π C.objs C.w:=by with_reducible assumption):ASat P f n C todo env objs R:=by
 refine z4l m 0 [(js,none)] (fun L=>zb objs' p (some (if js∈L then o2 else o1))) E (objsF:=zb objs' p (some o2)) hT hf hmx h hn hB hsee (by simp [z7u ho]) (fun L hL=>?_) (fun j L hj=>?_) ?_ (fun L=>hD _) ?_ hk
 ·rw [if_pos (hL js (by simpa [Nat.blt_eq]using hjs))]
 ·simp only [actB,List.any_cons,List.any_nil,Bool.or_false]at hj;have n1:=Nat.ne_of_beq_eq_false hj;simp only [List.mem_cons,n1,false_or]
 ·simp [hjs]
 ·refine List.forall_mem_cons.2 ⟨⟨os,hos,hsd,?_⟩,fun x h=>by cases h⟩;refine zde (a:=a) hT hws (fun _ _ _ h=>h) (fun L hL=>?_) hc hsd;simp only [if_neg hL,List.mem_cons,true_or,if_true];rw [z7u ho];exact hs
end
end Ab
namespace Go.Proofs.YtbodbhpdelgpnaaGreatDoor
open Go Ab
@[reducible] def Vr:=Int×List Nat×Unit
@[reducible] def eVr(a:Vr):D:=.ag [eI a.1,eUs a.2.1]
@[reducible] def eRow(l:List Vr):D:=eL 2 eVr (0,[],()) l
def vr(p:Nat×Nat):Vr:=((p.1:Int),lmb (z7 p.1) p.2,())
def QVr(a:Vr):Prop:=lims a.2.1∧a.2.1.length≤maxLen
def z7q(a:Vr):Bool:=z3x a.1 a.2.1
theorem getD_map'{α β:Type}(f:α→β)(d:α)(l:List α)(i:Nat):(l.map f).getD i (f d)=f (l.getD i d):=by
 rw [List.getD_eq_getElem?_getD,List.getD_eq_getElem?_getD,List.getElem?_map];cases l[i]?<;>rfl
theorem z4p{α:Type}{d:α}{l:List α}{i:Nat}(h:i<l.length):l.getD i d=l[i]:=by
 rw [List.getD_eq_getElem?_getD,List.getElem?_eq_getElem h];rfl
theorem z8u(l:List (Nat×Nat)):eRow (l.map vr)=eNums l:=by
 show D.sl 2 ((l.map vr).map eVr) (fun i=>eVr ((l.map vr).getD i (0,[],())))=D.sl 2 (l.map fun p:Nat×Nat=>vN p.1 p.2) (fun i=>vN (l.getD i (0,0)).1 (l.getD i (0,0)).2);rw [List.map_map];congr 1;funext i;rw [show((0,[],()):Vr)=vr (0,0)from rfl,getD_map'];rfl
theorem zh9{p:Nat×Nat}(h1:1≤p.1)(h2:p.1≤128)(h3:p.2<2^p.1):z7q (vr p)=true:=zfv h1 h2 h3
theorem zuu{p:Nat×Nat}(h:p.1≤1000000):QVr (vr p):=⟨z10 _ _,by show(lmb _ _).length≤_;rw [zr];unfold z7 maxLen;omega⟩
def fitAt(l:List Nd)(al:List Int)(r:List Vr)(i:Nat):Bool:=z7q (r.getD i (0,[],()))&&decide ((r.getD i (0,[],())).1=wdN l (ln l (al.getD i 0)))
def fitB(l:List Nd)(op:List UInt8)(r:List Vr):Bool:=decide ((allL l op l.length).length=r.length)&&(List.range r.length).all (fitAt l (allL l op l.length) r)
structure Fit(l:List Nd)(op:List UInt8)(v:List (Nat×Nat)):Prop where
 len:v.length=(allL l op l.length).length
 at_:∀i,i<v.length→((nm v i).1:Int)=wdN l (ln l ((allL l op l.length).getD i 0))∧(nm v i).2<2^(nm v i).1∧1≤(nm v i).1∧(nm v i).1≤128
theorem zji{l:List Nd}{op:List UInt8}{v:List (Nat×Nat)}(h:Fit l op v):fitB l op (v.map vr)=true:=by
 simp only [fitB,Bool.and_eq_true,decide_eq_true_eq,List.all_eq_true,List.mem_range,List.length_map];refine⟨h.len.symm,fun i hi=>?_⟩;obtain⟨h1,h2,h3,h4⟩:=h.at_ i hi;have e:(v.map vr).getD i (0,[],())=vr (nm v i):=getD_map' vr (0,0) v i;rw [fitAt,e,Bool.and_eq_true,decide_eq_true_eq];exact⟨zh9 h3 h4 h2,h1⟩
theorem zf3{l:List Nd}(ty:Ty l){op:List UInt8}(ho:isVal op=true){i:Nat}(hi:i<(allL l op l.length).length):1≤(allL l op l.length).getD i 0∧(allL l op l.length).getD i 0≤l.length∧isVal (ln l ((allL l op l.length).getD i 0)).op=true:=by
 obtain⟨h1,h2,h3⟩:=z8m (zw 0 hi);exact⟨h1,h2,by rw [h3];exact ho⟩
theorem wL_at{l:List Nd}{a:Int}(h1:1≤a)(h2:a≤l.length)(hv:isVal (ln l a).op=true):(wL l l.length).getD (a-1).toNat 0=wdN l (ln l a):=by
 rw [zlg (by omega),wN,if_pos hv]
theorem zgh(l:List Nd)(ty:Ty l)(op:List UInt8)(ho:isVal op=true)(r:List Vr)(hq:∀a∈r,QVr a):ACall Tryz.prog 99 [.d (eBt l),.d (eIs (wL l l.length)),vSL op,.d (eRow r)] [] (fun x o=>x=vB (fitB l op r)):=by
 refine yN Tryz.func99 fun C hC hCl hDs hGk=>?_;have hl:=ty.small;have hall:=@zf3 l ty op ho;refine yV Tryz.func99 rfl trivial (z4k l op hl) (.refl _) ?_;have hal:=z1f l op l.length;unfold fitB;generalize allL l op l.length=al at *;refine yB Tryz.func99 rfl trivial (fun h=>?_) (fun h=>?_)
 ·have h:(((al.map eI).length:Int) !=((r.map eVr).length:Int))=true:=h;have h':al.length≠r.length:=fun e=>by simp [e]at h
  refine yR Tryz.func99 rfl trivial ?_;rw [decide_eq_false h',Bool.false_and];rfl
 have h:(((al.map eI).length:Int) !=((r.map eVr).length:Int))=false:=h;have hlen:al.length=r.length:=by simp at h;omega
 refine yS Tryz.func99 rfl trivial ?_;refine z8 (α:=Nat) (fun i=>[(1,.d (eIs (wL l l.length))),(3,.d (eRow r)),(20,.d (eIs al)),(21,vI .i64 (al.length:Int)),(22,vI .i64 (i:Int))]) (fun i=>[some (bBt l)]) (fun i=>i≤al.length∧∀q,q<i→fitAt l al r q=true) (fun i=>al.length-i) 0 ⟨Nat.zero_le _,fun q hq=>by omega⟩ ?_ ?_
 ·exact fun h=>yE h ⟨erl rfl,erl rfl,erl rfl,⟨_,rfl,.of (by rw [List.length_map])⟩,erl rfl,trivial⟩ (oAl rfl)
 rintro i ⟨hi,hall2⟩ ih;refine yB Tryz.func99 rfl trivial (fun hb=>?_) (fun hb=>?_)<;>simp only [decide_eq_true_eq,decide_eq_false_iff_not]at hb
 ·have hlt:i<al.length:=by omega
  have ha:=hall hlt;have hm:r.getD i (0,[],())∈r:=zw _ (by omega);have e1:IntKind.i64.wrap (al.getD i 0-1)=al.getD i 0-1:=z6 (by omega) (by omega);refine yO 17 Tryz.func99 rfl (by simp [andP]<;>omega) ?_;refine yQ Tryz.func137 rfl (by simp [andP]<;>omega) (zl6 (r.getD i (0,[],())).1 (r.getD i (0,[],())).2.1 (hq _ hm).1 (hq _ hm).2) (.refl _) ?_;have hnext:fitAt l al r i=true→∀q,q<i+1→fitAt l al r q=true:=fun h q hq=>by
   rcases Nat.lt_or_ge q i with h2|h2
   ·exact hall2 q h2
   ·obtain rfl:q=i:=by omega
    exact h
  have hno:fitAt l al r i=false→(decide (al.length=r.length)&&(List.range r.length).all (fitAt l al r))=false:=fun h=>by
   rw [Bool.and_eq_false_iff];refine .inr (List.all_eq_false.2 ⟨i,List.mem_range.2 (by omega),by rw [h];decide⟩)
  refine yb rfl trivial (fun h1=>?_) (fun h1=>?_)
  ·have h1:(!z7q (r.getD i (0,[],())))=true:=h1;refine yq rfl trivial ?_;refine yT Tryz.func99 rfl trivial ?_;refine yR Tryz.func99 rfl trivial ?_;rw [hno (by rw [fitAt,show z7q (r.getD i (0,[],()))=false by simpa using h1];rfl)];rfl
  ·have h1:(!z7q (r.getD i (0,[],())))=false:=h1;have h1:z7q (r.getD i (0,[],()))=true:=by simpa using h1
   refine yq rfl ?_ ?_
   ·simp only [Int.toNat_natCast,e1,List.length_map,z9e];exact⟨⟨by omega,by omega⟩,⟨by omega,by omega⟩,trivial⟩
   refine yB Tryz.func99 rfl trivial (fun h2=>?_) (fun h2=>?_)
   ·have h2:((r.getD i (0,[],())).1 !=(wL l l.length).getD (IntKind.i64.wrap (al.getD i 0-1)).toNat 0)=true:=h2;rw [e1,wL_at ha.1 ha.2.1 ha.2.2]at h2;refine yR Tryz.func99 rfl trivial ?_;rw [hno (by rw [fitAt,h1,Bool.true_and];exact decide_eq_false (by simpa using h2))];rfl
   ·have h2:((r.getD i (0,[],())).1 !=(wL l l.length).getD (IntKind.i64.wrap (al.getD i 0-1)).toNat 0)=false:=h2;rw [e1,wL_at ha.1 ha.2.1 ha.2.2]at h2;refine yS Tryz.func99 rfl trivial ?_;refine yE (ih (i+1) ⟨by omega,hnext ?_⟩ (by omega)) ⟨erl rfl,erl rfl,erl rfl,erl rfl,erw rfl,trivial⟩ (oAl rfl);rw [fitAt,h1,Bool.true_and];exact decide_eq_true (by simpa using h2)
 ·obtain rfl:i=al.length:=by omega
  refine yR Tryz.func99 rfl trivial ?_;have:(decide (al.length=r.length)&&(List.range r.length).all (fitAt l al r))=true:=by
   rw [decide_eq_true hlen,Bool.true_and,List.all_eq_true];exact fun q hq=>hall2 q (by rw [hlen];exact List.mem_range.1 hq)
  rw [this];rfl
theorem zd0(l:List Nd)(hm:MdB l)(ty:Ty l)(op:List UInt8)(ho:isVal op=true)(r:List Vr)(hq:∀a∈r,QVr a):ACall Tryz.prog 103 [.d (eBt l),vSL op,.d (eRow r)] [] (fun x o=>x=vB (fitB l op r)):=by
 refine yN Tryz.func103 fun C hC hCl hDs hGk=>?_;have hl:=ty.small;have hall:=@zf3 l ty op ho;refine yV Tryz.func103 rfl trivial (z5n l op hl) (.refl _) ?_;have hal:=z1f l op l.length;unfold fitB;generalize allL l op l.length=al at *;refine yB Tryz.func103 rfl trivial (fun h=>?_) (fun h=>?_)
 ·have h:(((al.map eI).length:Int) !=((r.map eVr).length:Int))=true:=h;have h':al.length≠r.length:=fun e=>by simp [e]at h
  refine yR Tryz.func103 rfl trivial ?_;rw [decide_eq_false h',Bool.false_and];rfl
 have h:(((al.map eI).length:Int) !=((r.map eVr).length:Int))=false:=h;have hlen:al.length=r.length:=by simp at h;omega
 refine yS Tryz.func103 rfl trivial ?_;refine z8 (α:=Nat) (fun i=>[(2,.d (eRow r)),(3,.ptr 0 0),(7,.d (eIs al)),(8,vI .i64 (i:Int))]) (fun i=>[some (bBt l)]) (fun i=>i≤al.length∧∀q,q<i→fitAt l al r q=true) (fun i=>al.length-i) 0 ⟨Nat.zero_le _,fun q hq=>by omega⟩ ?_ ?_
 ·exact fun h=>yE h (eAl rfl) (oAl rfl)
 rintro i ⟨hi,hall2⟩ ih;refine yB Tryz.func103 rfl trivial (fun hb=>?_) (fun hb=>?_)<;>simp only [List.length_map,decide_eq_true_eq,decide_eq_false_iff_not]at hb
 ·have hlt:i<al.length:=by omega
  have ha:=hall hlt;have hm:r.getD i (0,[],())∈r:=zw _ (by omega);have e1:IntKind.i64.wrap (al.getD i 0-1)=al.getD i 0-1:=z6 (by omega) (by omega);refine yV Tryz.func103 rfl (by simp [andP]<;>omega) (zhg (r.getD i (0,[],())).1 (r.getD i (0,[],())).2.1 (hq _ hm).1 (hq _ hm).2) (.refl _) ?_;refine yO 19 Tryz.func103 rfl trivial ?_;have hnext:fitAt l al r i=true→∀q,q<i+1→fitAt l al r q=true:=fun h q hq=>by
   rcases Nat.lt_or_ge q i with h2|h2
   ·exact hall2 q h2
   ·obtain rfl:q=i:=by omega
    exact h
  have hno:fitAt l al r i=false→(decide (al.length=r.length)&&(List.range r.length).all (fitAt l al r))=false:=fun h=>by
   rw [Bool.and_eq_false_iff];refine .inr (List.all_eq_false.2 ⟨i,List.mem_range.2 (by omega),by rw [h];decide⟩)
  refine yb rfl trivial (fun h1=>?_) (fun h1=>?_)
  ·have h1:(!z7q (r.getD i (0,[],())))=true:=h1;refine yq rfl trivial ?_;refine yT Tryz.func103 rfl trivial ?_;refine yR Tryz.func103 rfl trivial ?_;rw [hno (by rw [fitAt,show z7q (r.getD i (0,[],()))=false by simpa using h1];rfl)];rfl
  ·have h1:(!z7q (r.getD i (0,[],())))=false:=h1;have h1:z7q (r.getD i (0,[],()))=true:=by simpa using h1
   have hS:=(val_s ty (j:=(al.getD i 0-1).toNat) (by omega) ha.2.2).2;refine yQ Tryz.func68 rfl ?_ (z71 l (ln l (al.getD i 0)) hS.lo hS.hi hS.n (Nat.le_of_lt ty.lt)) ⟨.refl _,.of ?_,trivial⟩ ?_
   ·simp only [Int.toNat_natCast,e1,List.length_map];exact⟨by omega,⟨by omega,by omega⟩,⟨by omega,by omega⟩,trivial⟩
   ·show AV.d (eNd (l.getD (IntKind.i64.wrap (al.getD i 0-1)).toNat default))=_;rw [e1]
   refine yq rfl ?_ ?_
   ·trivial
   refine yB Tryz.func103 rfl trivial (fun h2=>?_) (fun h2=>?_)
   ·have h2:((r.getD i (0,[],())).1 !=wdN l (ln l (al.getD i 0)))=true:=h2;refine yR Tryz.func103 rfl trivial ?_;rw [hno (by rw [fitAt,h1,Bool.true_and];exact decide_eq_false (by simpa using h2))];rfl
   ·have h2:((r.getD i (0,[],())).1 !=wdN l (ln l (al.getD i 0)))=false:=h2;refine yS Tryz.func103 rfl trivial ?_;refine yE (ih (i+1) ⟨by omega,hnext ?_⟩ (by omega)) ⟨erl rfl,erl rfl,erl rfl,erw rfl,trivial⟩ (oAl rfl);rw [fitAt,h1,Bool.true_and];exact decide_eq_true (by simpa using h2)
 ·obtain rfl:i=al.length:=by omega
  refine yR Tryz.func103 rfl trivial ?_;have:(decide (al.length=r.length)&&(List.range r.length).all (fitAt l al r))=true:=by
   rw [decide_eq_true hlen,Bool.true_and,List.all_eq_true];exact fun q hq=>hall2 q (by rw [hlen];exact List.mem_range.1 hq)
  rw [this];rfl
@[reducible] def gNums(v:List (Nat×Nat)):AObj:=gL 118 2 (fun p:Nat×Nat=>vN p.1 p.2) (0,0) v
@[reducible] def zVc:AObj:=.cells 118 [.d (eI 0),.d (.v (.slice none 0 0))]
theorem z5m{v:List (Nat×Nat)}{i j:Int}{q:Nat×Nat}(e:i=j)(n:v.getD j.toNat (0,0)=q):AV.d (vN (v.getD i.toNat (0,0)).1 (v.getD i.toNat (0,0)).2)=AV.d (vN q.1 q.2):=by
 subst e;rw [n]
theorem zj2{n:List Int}{i:Nat}{a:Int}(e:n.getD i 0=a):AV.d (eI (n.getD i 0))=vI .i64 a:=by subst e;rfl
theorem zh7{x:Nd}{v:List (Nat×Nat)}{p:Nat×Nat}(h:OpRes x (takes x v) p)(hab:∀a∈x.a,1≤a∧a≤v.length)(hvl:v.length≤1000000)(vh:Value):
  ACall Tryz.prog 104 [.d (eNd x),.d (.v vh)] [some (gNums v),some (.hold (.gs 0) vh)] (fun r o=>r=.d (vN p.1 p.2)∧o=[some (gNums v),some (.hold (.gs 0) vh)]):=by
 refine yN Tryz.func104 fun C hC hCl hDs hGk=>?_;refine zcv 1 1 rfl rfl ?_;have hpl:C.π.length=2:=by rw [hCl,hC];rfl
 have htl:=z6f x v;have harg:∀j,j<x.a.length→∀q,nm (takes x v) j=q→IntKind.i64.wrap (x.a.getD j 0-1)=x.a.getD j 0-1∧1≤x.a.getD j 0∧x.a.getD j 0≤v.length∧v.getD (x.a.getD j 0-1).toNat (0,0)=q:=fun j hj q hq=>by
  have:=hab _ (zw 0 hj);rw [zal hj]at hq;exact⟨z6 (by omega) (by omega),this.1,this.2,hq⟩
 generalize takes x v=a at *;cases h with
 | const h hm=>
  refine yB Tryz.func104 rfl trivial (fun g=>?_) (fun g=>?_)<;>rw [show((⟨#[99,111,110,115,116]⟩:ByteArray))=⟨z11.toArray⟩from rfl,strB,h]at g;rotate_left
  ·exact absurd g (by decide)
  refine yV Tryz.func104 rfl trivial ((zd3 x.t (Nat.le_trans (zj6 hm) (by decide))).mono fun r o hr=>hr.trans (show mkR x.t=tupOf [.d (vN x.t.length (mkN x.t)),vI .i64 0]by rw [mkR,if_pos hm])) (.refl _) ?_;exact yL Tryz.func104 rfl trivial (.refl _) (oAl rfl) ⟨rfl,rfl⟩ (o2:=[some (gNums v),some (.hold (.gs 0) vh)])
 | ite h hc hy hz=>
  rename_i c w y z;have hx3:x.a.length=3:=by rw [←htl];rfl
  obtain⟨e0,l0,u0,n0⟩:=harg 0 (by omega) (1,c) rfl;obtain⟨e1,l1,u1,n1⟩:=harg 1 (by omega) (w,y) rfl;obtain⟨e2,l2,u2,n2⟩:=harg 2 (by omega) (w,z) rfl;refine yB Tryz.func104 rfl trivial (fun g=>?_) (fun g=>?_)<;>rw [show((⟨#[99,111,110,115,116]⟩:ByteArray))=⟨z11.toArray⟩from rfl,strB,h]at g
  ·exact absurd g (by decide)
  refine yB Tryz.func104 rfl trivial (fun g=>?_) (fun g=>?_)<;>rw [show((⟨#[105,116,101]⟩:ByteArray))=⟨kIte.toArray⟩from rfl,strB,h]at g;rotate_left
  ·exact absurd g (by decide)
  refine z2d 30 28 29 (c:=none) (a:=.dead) (o2:=bN w (if c=1 then y else z)) tabOk Tryz.func104 rfl rfl trivial (by kernel_rfl) (by kernel_rfl) rfl rfl rfl (by kernel_rfl) (by show C.π.length≤4;omega) rfl rfl rfl rfl rfl rfl
   (fun _=>yQ Tryz.func140 rfl (by simp only [show Int.toNat 0=0 from rfl,show Int.toNat 1=1 from rfl,show Int.toNat 2=2 from rfl,List.length_map,true_and,and_true,e0,e1,e2,hx3];omega) (zsr c w y z hc) ⟨.of (z5m e0 n0),.of (z5m e1 n1),.of (z5m e2 n2),trivial⟩ (yq rfl trivial rfl))
   rfl rfl ?_ ?_ trivial ?_
  ·rfl
  ·rfl
  exact yL Tryz.func104 rfl trivial (.refl _) (oAl rfl) ⟨rfl,rfl⟩ (o2:=[some (gNums v),some (.hold (.gs 0) vh)])
 | slice h hwb h1 h2 hn m0 m1=>
  rename_i w y lo hi;have hx1:x.a.length=1:=by rw [←htl];rfl
  obtain⟨e0,l0,u0,n0⟩:=harg 0 (by omega) (w,y) rfl;refine yB Tryz.func104 rfl trivial (fun g=>?_) (fun g=>?_)<;>rw [show((⟨#[99,111,110,115,116]⟩:ByteArray))=⟨z11.toArray⟩from rfl,strB,h]at g
  ·exact absurd g (by decide)
  refine yB Tryz.func104 rfl trivial (fun g=>?_) (fun g=>?_)<;>rw [show((⟨#[105,116,101]⟩:ByteArray))=⟨kIte.toArray⟩from rfl,strB,h]at g
  ·exact absurd g (by decide)
  refine yB Tryz.func104 rfl trivial (fun g=>?_) (fun g=>?_)<;>rw [show((⟨#[115,108,105,99,101]⟩:ByteArray))=⟨z1d.toArray⟩from rfl,strB,h]at g;rotate_left
  ·exact absurd g (by decide)
  refine z2d 22 20 21 (c:=none) (a:=.dead) (o2:=bN (hi-lo+1) (slN y lo (hi-lo+1))) tabOk Tryz.func104 rfl rfl trivial (by kernel_rfl) (by kernel_rfl) rfl rfl rfl (by kernel_rfl) (by show C.π.length≤4;omega) rfl rfl rfl rfl rfl rfl
   (fun _=>yQ Tryz.func141 rfl (by simp only [show Int.toNat 0=0 from rfl,show Int.toNat 1=1 from rfl,show Int.toNat 2=2 from rfl,List.length_map,true_and,and_true,e0,hx1,hn];omega) (zmb w y lo hi hwb h1 h2) ⟨.of (z5m e0 n0),.of (zj2 m0),.of (zj2 m1),trivial⟩ (yq rfl trivial rfl))
   rfl rfl ?_ ?_ trivial ?_
  ·rfl
  ·rfl
  exact yL Tryz.func104 rfl trivial (.refl _) (oAl rfl) ⟨rfl,rfl⟩ (o2:=[some (gNums v),some (.hold (.gs 0) vh)])
 | ext h hw hwb hnb hy hn m0=>
  rename_i w y n;have hx1:x.a.length=1:=by rw [←htl];rfl
  obtain⟨e0,l0,u0,n0⟩:=harg 0 (by omega) (w,y) rfl;have k1:¬x.op=z11:=by rcases h with h|h<;>rw [h]<;>decide
  have k2:¬x.op=kIte:=by rcases h with h|h<;>rw [h]<;>decide
  have k3:¬x.op=z1d:=by rcases h with h|h<;>rw [h]<;>decide
  refine yB Tryz.func104 rfl trivial (fun g=>?_) (fun g=>?_)<;>rw [show((⟨#[99,111,110,115,116]⟩:ByteArray))=⟨z11.toArray⟩from rfl,strB]at g
  ·exact absurd (of_decide_eq_true g) k1
  refine yB Tryz.func104 rfl trivial (fun g=>?_) (fun g=>?_)<;>rw [show((⟨#[105,116,101]⟩:ByteArray))=⟨kIte.toArray⟩from rfl,strB]at g
  ·exact absurd (of_decide_eq_true g) k2
  refine yB Tryz.func104 rfl trivial (fun g=>?_) (fun g=>?_)<;>rw [show((⟨#[115,108,105,99,101]⟩:ByteArray))=⟨z1d.toArray⟩from rfl,strB]at g
  ·exact absurd (of_decide_eq_true g) k3
  refine yB Tryz.func104 rfl trivial (fun g=>?_) (fun g=>?_)<;>rw [show((⟨#[117,101,120,116]⟩:ByteArray))=⟨kUext.toArray⟩from rfl,strB]at g
  ·refine z2d 21 19 20 (c:=none) (a:=.dead) (o2:=bN (w+n) (exN w y n (decide (x.op=kSext)&&y.testBit (w-1)))) tabOk Tryz.func104 rfl rfl trivial (by kernel_rfl) (by kernel_rfl) rfl rfl rfl (by kernel_rfl) (by show C.π.length≤4;omega) rfl rfl rfl rfl rfl rfl
    (fun _=>yQ Tryz.func142 rfl (by simp only [show Int.toNat 0=0 from rfl,show Int.toNat 1=1 from rfl,show Int.toNat 2=2 from rfl,List.length_map,true_and,and_true,e0,hx1,hn];omega) (zmd w y n (decide (x.op=kSext)) hw hwb hnb) ⟨.of (z5m e0 n0),.of (zj2 m0),.of (show vB ((⟨x.op.toArray⟩:ByteArray).toList==(⟨kSext.toArray⟩:ByteArray).toList)=_ by rw [strB]),trivial⟩ (yq rfl trivial rfl))
    rfl rfl ?_ ?_ trivial ?_
   ·rfl
   ·rfl
   exact yL Tryz.func104 rfl trivial (.refl _) (oAl rfl) ⟨rfl,rfl⟩ (o2:=[some (gNums v),some (.hold (.gs 0) vh)])
  refine yB Tryz.func104 rfl trivial (fun g2=>?_) (fun g2=>?_)<;>rw [show((⟨#[115,101,120,116]⟩:ByteArray))=⟨kSext.toArray⟩from rfl,strB]at g2
  ·refine z2d 21 19 20 (c:=none) (a:=.dead) (o2:=bN (w+n) (exN w y n (decide (x.op=kSext)&&y.testBit (w-1)))) tabOk Tryz.func104 rfl rfl trivial (by kernel_rfl) (by kernel_rfl) rfl rfl rfl (by kernel_rfl) (by show C.π.length≤4;omega) rfl rfl rfl rfl rfl rfl
    (fun _=>yQ Tryz.func142 rfl (by simp only [show Int.toNat 0=0 from rfl,show Int.toNat 1=1 from rfl,show Int.toNat 2=2 from rfl,List.length_map,true_and,and_true,e0,hx1,hn];omega) (zmd w y n (decide (x.op=kSext)) hw hwb hnb) ⟨.of (z5m e0 n0),.of (zj2 m0),.of (show vB ((⟨x.op.toArray⟩:ByteArray).toList==(⟨kSext.toArray⟩:ByteArray).toList)=_ by rw [strB]),trivial⟩ (yq rfl trivial rfl))
    rfl rfl ?_ ?_ trivial ?_
   ·rfl
   ·rfl
   exact yL Tryz.func104 rfl trivial (.refl _) (oAl rfl) ⟨rfl,rfl⟩ (o2:=[some (gNums v),some (.hold (.gs 0) vh)])
  rcases h with h|h
  ·exact absurd h (of_decide_eq_false g)
  ·exact absurd h (of_decide_eq_false g2)
 | un h hal hw hwb hy hp=>
  rename_i w y;have hx1:=hal;obtain⟨e0,l0,u0,n0⟩:=harg 0 (by omega) (w,y) rfl;have k1:¬x.op=z11:=fun e=>h (.inl e)
  have k2:¬x.op=kIte:=fun e=>h (.inr (.inl e))
  have k3:¬x.op=z1d:=fun e=>h (.inr (.inr (.inl e)))
  have k4:¬x.op=kUext:=fun e=>h (.inr (.inr (.inr (.inl e))))
  have k5:¬x.op=kSext:=fun e=>h (.inr (.inr (.inr (.inr e))))
  refine yB Tryz.func104 rfl trivial (fun g=>?_) (fun g=>?_)<;>rw [show((⟨#[99,111,110,115,116]⟩:ByteArray))=⟨z11.toArray⟩from rfl,strB]at g
  ·exact absurd (of_decide_eq_true g) k1
  refine yB Tryz.func104 rfl trivial (fun g=>?_) (fun g=>?_)<;>rw [show((⟨#[105,116,101]⟩:ByteArray))=⟨kIte.toArray⟩from rfl,strB]at g
  ·exact absurd (of_decide_eq_true g) k2
  refine yB Tryz.func104 rfl trivial (fun g=>?_) (fun g=>?_)<;>rw [show((⟨#[115,108,105,99,101]⟩:ByteArray))=⟨z1d.toArray⟩from rfl,strB]at g
  ·exact absurd (of_decide_eq_true g) k3
  refine yB Tryz.func104 rfl trivial (fun g=>?_) (fun g=>?_)<;>rw [show((⟨#[117,101,120,116]⟩:ByteArray))=⟨kUext.toArray⟩from rfl,strB]at g
  ·exact absurd (of_decide_eq_true g) k4
  refine yB Tryz.func104 rfl trivial (fun g=>?_) (fun g=>?_)<;>rw [show((⟨#[115,101,120,116]⟩:ByteArray))=⟨kSext.toArray⟩from rfl,strB]at g
  ·exact absurd (of_decide_eq_true g) k5
  refine yB Tryz.func104 rfl trivial (fun g=>?_) (fun g=>?_);rotate_left
  ·have g:((((x.a.map eI).length:Nat):Int)==1)=false:=g;rw [List.length_map,hx1]at g;cases g
  refine z2d 16 14 15 (c:=none) (a:=.dead) (o2:=bN p.1 p.2) tabOk Tryz.func104 rfl rfl trivial (by kernel_rfl) (by kernel_rfl) rfl rfl rfl (by kernel_rfl) (by show C.π.length≤4;omega) rfl rfl rfl rfl rfl rfl
   (fun _=>yQ Tryz.func143 rfl (by simp only [show Int.toNat 0=0 from rfl,show Int.toNat 1=1 from rfl,show Int.toNat 2=2 from rfl,List.length_map,true_and,and_true,e0,hx1];omega) ((zpz x.op w y hy hw hwb).mono (fun r o hr=>hr.trans (show unR x.op w y=tupOf [.d (vN p.1 p.2),vI .i64 0]by rw [zro,hp];rfl))) ⟨.refl _,.of (z5m e0 n0),trivial⟩ (yq rfl trivial rfl))
   rfl rfl ?_ ?_ trivial ?_
  ·rfl
  ·rfl
  exact yL Tryz.func104 rfl trivial (.refl _) (oAl rfl) ⟨rfl,rfl⟩ (o2:=[some (gNums v),some (.hold (.gs 0) vh)])
 | cat h hal hw hv hb hy hz=>
  rename_i w y u z;have hx2:=hal;obtain⟨e0,l0,u0,n0⟩:=harg 0 (by omega) (w,y) rfl;obtain⟨e1,l1,u1,n1⟩:=harg 1 (by omega) (u,z) rfl;have k1:¬x.op=z11:=by rw [h];decide
  have k2:¬x.op=kIte:=by rw [h];decide
  have k3:¬x.op=z1d:=by rw [h];decide
  have k4:¬x.op=kUext:=by rw [h];decide
  have k5:¬x.op=kSext:=by rw [h];decide
  refine yB Tryz.func104 rfl trivial (fun g=>?_) (fun g=>?_)<;>rw [show((⟨#[99,111,110,115,116]⟩:ByteArray))=⟨z11.toArray⟩from rfl,strB]at g
  ·exact absurd (of_decide_eq_true g) k1
  refine yB Tryz.func104 rfl trivial (fun g=>?_) (fun g=>?_)<;>rw [show((⟨#[105,116,101]⟩:ByteArray))=⟨kIte.toArray⟩from rfl,strB]at g
  ·exact absurd (of_decide_eq_true g) k2
  refine yB Tryz.func104 rfl trivial (fun g=>?_) (fun g=>?_)<;>rw [show((⟨#[115,108,105,99,101]⟩:ByteArray))=⟨z1d.toArray⟩from rfl,strB]at g
  ·exact absurd (of_decide_eq_true g) k3
  refine yB Tryz.func104 rfl trivial (fun g=>?_) (fun g=>?_)<;>rw [show((⟨#[117,101,120,116]⟩:ByteArray))=⟨kUext.toArray⟩from rfl,strB]at g
  ·exact absurd (of_decide_eq_true g) k4
  refine yB Tryz.func104 rfl trivial (fun g=>?_) (fun g=>?_)<;>rw [show((⟨#[115,101,120,116]⟩:ByteArray))=⟨kSext.toArray⟩from rfl,strB]at g
  ·exact absurd (of_decide_eq_true g) k5
  refine yB Tryz.func104 rfl trivial (fun g=>?_) (fun g=>?_)
  ·have g:((((x.a.map eI).length:Nat):Int)==1)=true:=g;rw [List.length_map,hx2]at g;cases g
  refine z2d 24 22 23 (c:=none) (a:=.dead) (o2:=bN (w+u) (jnN w y u z)) tabOk Tryz.func104 rfl rfl trivial (by kernel_rfl) (by kernel_rfl) rfl rfl rfl (by kernel_rfl) (by show C.π.length≤4;omega) rfl rfl rfl rfl rfl rfl
   (fun _=>yQ Tryz.func144 rfl (by simp only [show Int.toNat 0=0 from rfl,show Int.toNat 1=1 from rfl,show Int.toNat 2=2 from rfl,List.length_map,true_and,and_true,e0,e1,hx2];omega) (zq1 w y u z (by omega) (by omega) hb) ⟨.of (by show vSL x.op=_;rw [h];rfl),.of (z5m e0 n0),.of (z5m e1 n1),trivial⟩ (yq rfl trivial rfl))
   rfl rfl ?_ ?_ trivial ?_
  ·rfl
  ·rfl
  exact yL Tryz.func104 rfl trivial (.refl _) (oAl rfl) ⟨rfl,rfl⟩ (o2:=[some (gNums v),some (.hold (.gs 0) vh)])
 | bin h h2 hal hw hwb hy hz hp=>
  rename_i w y z;have hx2:=hal;obtain⟨e0,l0,u0,n0⟩:=harg 0 (by omega) (w,y) rfl;obtain⟨e1,l1,u1,n1⟩:=harg 1 (by omega) (w,z) rfl;have k1:¬x.op=z11:=fun e=>h (.inl e)
  have k2:¬x.op=kIte:=fun e=>h (.inr (.inl e))
  have k3:¬x.op=z1d:=fun e=>h (.inr (.inr (.inl e)))
  have k4:¬x.op=kUext:=fun e=>h (.inr (.inr (.inr (.inl e))))
  have k5:¬x.op=kSext:=fun e=>h (.inr (.inr (.inr (.inr e))))
  refine yB Tryz.func104 rfl trivial (fun g=>?_) (fun g=>?_)<;>rw [show((⟨#[99,111,110,115,116]⟩:ByteArray))=⟨z11.toArray⟩from rfl,strB]at g
  ·exact absurd (of_decide_eq_true g) k1
  refine yB Tryz.func104 rfl trivial (fun g=>?_) (fun g=>?_)<;>rw [show((⟨#[105,116,101]⟩:ByteArray))=⟨kIte.toArray⟩from rfl,strB]at g
  ·exact absurd (of_decide_eq_true g) k2
  refine yB Tryz.func104 rfl trivial (fun g=>?_) (fun g=>?_)<;>rw [show((⟨#[115,108,105,99,101]⟩:ByteArray))=⟨z1d.toArray⟩from rfl,strB]at g
  ·exact absurd (of_decide_eq_true g) k3
  refine yB Tryz.func104 rfl trivial (fun g=>?_) (fun g=>?_)<;>rw [show((⟨#[117,101,120,116]⟩:ByteArray))=⟨kUext.toArray⟩from rfl,strB]at g
  ·exact absurd (of_decide_eq_true g) k4
  refine yB Tryz.func104 rfl trivial (fun g=>?_) (fun g=>?_)<;>rw [show((⟨#[115,101,120,116]⟩:ByteArray))=⟨kSext.toArray⟩from rfl,strB]at g
  ·exact absurd (of_decide_eq_true g) k5
  refine yB Tryz.func104 rfl trivial (fun g=>?_) (fun g=>?_)
  ·have g:((((x.a.map eI).length:Nat):Int)==1)=true:=g;rw [List.length_map,hx2]at g;cases g
  refine z2d 24 22 23 (c:=none) (a:=.dead) (o2:=bN p.1 p.2) tabOk Tryz.func104 rfl rfl trivial (by kernel_rfl) (by kernel_rfl) rfl rfl rfl (by kernel_rfl) (by show C.π.length≤4;omega) rfl rfl rfl rfl rfl rfl
   (fun _=>yQ Tryz.func144 rfl (by simp only [show Int.toNat 0=0 from rfl,show Int.toNat 1=1 from rfl,show Int.toNat 2=2 from rfl,List.length_map,true_and,and_true,e0,e1,hx2];omega) ((zme x.op w y z h2 hy hz hw hwb).mono (fun r o hr=>hr.trans (show rbinA (binR x.op w y z)=tupOf [.d (vN p.1 p.2),vI .i64 0]by rw [hp];rfl))) ⟨.refl _,.of (z5m e0 n0),.of (z5m e1 n1),trivial⟩ (yq rfl trivial rfl))
   rfl rfl ?_ ?_ trivial ?_
  ·rfl
  ·rfl
  exact yL Tryz.func104 rfl trivial (.refl _) (oAl rfl) ⟨rfl,rfl⟩ (o2:=[some (gNums v),some (.hold (.gs 0) vh)])
def cnt(l:List Nd)(op:List UInt8)(n:Nat):Nat:=(allL l op n).length
def val1(l:List Nd)(st inp:List (Nat×Nat))(n:Nat)(v:List (Nat×Nat)):Nat×Nat:=
 if isVal (nd l n).op=false then(0,0)
 else if(nd l n).op=ze then nm st (cnt l ze n)
 else if(nd l n).op=zq then nm inp (cnt l zq n)
 else opV (nd l n) (takes (nd l n) v)
def valL(l:List Nd)(st inp:List (Nat×Nat)):Nat→List (Nat×Nat)
 | 0=>[]
 | n+1=>valL l st inp n++[val1 l st inp n (valL l st inp n)]
theorem z9d(l:List Nd)(op:List UInt8)(n:Nat):∀k,∃r,allL l op (n+k)=allL l op n++r
 | 0=>⟨[],by simp⟩
 | k+1=>by
  obtain⟨r,h⟩:=z9d l op n k;rw [←Nat.add_assoc,z3b,h];exact⟨_,List.append_assoc ..⟩
theorem z1q(l:List Nd)(op:List UInt8)(n:Nat):cnt l op (n+1)=cnt l op n+if(nd l n).op=op then 1 else 0:=by
 unfold cnt;rw [z3b,List.length_append];split<;>rfl
theorem zup{l:List Nd}{op:List UInt8}{n m:Nat}(h:n<m)(ho:(nd l n).op=op):cnt l op n<cnt l op m∧(allL l op m).getD (cnt l op n) 0=(n:Int)+1:=by
 obtain⟨r,hr⟩:=z9d l op (n+1) (m-(n+1));rw [show n+1+(m-(n+1))=m by omega,z3b,if_pos ho,List.append_assoc]at hr;unfold cnt;rw [hr];constructor
 ·simp
 ·simp [List.getD_eq_getElem?_getD,List.getElem?_append_right]
theorem cnt_le{l:List Nd}{op:List UInt8}{n m:Nat}(h:n≤m):cnt l op n≤cnt l op m:=by
 obtain⟨r,hr⟩:=z9d l op n (m-n);rw [show n+(m-n)=m by omega]at hr;unfold cnt;rw [hr,List.length_append];omega
theorem zn9(l:List Nd)(n:Nat):ln l ((n:Int)+1)=nd l n:=by
 show l.getD ((n:Int)+1-1).toNat default=l.getD n default;rw [show((n:Int)+1-1).toNat=n by omega]
theorem zdi{l:List Nd}{op:List UInt8}{v:List (Nat×Nat)}(h:Fit l op v){n:Nat}(hn:n<l.length)(ho:(nd l n).op=op):
  cnt l op n<v.length∧((nm v (cnt l op n)).1:Int)=wdN l (nd l n)∧(nm v (cnt l op n)).2<2^(nm v (cnt l op n)).1:=by
 obtain⟨h1,h2⟩:=zup hn ho;have h3:cnt l op n<v.length:=by rw [h.len];exact h1
 obtain⟨h4,h5,_⟩:=h.at_ _ h3;rw [h2,zn9]at h4;exact⟨h3,h4,h5⟩
theorem z5r(l:List Nd)(st inp:List (Nat×Nat)):∀n,(valL l st inp n).length=n
 | 0=>rfl
 | n+1=>by rw [valL,List.length_append,z5r l st inp n];rfl
theorem zuf{a:List (Nat×Nat)}{x:Nat×Nat}{n:Nat}(ha:a.length=n):(∀j,j<n→nm (a++[x]) j=nm a j)∧nm (a++[x]) n=x:=by
 subst ha;constructor
 ·intro j hj;simp [nm,List.getD_eq_getElem?_getD,List.getElem?_append_left hj]
 ·simp [nm,List.getD_eq_getElem?_getD]
theorem z7r{l:List Nd}(ty:Ty l){st inp:List (Nat×Nat)}(hs:Fit l ze st)(hi:Fit l zq inp):∀n,n≤l.length→VOk l (valL l st inp n) n
 | 0,_=>⟨rfl,fun j hj=>by omega,fun j hj=>by omega⟩
 | n+1,hn=>by
  have ih:=z7r ty hs hi n (by omega);obtain⟨a1,a2⟩:=zuf (x:=val1 l st inp n (valL l st inp n)) ih.len;refine⟨z5r _ _ _ _,fun j hj hv=>?_,fun j hj hv=>?_⟩
  ·rcases Nat.lt_or_ge j n with h|h
   ·rw [valL,a1 j h];exact ih.no j h hv
   ·obtain rfl:j=n:=by omega
    rw [valL,a2,val1,if_pos hv]
  ·rcases Nat.lt_or_ge j n with h|h
   ·rw [valL,a1 j h];exact ih.yes j h hv
   ·obtain rfl:j=n:=by omega
    rw [valL,a2,val1,if_neg (by rw [hv];decide)];by_cases h1:(nd l j).op=ze
    ·rw [if_pos h1];exact(zdi hs (by omega) h1).2
    ·by_cases h2:(nd l j).op=zq
     ·rw [if_neg h1,if_pos h2];exact(zdi hi (by omega) h2).2
     ·rw [if_neg h1,if_neg h2];exact(zmu ty (by omega) ih hv h1 h2).2
theorem zsd{l:List Nd}(ty:Ty l){n:Nat}(hn:n<l.length):decide (wN l (nd l n)=0)=!isVal (nd l n).op:=by
 unfold wN;cases h:isVal (nd l n).op with
 | false=>simp
 | true=>
  have:=(zai ty hn h).1;rw [if_pos rfl];exact decide_eq_false (by omega)
@[reducible] def vO(st:List (Nat×Nat))(c:Nat):D:=eNums (st.drop c)
theorem zod(st:List (Nat×Nat))(c:Nat)(rd:Nat→D):VLe (.d (.sl 2 ((((st.drop c).map fun p:Nat×Nat=>vN p.1 p.2).drop (Int.toNat 1)).take ((((st.drop c).map fun p:Nat×Nat=>vN p.1 p.2).length:Int)-1).toNat) rd)) (.d (vO st (c+1))):=by
 refine VLe.sl ?_ (z6b (fun p:Nat×Nat=>vN p.1 p.2) (0,0) _);rw [show Int.toNat 1=1 from rfl,List.take_of_length_le (by rw [List.length_drop];omega),←List.map_drop,List.drop_drop]
theorem zn0(st:List (Nat×Nat))(c:Nat):nm (st.drop c) 0=nm st c:=by simp [nm,List.getD_eq_getElem?_getD]
theorem fitQ{l:List Nd}{op:List UInt8}{v:List (Nat×Nat)}(h:Fit l op v):∀a∈v.map vr,QVr a:=by
 intro a ha;obtain⟨p,hp,rfl⟩:=List.mem_map.1 ha;obtain⟨i,hi,rfl⟩:=List.getElem_of_mem hp;have:=(h.at_ i hi).2.2.2;rw [show nm v i=v[i]by simp [nm,hi]]at this;exact zuu (by omega)
theorem zih(l:List Nd)(st inp:List (Nat×Nat))(n:Nat):(valL l st inp (n+1)).map (fun p:Nat×Nat=>vN p.1 p.2)=(valL l st inp n).map (fun p:Nat×Nat=>vN p.1 p.2)++[vN (val1 l st inp n (valL l st inp n)).1 (val1 l st inp n (valL l st inp n)).2]:=by
 rw [valL,List.map_append];rfl
theorem zlb:CLe z24 (vN 0 0):=by
 intro w ok us h;cases h with|cons h1 f1 t=>
 cases t with|cons h2 f2 t=>
 cases t;cases h2;exact .cons h1 f1 (.cons (.nil (Nat.zero_le _)) f2 .nil)
theorem zk4{x:Nd}{v:List (Nat×Nat)}{j:Nat}(h:j<x.a.length):(takes x v).take (j+1)=(takes x v).take j++[nm v (x.a.getD j 0-1).toNat]:=by
 have h2:j<(takes x v).length:=by rw [z6f];exact h
 rw [List.take_succ_eq_append_getElem h2,←zal h,←z4p (d:=(0,0)) h2]
theorem zp3(l:List Nd)(hm:MdB l)(ty:Ty l)(st inp:List (Nat×Nat))(hs:Fit l ze st)(hi:Fit l zq inp):ACall Tryz.prog 73 [.d (eBt l),.d (eNums st),.d (eNums inp)] [] (fun r o=>r=tupOf [.d (eNums (valL l st inp l.length)),vI .i64 0]):=by
 refine yN Tryz.func73 fun C hC hCl hDs hGk=>?_;have hl:=ty.small;have f1:=zgh l ty ze rfl (st.map vr) (fitQ hs);have f2:=zgh l ty zq rfl (inp.map vr) (fitQ hi);rw [z8u,zji hs]at f1;rw [z8u,zji hi]at f2;refine yV Tryz.func73 rfl trivial (z9f l hm ty) (.refl _) ?_;refine yV Tryz.func73 rfl trivial f1 (.refl _) ?_;refine yF Tryz.func73 rfl trivial ?_;refine yV Tryz.func73 rfl trivial f2 (.refl _) ?_;refine yF Tryz.func73 rfl trivial ?_;refine yS Tryz.func73 rfl ?nd ?_;case nd=>
  show(0≤(0:Int)∧(0:Int)≤((l.map eNd).length:Int)∧((l.map eNd).length:Int)*32≤281474976710656)∧True;rw [List.length_map];exact⟨⟨by decide,by omega,by omega⟩,trivial⟩
 refine z8 (α:=Nat) (fun n=>[(8,.d (eIs (wL l l.length))),(1,.d (vO st (cnt l ze n))),(2,.d (vO inp (cnt l zq n))),(3,.ptr 0 0),(11,.gs 1),(41,.d (eNds l)),(42,vI .i64 (l.length:Int)),(43,vI .i64 (n:Int))])
  (fun n=>[some (bBt l),some (gNums (valL l st inp n))]) (fun n=>n≤l.length) (fun n=>l.length-n) 0 (Nat.zero_le _) ?_ ?_
 ·exact fun h=>yE h ⟨erl rfl,erl rfl,erl rfl,erl rfl,erl rfl,erl rfl,⟨_,rfl,.of (by rw [List.length_map])⟩,erl rfl,trivial⟩ ⟨.refl _,.gL rfl,trivial⟩
 rintro n hn ih;refine yB Tryz.func73 rfl trivial (fun hb=>?_) (fun hb=>?_)<;>simp only [decide_eq_true_eq,decide_eq_false_iff_not]at hb
 ·have hlt:n<l.length:=by omega
  have hv:=z7r ty hs hi n hn;have next:∀(y:D) (v1:Nat×Nat),val1 l st inp n (valL l st inp n)=v1→CLe y (vN v1.1 v1.2)→OLe (.grow 118 2 ((valL l st inp n).map (fun p:Nat×Nat=>vN p.1 p.2)++[y]) (catRd ((valL l st inp n).map (fun p:Nat×Nat=>vN p.1 p.2)).length (fun i=>vN ((valL l st inp n).getD i (0,0)).1 ((valL l st inp n).getD i (0,0)).2) (litRd [y]))) (gNums (valL l st inp (n+1))):=by
   intro y v1 hv1 hle;refine OLe.gL_c ?_;rw [zih,hv1];exact CLes.append (CLes.refl _) ⟨hle,trivial⟩
  have hwz:=zsd ty hlt;have hwg:(wL l l.length).getD n 0=wN l (nd l n):=zlg hlt;have room:∀a:D,(((valL l st inp n).map (fun p:Nat×Nat=>vN p.1 p.2)).length+[a].length)*32≤140737488355328∧True:=fun a=>by
   rw [List.length_map,z5r];exact⟨by show(n+1)*32≤_;omega,trivial⟩
  refine yB Tryz.func73 rfl (by simp [andP,z9e]<;>omega) (fun h1=>?_) (fun h1=>?_)
  ·have h1:((wL l l.length).getD n 0==0)=true:=h1;rw [hwg,beqI,hwz]at h1;have h1:isVal (nd l n).op=false:=by simpa using h1
   have hv1:val1 l st inp n (valL l st inp n)=(0,0):=by rw [val1,if_pos h1]
   have k1:¬(nd l n).op=ze:=fun e=>by rw [e]at h1;cases h1
   have k2:¬(nd l n).op=zq:=fun e=>by rw [e]at h1;cases h1
   refine yS Tryz.func73 rfl (room _) ?_;refine yE (ih (n+1) (by omega) (by omega)) ⟨erl rfl,⟨_,rfl,.of ?_⟩,⟨_,rfl,.of ?_⟩,erl rfl,erl rfl,erl rfl,erl rfl,erw rfl,trivial⟩ ⟨.refl _,next _ _ hv1 zlb,trivial⟩
   ·rw [z1q,if_neg k1];rfl
   ·rw [z1q,if_neg k2];rfl
  have h1:((wL l l.length).getD n 0==0)=false:=h1;rw [hwg,beqI,hwz]at h1;have h1:isVal (nd l n).op=true:=by simpa using h1
  refine yB Tryz.func73 rfl trivial (fun h2=>?_) (fun h2=>?_)<;>rw [show((⟨#[115,116,97,116,101]⟩:ByteArray))=⟨ze.toArray⟩from rfl,strB]at h2
  ·have h2:(nd l n).op=ze:=of_decide_eq_true h2;obtain⟨g1,g2⟩:=zdi hs hlt h2;have hv1:val1 l st inp n (valL l st inp n)=nm st (cnt l ze n):=by rw [val1,if_neg (by rw [h1];decide),if_pos h2]
   refine z4b 6 5 3 (c:=none) (a:=.dead) (o2:=bN (nm (st.drop (cnt l ze n)) 0).1 (nm (st.drop (cnt l ze n)) 0).2) tabOk Tryz.func73 rfl rfl trivial (by kernel_rfl) (by kernel_rfl) rfl rfl (fun _=>yq rfl ?nd rfl) rfl rfl ?_ ?_ trivial ?_;case nd=>
    simp only [List.length_map,List.length_drop];exact⟨⟨by decide,by omega,by omega⟩,⟨by decide,by omega⟩,trivial⟩
   ·rfl
   ·rfl
   refine yS Tryz.func73 rfl (room _) ?_;refine yE (ih (n+1) (by omega) (by omega)) ⟨erl rfl,⟨_,rfl,?_⟩,⟨_,rfl,.of ?_⟩,erl rfl,erl rfl,erl rfl,erl rfl,erw rfl,trivial⟩ ⟨.refl _,next _ _ hv1 ?_,trivial⟩
   ·rw [z1q,if_pos h2];exact zod _ _ _
   ·rw [z1q,if_neg (by rw [h2];decide)];rfl
   ·rw [zn0];exact .refl _
  have h2:¬(nd l n).op=ze:=of_decide_eq_false h2;refine yB Tryz.func73 rfl trivial (fun h3=>?_) (fun h3=>?_)<;>rw [show((⟨#[105,110,112,117,116]⟩:ByteArray))=⟨zq.toArray⟩from rfl,strB]at h3
  ·have h3:(nd l n).op=zq:=of_decide_eq_true h3;obtain⟨g1,g2⟩:=zdi hi hlt h3;have hv1:val1 l st inp n (valL l st inp n)=nm inp (cnt l zq n):=by rw [val1,if_neg (by rw [h1];decide),if_neg h2,if_pos h3]
   refine z4b 6 5 3 (c:=none) (a:=.dead) (o2:=bN (nm (inp.drop (cnt l zq n)) 0).1 (nm (inp.drop (cnt l zq n)) 0).2) tabOk Tryz.func73 rfl rfl trivial (by kernel_rfl) (by kernel_rfl) rfl rfl (fun _=>yq rfl ?nd rfl) rfl rfl ?_ ?_ trivial ?_;case nd=>
    simp only [List.length_map,List.length_drop];exact⟨⟨by decide,by omega,by omega⟩,⟨by decide,by omega⟩,trivial⟩
   ·rfl
   ·rfl
   refine yS Tryz.func73 rfl (room _) ?_;refine yE (ih (n+1) (by omega) (by omega)) ⟨erl rfl,⟨_,rfl,.of ?_⟩,⟨_,rfl,?_⟩,erl rfl,erl rfl,erl rfl,erl rfl,erw rfl,trivial⟩ ⟨.refl _,next _ _ hv1 ?_,trivial⟩
   ·rw [z1q,if_neg h2];rfl
   ·rw [z1q,if_pos h3];exact zod _ _ _
   ·rw [zn0];exact .refl _
  have h3:¬(nd l n).op=zq:=of_decide_eq_false h3;have hop:=zmu ty hlt hv h1 h2 h3;have hv1:val1 l st inp n (valL l st inp n)=opV (nd l n) (takes (nd l n) (valL l st inp n)):=by rw [val1,if_neg (by rw [h1];decide),if_neg h2,if_neg h3]
  have hab:∀a∈(nd l n).a,1≤a∧a≤n:=fun a ha=>by
   have:=(ty.node n hlt).ab a ha;omega
  have hxa:(nd l n).a.length≤4:=by
   rw [(ty.node n hlt).al];exact Nat.le_trans List.count_le_length (z8s _)
  obtain⟨gf,fn,c,hf1,hf2,hf3,hmeth,hval⟩:=zoe hop.1;have hofc:=zt0 (nd l n);generalize ofT (nd l n)=oT at *;have hvl:=z5r l st inp n;have hsub:∀j,j≤(nd l n).a.length→((takes (nd l n) (valL l st inp n)).take j).length=j:=fun j hj=>by rw [List.length_take,z6f];omega
  refine yS Tryz.func73 rfl trivial ?_;refine z1j (s:=2) (e:=118) (t:=15) (.inl rfl) (fun i=>vN (nm [] i).1 (nm [] i).2) ?_;refine z8 (α:=Nat) (fun j=>[(15,.gs 4),(49,.d (eIs (nd l n).a)),(50,vI .i64 ((nd l n).a.length:Int)),(51,vI .i64 (j:Int)),(13,.ptr 2 0),(14,.ptr 3 0),(8,.d (eIs (wL l l.length))),(1,.d (vO st (cnt l ze n))),(2,.d (vO inp (cnt l zq n))),(3,.ptr 0 0),(11,.gs 1),(41,.d (eNds l)),(42,vI .i64 (l.length:Int)),(43,vI .i64 (n:Int))])
   (fun j=>[some (bBt l),some (gNums (valL l st inp n)),some (bNd (nd l n)),some zVc,some (gNums ((takes (nd l n) (valL l st inp n)).take j))]) (fun j=>j≤(nd l n).a.length) (fun j=>(nd l n).a.length-j) 0 (Nat.zero_le _) ?_ ?_
  ·intro h;refine yE h ⟨erl rfl,erl rfl,⟨_,rfl,.of ?_⟩,erl rfl,erl rfl,erl rfl,erl rfl,erl rfl,erl rfl,erl rfl,erl rfl,erl rfl,erl rfl,erl rfl,trivial⟩ ⟨.refl _,.refl _,.refl _,.refl _,.gL rfl,trivial⟩;rw [List.length_map];rfl
  rintro j hj ihj;refine yB Tryz.func73 rfl trivial (fun hb=>?_) (fun hb=>?_)<;>simp only [decide_eq_true_eq,decide_eq_false_iff_not]at hb
  ·have hjl:j<(nd l n).a.length:=by omega
   have hd:=hab _ (zw 0 hjl);have e1:IntKind.i64.wrap ((nd l n).a.getD j 0-1)=(nd l n).a.getD j 0-1:=z6 (by omega) (by omega);refine yS Tryz.func73 rfl ?nd ?_;case nd=>
    refine⟨?_,?_⟩
    ·rw [List.length_map,hsub j hj];show(j+1)*32≤_;omega
    ·simp only [andP,Int.toNat_natCast,e1,List.length_map,hvl];exact⟨by omega,⟨by omega,by omega⟩,⟨by omega,by omega⟩,trivial⟩
   refine yE (ihj (j+1) (by omega) (by omega)) ⟨erl rfl,erl rfl,erl rfl,erw rfl,erl rfl,erl rfl,erl rfl,erl rfl,erl rfl,erl rfl,erl rfl,erl rfl,erl rfl,erl rfl,trivial⟩ ⟨.refl _,.refl _,.refl _,.refl _,.gL ?_,trivial⟩;rw [zk4 hjl,List.map_append];show _++[vN (nm (valL l st inp n) (IntKind.i64.wrap ((nd l n).a.getD j 0-1)).toNat).1 (nm (valL l st inp n) (IntKind.i64.wrap ((nd l n).a.getD j 0-1)).toNat).2]=_;rw [e1];rfl
  ·obtain rfl:j=(nd l n).a.length:=by omega
   refine za 4 rfl ?_;have htk:(takes (nd l n) (valL l st inp n)).take (nd l n).a.length=takes (nd l n) (valL l st inp n):=List.take_of_length_le (by rw [z6f];omega);rw [htk];refine zv (env':=[(52,.lit false),(13,.ptr 2 0),(14,.ptr 3 0),(15,.d (eNums (takes (nd l n) (valL l st inp n)))),(8,.d (eIs (wL l l.length))),(1,.d (vO st (cnt l ze n))),(2,.d (vO inp (cnt l zq n))),(3,.ptr 0 0),(11,.gs 1),(41,.d (eNds l)),(42,vI .i64 (l.length:Int)),(43,vI .i64 (n:Int))])
    (objs':=[some (bBt l),some (gNums (valL l st inp n)),some (bNd (nd l n)),some zVc]) ?_ hC hCl ⟨⟨_,rfl,.refl _⟩,⟨_,rfl,.refl _⟩,⟨_,rfl,.refl _⟩,⟨_,rfl,.refl _⟩,⟨_,rfl,.refl _⟩,⟨_,rfl,.refl _⟩,⟨_,rfl,.refl _⟩,⟨_,rfl,.refl _⟩,⟨_,rfl,.refl _⟩,⟨_,rfl,.refl _⟩,⟨_,rfl,.refl _⟩,⟨_,rfl,.refl _⟩,trivial⟩ ⟨.refl _,.refl _,.refl _,.refl _,trivial⟩ rfl rfl (Nat.zero_le _)
   generalize takes (nd l n) (valL l st inp n)=a at *;generalize opV (nd l n) a=p at *;refine z4b 9 8 3 (c:=none) (a:=.dead) (o2:=bN p.1 p.2) tabOk Tryz.func73 rfl rfl trivial (by kernel_rfl) (by kernel_rfl) rfl rfl
    (fun _=>by
     refine yQ Tryz.func100 rfl trivial hofc (.refl _) ?_;refine ds_ok tabOk rfl rfl rfl rfl rfl ?_;refine ds_ok tabOk rfl rfl rfl rfl rfl ?_;refine zob (v0:=.agg #[]) (x:=aG0) rfl rfl rfl rfl rfl rfl ?_ ?_ hmeth rfl hval (zf hf1 hf2 hf3) (by rintro r o rfl;rfl) (.refl _) rfl rfl ?_
     ·intro w ok π v hv;cases hv with|d hd=>cases hd with|ifc hd=>cases hd with|ag hd=>cases hd;rfl
     ·intro w ok π;exact .d (.ag .nil)
     exact yq rfl trivial rfl)
    (by rfl) (by rfl) (by rfl) (by rfl) trivial ?_
   refine yS Tryz.func73 rfl (room _) ?_;refine yE (ih (n+1) (by omega) (by omega)) ⟨erl rfl,⟨_,rfl,.of ?_⟩,⟨_,rfl,.of ?_⟩,erl rfl,erl rfl,erl rfl,erl rfl,erw rfl,trivial⟩ ⟨.refl _,next _ _ hv1 (.refl _),trivial⟩
   ·rw [z1q,if_neg h2];rfl
   ·rw [z1q,if_neg h3];rfl
 ·obtain rfl:n=l.length:=by omega
  refine za 1 rfl ?_;exact yR Tryz.func73 rfl trivial rfl
theorem zkc(l:List Nd)(hm:MdB l)(ty:Ty l)(st inp:List (Nat×Nat))(hs:Fit l ze st)(hi:Fit l zq inp):ACall Tryz.prog 77 [.d (eBt l),.d (eNums st),.d (eNums inp)] [] (fun r o=>r=tupOf [.d (eNums (valL l st inp l.length)),vI .i64 0]):=by
 refine yN Tryz.func77 fun C hC hCl hDs hGk=>?_;have hl:=ty.small;have f1:=zd0 l hm ty ze rfl (st.map vr) (fitQ hs);have f2:=zd0 l hm ty zq rfl (inp.map vr) (fitQ hi);rw [z8u,zji hs]at f1;rw [z8u,zji hi]at f2;refine yV Tryz.func77 rfl trivial f1 (.refl _) ?_;refine yV Tryz.func77 rfl trivial f2 (.refl _) ?_;refine yF Tryz.func77 rfl trivial ?_;refine yF Tryz.func77 rfl trivial ?_;refine yS Tryz.func77 rfl trivial ?_;refine z1j (s:=2) (e:=118) (t:=10) (.inl rfl) (fun i=>vN (nm [] i).1 (nm [] i).2) ?_;refine z8 (α:=Nat) (fun n=>[(1,.d (eNums st)),(2,.d (eNums inp)),(3,.ptr 0 0),(10,.gs 1),(11,vI .i64 (cnt l ze n:Int)),(12,vI .i64 (cnt l zq n:Int)),(13,vI .i64 (n:Int))])
  (fun n=>[some (bBt l),some (gNums (valL l st inp n))]) (fun n=>n≤l.length) (fun n=>l.length-n) 0 (Nat.zero_le _) ?_ ?_
 ·exact fun h=>yE h (eAl rfl) ⟨.refl _,.gL rfl,trivial⟩
 rintro n hn ih;refine yB Tryz.func77 rfl trivial (fun hb=>?_) (fun hb=>?_)<;>simp only [List.length_map,decide_eq_true_eq,decide_eq_false_iff_not]at hb
 ·have hlt:n<l.length:=by omega
  have hv:=z7r ty hs hi n hn;have next:∀(y:D) (v1:Nat×Nat),val1 l st inp n (valL l st inp n)=v1→CLe y (vN v1.1 v1.2)→OLe (.grow 118 2 ((valL l st inp n).map (fun p:Nat×Nat=>vN p.1 p.2)++[y]) (catRd ((valL l st inp n).map (fun p:Nat×Nat=>vN p.1 p.2)).length (fun i=>vN ((valL l st inp n).getD i (0,0)).1 ((valL l st inp n).getD i (0,0)).2) (litRd [y]))) (gNums (valL l st inp (n+1))):=by
   intro y v1 hv1 hle;refine OLe.gL_c ?_;rw [zih,hv1];exact CLes.append (CLes.refl _) ⟨hle,trivial⟩
  have room:∀a:D,(((valL l st inp n).map (fun p:Nat×Nat=>vN p.1 p.2)).length+[a].length)*32≤140737488355328:=fun a=>by
   rw [List.length_map,z5r];show(n+1)*32≤_;omega
  have c1:cnt l ze n≤n:=z1f _ _ _;have c2:cnt l zq n≤n:=z1f _ _ _;refine yV Tryz.func77 rfl (by simp [andP]<;>omega) (z74 (nd l n)) (.refl _) ?_;refine yB Tryz.func77 rfl trivial (fun h1=>?_) (fun h1=>?_)
  ·have h1:isVal (nd l n).op=false:=by simpa using h1
   have hv1:val1 l st inp n (valL l st inp n)=(0,0):=by rw [val1,if_pos h1]
   have k1:¬(nd l n).op=ze:=fun e=>by rw [e]at h1;cases h1
   have k2:¬(nd l n).op=zq:=fun e=>by rw [e]at h1;cases h1
   refine yS Tryz.func77 rfl ⟨room _,trivial⟩ ?_;refine yE (ih (n+1) (by omega) (by omega)) ⟨erl rfl,erl rfl,erl rfl,erl rfl,⟨_,rfl,.of ?_⟩,⟨_,rfl,.of ?_⟩,erw rfl,trivial⟩ ⟨.refl _,next _ _ hv1 zlb,trivial⟩
   ·rw [z1q,if_neg k1];rfl
   ·rw [z1q,if_neg k2];rfl
  have h1:isVal (nd l n).op=true:=by simpa using h1
  refine yB Tryz.func77 rfl (by simp [andP]<;>omega) (fun h2=>?_) (fun h2=>?_)<;>rw [show((⟨#[115,116,97,116,101]⟩:ByteArray))=⟨ze.toArray⟩from rfl,strB]at h2
  ·have h2:(nd l n).op=ze:=of_decide_eq_true h2;obtain⟨g1,g2⟩:=zdi hs hlt h2;have hv1:val1 l st inp n (valL l st inp n)=nm st (cnt l ze n):=by rw [val1,if_neg (by rw [h1];decide),if_pos h2]
   refine yS Tryz.func77 rfl ?nd ?_;case nd=>
    refine⟨room _,?_⟩;simp only [andP,List.length_map];exact⟨⟨by omega,by omega⟩,trivial⟩
   refine yE (ih (n+1) (by omega) (by omega)) ⟨erl rfl,erl rfl,erl rfl,erl rfl,⟨_,rfl,.of ?_⟩,⟨_,rfl,.of ?_⟩,erw rfl,trivial⟩ ⟨.refl _,next _ _ hv1 (.refl _),trivial⟩
   ·rw [z1q,if_pos h2];show vI .i64 (IntKind.i64.wrap ((cnt l ze n:Int)+1))=_;rw [z6 (by omega) (by omega)];rfl
   ·rw [z1q,if_neg (by rw [h2];decide)];rfl
  have h2:¬(nd l n).op=ze:=of_decide_eq_false h2;refine yB Tryz.func77 rfl (by simp [andP]<;>omega) (fun h3=>?_) (fun h3=>?_)<;>rw [show((⟨#[105,110,112,117,116]⟩:ByteArray))=⟨zq.toArray⟩from rfl,strB]at h3
  ·have h3:(nd l n).op=zq:=of_decide_eq_true h3;obtain⟨g1,g2⟩:=zdi hi hlt h3;have hv1:val1 l st inp n (valL l st inp n)=nm inp (cnt l zq n):=by rw [val1,if_neg (by rw [h1];decide),if_neg h2,if_pos h3]
   refine yS Tryz.func77 rfl ?nd ?_;case nd=>
    refine⟨room _,?_⟩;simp only [andP,List.length_map];exact⟨⟨by omega,by omega⟩,trivial⟩
   refine yE (ih (n+1) (by omega) (by omega)) ⟨erl rfl,erl rfl,erl rfl,erl rfl,⟨_,rfl,.of ?_⟩,⟨_,rfl,.of ?_⟩,erw rfl,trivial⟩ ⟨.refl _,next _ _ hv1 (.refl _),trivial⟩
   ·rw [z1q,if_neg h2];rfl
   ·rw [z1q,if_pos h3];show vI .i64 (IntKind.i64.wrap ((cnt l zq n:Int)+1))=_;rw [z6 (by omega) (by omega)];rfl
  have h3:¬(nd l n).op=zq:=of_decide_eq_false h3;have hop:=zmu ty hlt hv h1 h2 h3;have hv1:val1 l st inp n (valL l st inp n)=opV (nd l n) (takes (nd l n) (valL l st inp n)):=by rw [val1,if_neg (by rw [h1];decide),if_neg h2,if_neg h3]
  have hab:∀a∈(nd l n).a,1≤a∧a≤(valL l st inp n).length:=fun a ha=>by
   have:=(ty.node n hlt).ab a ha;rw [z5r];omega
  refine zpx 10 1 rfl fun vh hvf=>?_;refine yW [1,2] Tryz.func77 rfl (by simp [andP]<;>omega) (zh7 hop.1 hab (by rw [z5r];omega) vh) ⟨⟨_,rfl,.refl _⟩,⟨_,rfl,.refl _⟩,trivial⟩ (.refl _) ?_;refine zcv 78 2 rfl rfl ?_;refine yS Tryz.func77 rfl ⟨room _,trivial⟩ ?_;refine yE (ih (n+1) (by omega) (by omega)) ⟨erl rfl,erl rfl,erl rfl,erl rfl,⟨_,rfl,.of ?_⟩,⟨_,rfl,.of ?_⟩,erw rfl,trivial⟩ ⟨.refl _,next _ _ hv1 (.refl _),trivial⟩
  ·rw [z1q,if_neg h2];rfl
  ·rw [z1q,if_neg h3];rfl
 ·obtain rfl:n=l.length:=by omega
  refine za 1 rfl ?_;exact yR Tryz.func77 rfl trivial rfl
def flg(l:List Nd)(v:List (Nat×Nat))(id:Int):Bool:=bitI' (nm v ((ln l id).a.getD 0 0-1).toNat).1 (nm v ((ln l id).a.getD 0 0-1).toNat).2 0
def flagL(l:List Nd)(op:List UInt8)(v:List (Nat×Nat))(n:Nat):List Bool:=(allL l op n).map (flg l v)
def zni(op:List UInt8):Prop:=op=kBad∨op=zg
theorem zgg{l:List Nd}(ty:Ty l){op:List UInt8}(ho:zni op){id:Int}(h1:1≤id)(h2:id≤l.length)(h3:(ln l id).op=op):(ln l id).a.length=1∧1≤(ln l id).a.getD 0 0∧(ln l id).a.getD 0 0≤l.length∧isVal (ln l ((ln l id).a.getD 0 0)).op=true:=by
 have hk:=ty.node (id-1).toNat (by omega);have hln:=ty.ty.ln (id-1).toNat (by omega);have hx:(ln l id).a.length=1:=by
  rw [hk.al,show(nd l (id-1).toNat).op=op from h3];rcases ho with rfl|rfl<;>decide
 have hm:(ln l id).a.getD 0 0∈(ln l id).a:=zw 0 (by omega);have:=hk.ab _ hm;exact⟨hx,this.1,by omega,hln.val _ hm⟩
theorem val_w{l:List Nd}(ty:Ty l){v:List (Nat×Nat)}(hv:VOk l v l.length){id:Int}(h1:1≤id)(h2:id≤l.length):(nm v (id-1).toNat).1≤128:=by
 cases h:isVal (nd l (id-1).toNat).op with
 | false=>rw [hv.no _ (by omega) h];exact Nat.zero_le _
 | true=>
  have a:=(hv.yes _ (by omega) h).1;have b:=(zai ty (j:=(id-1).toNat) (by omega) h).2;omega
theorem zdh(l:List Nd)(hm:MdB l)(ty:Ty l)(op:List UInt8)(ho:zni op)(v:List (Nat×Nat))(hv:VOk l v l.length):ACall Tryz.prog 74 [.d (eBt l),vSL op,.d (eNums v)] [] (fun r o=>r=.d (eBs (flagL l op v l.length))):=by
 refine yN Tryz.func74 fun C hC hCl hDs hGk=>?_;have hl:=ty.small;have hvl:=hv.len;refine yV Tryz.func74 rfl trivial (z4k l op hl) (.refl _) ?_;have hal:=z1f l op l.length;have hall:∀i,i<(allL l op l.length).length→1≤(allL l op l.length).getD i 0∧(allL l op l.length).getD i 0≤l.length∧(ln l ((allL l op l.length).getD i 0)).op=op:=fun i hi=>z8m (zw 0 hi)
 unfold flagL;generalize allL l op l.length=al at *;refine yS Tryz.func74 rfl trivial ?_;refine z1j (s:=1) (e:=4) (t:=7) (.inl rfl) (fun i=>eB (([]:List Bool).getD i false)) ?_;refine z8 (α:=Nat) (fun i=>[(2,.d (eNums v)),(3,.ptr 0 0),(7,.gs 1),(12,.d (eIs al)),(13,vI .i64 (al.length:Int)),(14,vI .i64 (i:Int))]) (fun i=>[some (bBt l),some (gBs ((al.take i).map (flg l v)))]) (fun i=>i≤al.length) (fun i=>al.length-i) 0 (Nat.zero_le _) ?_ ?_
 ·exact fun h=>yE h ⟨erl rfl,erl rfl,erl rfl,erl rfl,⟨_,rfl,.of (by rw [List.length_map])⟩,erl rfl,trivial⟩ ⟨.refl _,.gL rfl,trivial⟩
 rintro i hi ih;refine yB Tryz.func74 rfl trivial (fun hb=>?_) (fun hb=>?_)<;>simp only [decide_eq_true_eq,decide_eq_false_iff_not]at hb
 ·have hlt:i<al.length:=by omega
  obtain⟨a1,a2,a3⟩:=hall i hlt;obtain⟨b1,b2,b3,b4⟩:=zgg ty ho a1 a2 a3;have e1:IntKind.i64.wrap (al.getD i 0-1)=al.getD i 0-1:=z6 (by omega) (by omega);have e2:IntKind.i64.wrap ((ln l (al.getD i 0)).a.getD 0 0-1)=(ln l (al.getD i 0)).a.getD 0 0-1:=z6 (by omega) (by omega);have hw:=val_w ty hv b2 b3;have e3:IntKind.i64.wrap ((l.getD (IntKind.i64.wrap (al.getD i 0-1)).toNat default).a.getD 0 0-1)=(ln l (al.getD i 0)).a.getD 0 0-1:=by rw [e1];exact e2
  refine yC Tryz.func74 rfl ?nd (z4u (nm v ((ln l (al.getD i 0)).a.getD 0 0-1).toNat).1 (nm v ((ln l (al.getD i 0)).a.getD 0 0-1).toNat).2 0 (by omega)) ⟨.of (z5m e3 rfl),.refl _,trivial⟩ ?_;case nd=>
   simp only [Int.toNat_natCast,show Int.toNat 0=0 from rfl,List.length_map];rw [e3,e1];exact⟨⟨by omega,by omega⟩,⟨by decide,by rw [show(l.getD (al.getD i 0-1).toNat default).a.length=1 from b1];decide⟩,⟨by omega,by omega⟩,⟨by omega,by omega⟩,trivial⟩
  rintro _ o rfl;refine yS Tryz.func74 rfl ?nd ?_;case nd=>
   refine⟨?_,trivial⟩;rw [List.length_map,List.length_map,List.length_take];show(min i al.length+1)*1≤_;omega
  refine yE (ih (i+1) (by omega) (by omega)) ⟨erl rfl,erl rfl,erl rfl,erl rfl,erl rfl,erw rfl,trivial⟩ ⟨.refl _,.gL ?_,trivial⟩;rw [List.take_succ_eq_append_getElem hlt,List.map_append,List.map_append,←z4p (d:=0) hlt];rfl
 ·obtain rfl:i=al.length:=by omega
  refine za 1 rfl ?_;refine yR Tryz.func74 rfl trivial ?_;rw [List.take_length];rfl
theorem zb0(l:List Nd)(hm:MdB l)(ty:Ty l)(op:List UInt8)(ho:zni op)(v:List (Nat×Nat))(hv:VOk l v l.length):ACall Tryz.prog 78 [.d (eBt l),vSL op,.d (eNums v)] [] (fun r o=>r=.d (eBs (flagL l op v l.length))):=by
 refine yN Tryz.func78 fun C hC hCl hDs hGk=>?_;have hl:=ty.small;have hvl:=hv.len;refine yS Tryz.func78 rfl trivial ?_;refine z1j (s:=1) (e:=4) (t:=7) (.inl rfl) (fun i=>eB (([]:List Bool).getD i false)) ?_;refine z8 (α:=Nat) (fun i=>[(1,vSL op),(2,.d (eNums v)),(3,.ptr 0 0),(7,.gs 1),(8,vI .i64 (i:Int))]) (fun i=>[some (bBt l),some (gBs (flagL l op v i))]) (fun i=>i≤l.length) (fun i=>l.length-i) 0 (Nat.zero_le _) ?_ ?_
 ·exact fun h=>yE h (eAl rfl) ⟨.refl _,.gL rfl,trivial⟩
 rintro i hi ih;have hfl:(flagL l op v i).length≤i:=by unfold flagL;rw [List.length_map];exact z1f _ _ _
 refine yB Tryz.func78 rfl trivial (fun hb=>?_) (fun hb=>?_)<;>simp only [List.length_map,decide_eq_true_eq,decide_eq_false_iff_not]at hb
 ·have hlt:i<l.length:=by omega
  refine yB Tryz.func78 rfl (by simp [andP]<;>omega) (fun h1=>?_) (fun h1=>?_)
  ·have h1:((⟨(nd l i).op.toArray⟩:ByteArray).toList==(⟨op.toArray⟩:ByteArray).toList)=true:=h1;rw [strB,decide_eq_true_eq]at h1;have hln:ln l ((i:Int)+1)=nd l i:=zn9 l i;obtain⟨b1,b2,b3,b4⟩:=zgg ty ho (id:=(i:Int)+1) (by omega) (by omega) (by rw [hln];exact h1);have hw:=val_w ty hv b2 b3;rw [hln]at b1 b2 b3 b4 hw;have e2:IntKind.i64.wrap ((nd l i).a.getD 0 0-1)=(nd l i).a.getD 0 0-1:=z6 (by omega) (by omega);refine yC Tryz.func78 rfl ?nd (zba (nm v ((nd l i).a.getD 0 0-1).toNat).1 (nm v ((nd l i).a.getD 0 0-1).toNat).2 0 (by omega)) ⟨.of (z5m e2 rfl),.refl _,trivial⟩ ?_;case nd=>
    simp only [Int.toNat_natCast,show Int.toNat 0=0 from rfl,List.length_map];show(0≤IntKind.i64.wrap ((nd l i).a.getD 0 0-1)∧IntKind.i64.wrap ((nd l i).a.getD 0 0-1)<(v.length:Int))∧(0≤(0:Int)∧(0:Int)<((nd l i).a.length:Int))∧(0≤(i:Int)∧(i:Int)<(l.length:Int))∧True;rw [e2,b1];exact⟨⟨by omega,by omega⟩,⟨by decide,by decide⟩,⟨by omega,by omega⟩,trivial⟩
   rintro _ o rfl;refine yS Tryz.func78 rfl ?nd ?_;case nd=>
    refine⟨?_,trivial⟩;rw [List.length_map];show((flagL l op v i).length+1)*1≤_;omega
   refine yE (ih (i+1) (by omega) (by omega)) ⟨erl rfl,erl rfl,erl rfl,erl rfl,erw rfl,trivial⟩ ⟨.refl _,.gL ?_,trivial⟩;have:flagL l op v (i+1)=flagL l op v i++[flg l v ((i:Int)+1)]:=by
    rw [flagL,z3b,if_pos h1,List.map_append];rfl
   rw [this,List.map_append,flg,hln];rfl
  ·have h1:((⟨(nd l i).op.toArray⟩:ByteArray).toList==(⟨op.toArray⟩:ByteArray).toList)=false:=h1;rw [strB,decide_eq_false_iff_not]at h1;refine yS Tryz.func78 rfl trivial ?_;refine yE (ih (i+1) (by omega) (by omega)) ⟨erl rfl,erl rfl,erl rfl,erl rfl,erw rfl,trivial⟩ ⟨.refl _,.gL ?_,trivial⟩;have:flagL l op v (i+1)=flagL l op v i:=by
    rw [flagL,z3b,if_neg h1,List.append_nil];rfl
   rw [this]
 ·obtain rfl:i=l.length:=by omega
  refine za 1 rfl ?_;exact yR Tryz.func78 rfl trivial rfl
theorem zq6{l:List Nd}{op:List UInt8}{s:Int}{j:Nat}(h:ofJ l op s=some j):j<l.length∧(nd l j).op=op∧(nd l j).a.getD 0 0=s:=by
 unfold ofJ at h;have h1:=List.mem_of_find?_eq_some h;have h2:=List.find?_some h;simp only [decide_eq_true_eq]at h2;exact⟨List.mem_range.1 h1,h2.1,h2.2⟩
theorem ofJ_none'{l:List Nd}{op:List UInt8}{s:Int}(h:ofJ l op s=none):¬hadP l l.length op s:=by
 rintro⟨j,h1,h2,h3⟩;unfold ofJ at h;have:=List.find?_eq_none.1 h j (List.mem_range.2 h1);simp only [decide_eq_true_eq]at this;exact this ⟨h2,h3⟩
def isOf(op:List UInt8):Prop:=op=kInit∨op=kNext
theorem zeh{l:List Nd}(ty:Ty l){op:List UInt8}(ho:isOf op){s:Int}{j:Nat}(h:ofJ l op s=some j):
  1≤ofV l op s∧ofV l op s≤l.length∧isVal (ln l (ofV l op s)).op=true∧wdN l (ln l (ofV l op s))=wdN l (ln l s)∧(op=kInit→(ln l (ofV l op s)).op=z11):=by
 obtain⟨h1,h2,h3⟩:=zq6 h;have hk:=ty.node j h1;have hln:=ty.ty.ln j h1;have hx:(nd l j).a.length=2:=by
  rw [hk.al,h2];rcases ho with rfl|rfl<;>decide
 have e:ofV l op s=(nd l j).a.getD 1 0:=by rw [ofV,h]
 have hm:(nd l j).a.getD 1 0∈(nd l j).a:=zw 0 (by omega);have hab:=hk.ab _ hm;have hsame:=(hln.ask.inx (by rw [h2];exact ho)).1;have s0:=hsame 0 (by omega);have s1:=hsame 1 (by omega);unfold awN at s0 s1;rw [h3]at s0;rw [e];exact⟨hab.1,by omega,hln.val _ hm,by rw [s1,s0],fun e=>hln.ask.ini (by rw [h2,e])⟩
theorem ziz{l:List Nd}(ty:Ty l){op:List UInt8}(ho:isOf op):∀j,j<l.length→(nd l j).op=op→(nd l j).a.length=2:=fun j h1 h2=>by
 rw [(ty.node j h1).al,h2];rcases ho with rfl|rfl<;>decide
theorem zn2{l:List Nd}(ty:Ty l){s:Int}(h1:1≤s)(h2:s≤l.length)(h3:(ln l s).op=ze):∃j,ofJ l kNext s=some j:=by
 have:=ty.ty.nx (s-1).toNat (by omega) h3;rw [show(((s-1).toNat:Nat):Int)+1=s by omega]at this;cases h:ofJ l kNext s with
 | some j=>exact⟨j,rfl⟩
 | none=>exact absurd this (ofJ_none' h)
def nextL(l:List Nd)(v:List (Nat×Nat)):List (Nat×Nat):=(allL l ze l.length).map fun s=>nm v (ofV l kNext s-1).toNat
theorem zbl{l:List Nd}(ty:Ty l){s:Int}(hs:s∈allL l ze l.length):1≤ofV l kNext s∧ofV l kNext s≤l.length∧isVal (ln l (ofV l kNext s)).op=true∧wdN l (ln l (ofV l kNext s))=wdN l (ln l s):=by
 obtain⟨h1,h2,h3⟩:=z8m hs;obtain⟨j,hj⟩:=zn2 ty h1 h2 h3;have:=zeh ty (.inr rfl) hj;exact⟨this.1,this.2.1,this.2.2.1,this.2.2.2.1⟩
theorem zj3{l:List Nd}(ty:Ty l){v:List (Nat×Nat)}(hv:VOk l v l.length):Fit l ze (nextL l v):=by
 refine⟨by simp [nextL],fun i hi=>?_⟩;have hi':i<(allL l ze l.length).length:=by simpa [nextL]using hi
 have e:nm (nextL l v) i=nm v (ofV l kNext ((allL l ze l.length).getD i 0)-1).toNat:=by
  rw [z4p hi'];simp [nm,nextL,hi']
 obtain⟨h1,h2,h3,h4⟩:=zbl ty (zw (i:=i) (l:=allL l ze l.length) 0 hi');have hy:=hv.yes (ofV l kNext ((allL l ze l.length).getD i 0)-1).toNat (by omega) h3;have hw:=zai ty (j:=(ofV l kNext ((allL l ze l.length).getD i 0)-1).toNat) (by omega) h3;rw [e];exact⟨by rw [hy.1];exact h4,hy.2,by omega,by omega⟩
@[reducible] def e2B(a b:List Bool):D:=.ag [eBs a,eBs b]
@[reducible] def stepA(l:List Nd)(v:List (Nat×Nat)):AV:=tupOf [.d (eNums (nextL l v)),.d (e2B (flagL l kBad v l.length) (flagL l zg v l.length)),vI .i64 0]
theorem zu1(l:List Nd)(hm:MdB l)(ty:Ty l)(st inp:List (Nat×Nat))(hs:Fit l ze st)(hi:Fit l zq inp):ACall Tryz.prog 46 [.d (eBt l),.d (eNums st),.d (eNums inp)] [] (fun r o=>r=stepA l (valL l st inp l.length)):=by
 refine yN Tryz.func46 fun C hC hCl hDs hGk=>?_;have hl:=ty.small;have hv:=z7r ty hs hi l.length (Nat.le_refl _);have hc:=zp3 l hm ty st inp hs hi;generalize valL l st inp l.length=v at *;have hvl:=hv.len;refine yV Tryz.func46 rfl trivial hc (.refl _) ?_;refine yF Tryz.func46 rfl trivial ?_;refine yV Tryz.func46 rfl trivial (z4k l ze hl) (.refl _) ?_;have hal:=z1f l ze l.length;have hall:=@zbl l ty;unfold stepA nextL;generalize allL l ze l.length=al at *;refine yS Tryz.func46 rfl trivial ?_;refine z1j (s:=2) (e:=118) (t:=11) (.inl rfl) (fun i=>vN (nm [] i).1 (nm [] i).2) ?_;refine z8 (α:=Nat) (fun i=>[(3,.ptr 0 0),(7,.ptr 1 0),(9,.d (eNums v)),(11,.gs 2),(28,.d (eIs al)),(29,vI .i64 (al.length:Int)),(30,vI .i64 (i:Int))]) (fun i=>[some (bBt l),some (.cells 78 [.d (.v (.slice none 0 0)),.d (.v (.slice none 0 0))]),some (gNums ((al.take i).map fun s=>nm v (ofV l kNext s-1).toNat))]) (fun i=>i≤al.length) (fun i=>al.length-i) 0 (Nat.zero_le _) ?_ ?_
 ·exact fun h=>yE h ⟨erl rfl,erl rfl,erl rfl,erl rfl,erl rfl,⟨_,rfl,.of (by rw [List.length_map])⟩,erl rfl,trivial⟩ ⟨.refl _,.refl _,.gL rfl,trivial⟩
 rintro i hi ih;refine yB Tryz.func46 rfl trivial (fun hb=>?_) (fun hb=>?_)<;>simp only [decide_eq_true_eq,decide_eq_false_iff_not]at hb
 ·have hlt:i<al.length:=by omega
  obtain⟨a1,a2,a3,a4⟩:=hall (zw (i:=i) (l:=al) 0 hlt);have e1:IntKind.i64.wrap (ofV l kNext (al.getD i 0)-1)=ofV l kNext (al.getD i 0)-1:=z6 (by omega) (by omega);refine yV Tryz.func46 rfl (by simp [andP]<;>omega) (zik l kNext (al.getD i 0) hl (ziz ty (.inr rfl))) (.refl _) ?_;refine yS Tryz.func46 rfl ?nd ?_;case nd=>
   refine⟨?_,?_⟩
   ·rw [List.length_map,List.length_map,List.length_take];show(min i al.length+1)*32≤_;omega
   ·simp only [andP,e1,List.length_map];exact⟨⟨by omega,by omega⟩,trivial⟩
  refine yE (ih (i+1) (by omega) (by omega)) ⟨erl rfl,erl rfl,erl rfl,erl rfl,erl rfl,erl rfl,erw rfl,trivial⟩ ⟨.refl _,.refl _,.gL ?_,trivial⟩;rw [List.take_succ_eq_append_getElem hlt,List.map_append,List.map_append,←z4p (d:=0) hlt];show _++[vN (v.getD (IntKind.i64.wrap (ofV l kNext (al.getD i 0)-1)).toNat (0,0)).1 (v.getD (IntKind.i64.wrap (ofV l kNext (al.getD i 0)-1)).toNat (0,0)).2]=_;rw [e1];rfl
 ·obtain rfl:i=al.length:=by omega
  refine za 2 rfl ?_;rw [List.take_length];refine yO 9 Tryz.func46 rfl trivial ?_;refine yQ Tryz.func74 rfl trivial (zdh l hm ty kBad (.inl rfl) v hv) (.refl _) ?_;refine yQ Tryz.func74 rfl trivial (zdh l hm ty zg (.inr rfl) v hv) (.refl _) ?_;refine yq rfl trivial ?_;exact yR Tryz.func46 rfl trivial rfl
theorem zq0(l:List Nd)(hm:MdB l)(ty:Ty l)(st inp:List (Nat×Nat))(hs:Fit l ze st)(hi:Fit l zq inp):ACall Tryz.prog 49 [.d (eBt l),.d (eNums st),.d (eNums inp)] [] (fun r o=>r=stepA l (valL l st inp l.length)):=by
 refine yN Tryz.func49 fun C hC hCl hDs hGk=>?_;have hl:=ty.small;have hv:=z7r ty hs hi l.length (Nat.le_refl _);have hc:=zkc l hm ty st inp hs hi;generalize valL l st inp l.length=v at *;have hvl:=hv.len;refine yV Tryz.func49 rfl trivial hc (.refl _) ?_;refine yF Tryz.func49 rfl trivial ?_;refine yV Tryz.func49 rfl trivial (z5n l ze hl) (.refl _) ?_;have hal:=z1f l ze l.length;have hall:=@zbl l ty;unfold stepA nextL;generalize allL l ze l.length=al at *;refine yS Tryz.func49 rfl trivial ?_;refine z1j (s:=2) (e:=118) (t:=11) (.inl rfl) (fun i=>vN (nm [] i).1 (nm [] i).2) ?_;refine z8 (α:=Nat) (fun i=>[(3,.ptr 0 0),(7,.ptr 1 0),(9,.d (eNums v)),(11,.gs 2),(12,.d (eIs al)),(13,vI .i64 (i:Int))]) (fun i=>[some (bBt l),some (.cells 78 [.d (.v (.slice none 0 0)),.d (.v (.slice none 0 0))]),some (gNums ((al.take i).map fun s=>nm v (ofV l kNext s-1).toNat))]) (fun i=>i≤al.length) (fun i=>al.length-i) 0 (Nat.zero_le _) ?_ ?_
 ·exact fun h=>yE h (eAl rfl) ⟨.refl _,.refl _,.gL rfl,trivial⟩
 rintro i hi ih;refine yB Tryz.func49 rfl trivial (fun hb=>?_) (fun hb=>?_)<;>simp only [List.length_map,decide_eq_true_eq,decide_eq_false_iff_not]at hb
 ·have hlt:i<al.length:=by omega
  obtain⟨a1,a2,a3,a4⟩:=hall (zw (i:=i) (l:=al) 0 hlt);have e1:IntKind.i64.wrap (ofV l kNext (al.getD i 0)-1)=ofV l kNext (al.getD i 0)-1:=z6 (by omega) (by omega);refine yO 10 Tryz.func49 rfl trivial ?_;refine yQ Tryz.func69 rfl (by simp [andP]<;>omega) (zg5 l kNext (al.getD i 0) hl (ziz ty (.inr rfl))) (.refl _) ?_;refine yq rfl trivial ?_;refine yS Tryz.func49 rfl ?nd ?_;case nd=>
   refine⟨?_,?_⟩
   ·rw [List.length_map,List.length_map,List.length_take];show(min i al.length+1)*32≤_;omega
   ·simp only [andP,e1,List.length_map];exact⟨⟨by omega,by omega⟩,trivial⟩
  refine yE (ih (i+1) (by omega) (by omega)) ⟨erl rfl,erl rfl,erl rfl,erl rfl,erl rfl,erw rfl,trivial⟩ ⟨.refl _,.refl _,.gL ?_,trivial⟩;rw [List.take_succ_eq_append_getElem hlt,List.map_append,List.map_append,←z4p (d:=0) hlt];show _++[vN (v.getD (IntKind.i64.wrap (ofV l kNext (al.getD i 0)-1)).toNat (0,0)).1 (v.getD (IntKind.i64.wrap (ofV l kNext (al.getD i 0)-1)).toNat (0,0)).2]=_;rw [e1];rfl
 ·obtain rfl:i=al.length:=by omega
  refine za 2 rfl ?_;rw [List.take_length];refine yO 9 Tryz.func49 rfl trivial ?_;refine yQ Tryz.func78 rfl trivial (zb0 l hm ty kBad (.inl rfl) v hv) (.refl _) ?_;refine yQ Tryz.func78 rfl trivial (zb0 l hm ty zg (.inr rfl) v hv) (.refl _) ?_;refine yq rfl trivial ?_;exact yR Tryz.func49 rfl trivial rfl
end Go.Proofs.YtbodbhpdelgpnaaGreatDoor
namespace Ab
open Go
variable [Draws]
def eLitG(T:Tab)(t:TypeId)(len:Nat)(ps:List (Nat×AV))(objs:List (Option AObj)):Option EOut:=
 match tlook T t with
 | none=>none
 | some r=>match r.kd with
  | .slice e=>match tlook T e with
   | none=>none
   | some re=>match ps with
    | []=>none
    | p::ps'=>match z3m re.size 0 (p::ps')with
     | none=>none
     | some xs=>match lenIs xs len with
      | false=>none
      | true=>match Nat.ble (len*re.size) 16777216 with
       | true=>match Nat.beq re.size 0 with
        | true=>none
        | false=>some ⟨none,false,.gs objs.length,none,objs++[some (.grow e re.size xs (litRd xs))]⟩
       | false=>none
  | _=>none
theorem zqx{P:Program}{T:Tab}(hT:TabOk P T){X:Nat→Prop}{π:List Value}{objs:List (Option AObj)}{w:World}(m:Mem X π objs w){t:TypeId}{len:Nat}{ps:List (Nat×AV)}{vs:List (Nat×Value)}
  (hp:RelPs w (okOf X π objs) π ps vs):ERok P X π objs w (eLitG T t len ps objs) (do pure (.value (←Instr.buildSlice t len vs.toArray))):=by
 unfold eLitG;split
 ·trivial
 ·rename_i r hr;split
  ·rename_i e hk;have ht:=z1n hT hr hk;split
   ·trivial
   ·rename_i re hre;obtain⟨z,hzr,hzc,hzf,_,_⟩:=(zo hT hre).zero;have hzl:z.cells.size=re.size:=by
     have:=(zo hT hre).zl;rw [←hzc]at this;simpa using this
    split
    ·trivial
    ·rename_i p ps';split
     ·trivial
     ·rename_i xs hxs;split
      ·trivial
      ·rename_i hlen;have hlen:=z60 hlen;split
       ·rename_i hble;have hble':len*re.size≤16777216:=by simpa using hble
        split
        ·trivial
        ·rename_i hz0;intro _;obtain⟨us,h1,h2⟩:=zen hxs hp [] ((List.range (len*re.size)).map fun i=>z.cells[i%z.cells.size]!) (by simp) (by simp [hlen]);have hul:=h1.length;simp only [List.nil_append]at h2;have hrun:(Instr.buildSlice t len vs.toArray).run P w=.ok (.slice (some ⟨w.heap.size,0,none⟩) len len) (w.alloc (.cells us.toArray e)):=by
          have hz0':re.size≠0:=by
           intro e;rw [e]at hz0;cases hz0
          have hsz:=(zo hT hre).sizeOf w;have h2':Instr.fill (fun i=>some (i*re.size,re.size)) (Array.map (fun i=>z.cells[i%z.cells.size]!) (Array.range (len*re.size))) vs=some us.toArray:=by
           rw [←h2];congr 1;apply Array.ext';simp
          by_cases hl0:len*re.size=0
          ·have hl00:len=0:=by
            rcases Nat.mul_eq_zero.1 hl0 with h|h
            ·exact h
            ·exact absurd h hz0'
           subst hl00;have hx0:xs=[]:=List.eq_nil_of_length_eq_zero hlen;subst hx0;exfalso;revert hxs;simp only [z3m];repeat' split
           all_goals simp
          ·simp [Instr.buildSlice,run_underlying ht,hsz,hl0,show ¬16777216<len*re.size by omega,hzr,h2',z1s]
         have hext:∀b,b<w.heap.size→(w.alloc (.cells us.toArray e)).heap[b]?=w.heap[b]?:=fun b hb=>z1m _ hb
         obtain⟨q,hq⟩:∃q,len=q+1:=by
          cases len with
          | zero=>
           have hx0:xs=[]:=List.eq_nil_of_length_eq_zero hlen;subst hx0;exfalso;revert hxs;simp only [z3m];repeat' split
           all_goals simp
          | succ q=>exact⟨q,rfl⟩
         have hzp:0<re.size:=by
          have:re.size≠0:=by intro e;rw [e]at hz0;cases hz0
          omega
         have hk:∀X' π' objs',Keeps w (okOf X π objs) (w.alloc (.cells us.toArray e)) (okOf X' π' objs')→RelE (w.alloc (.cells us.toArray e)) (okOf X' π' objs') re.size xs us:=fun _ _ _ hk=>h1.mono hk
         subst hlen;refine⟨_,_,π++[.slice (some ⟨w.heap.size,0,none⟩) xs.length xs.length],by simp only [Sem.run_bind,hrun,Result.andThen_ok,Sem.run_pure];rfl,zlj m (.cells us.toArray e) (.slice (some ⟨w.heap.size,0,none⟩) xs.length xs.length) (.grow e re.size xs (litRd xs)) (by rw [hq];rfl) ?_,fun _=>.gs (z5x m.len _)⟩;have hrel:=RelO.grow (w:=w.alloc (.cells us.toArray e)) (ok:=okOf X (π++[.slice (some ⟨w.heap.size,0,none⟩) xs.length xs.length]) (objs++[some (.grow e re.size xs (litRd xs))])) (π:=π++[.slice (some ⟨w.heap.size,0,none⟩) xs.length xs.length]) (e:=e) (s:=re.size) (b:=w.heap.size) (o:=0) (c:=q) (xs:=xs) (us:=us) (vs:=us) (rd:=litRd xs) (fz:=(0,0)) (z23 _) (fun i hi=>by omega)
          (hk _ _ _ (zbm _ _ _ m.len (by intro b e;rw [hq]at e;cases e;exact Nat.le_refl _))) (fun i hi=>by rw [Nat.zero_add]) (by omega) (by have hml:maxLen=9223372036854775807:=rfl;have:xs.length*1≤xs.length*re.size:=Nat.mul_le_mul_left _ hzp;omega) (by rw [hul,hq];omega) (zeo xs)
         rw [←hq]at hrel;exact hrel
       ·trivial
  ·trivial
section
variable {P:Program}[Globals P]{T:Tab}{f:FuncId}{n:Nat}{C:Cx}{R:AV→List (Option AObj)→Prop}{env:Env}{objs:List (Option AObj)}
theorem ze3{ops:Array Oper}{i:Nat}{r:List Nat}{k:List Item}{o:Oper}{e:Env}{t:TypeId}{len:Nat}{ps:List (Nat×Operand)}{az:List (Nat×AV)}(out:EOut)(hT:TabOk P T)(ho:ops[i]?=some o)(hw:wantE ops env o=.yes)(hop:o.op=.buildSlice t len ⟨ps⟩)(hp:parts env ps=some az)
  (hs:eLitG T t len az objs=some out) (hc:cond out.c) (hput:putE n o.dst (skA out.skip out.a) (z67 out.q env)=some e) (h:ASat P f n C (.inRegion ops r::k) e out.objs R):ASat P f n C (.inRegion ops (i::r)::k) env objs R:=by
 refine zar out ho hw (fun X π w tmps hm he=>?_) hc hput h;have:=zqx hT hm (t:=t) (len:=len) (z6p (ds:=[]) he hp);rw [hs]at this;unfold execOp;rw [hop];simpa using this
end
end Ab
namespace Go.Proofs.YtbodbhpdelgpnaaGreatDoor
open Go Ab
theorem zr6{l:List Nd}(ty:Ty l){id:Int}(h1:1≤id)(h2:id≤l.length)(h3:(ln l id).op=z11):mkok (ln l id).t=true∧((ln l id).t.length:Int)=wdN l (ln l id):=by
 have hk:=ty.node (id-1).toNat (by omega);have hln:=ty.ty.ln (id-1).toNat (by omega);have h3':(nd l (id-1).toNat).op=z11:=h3;have hs:=(val_s ty (j:=(id-1).toNat) (by omega) (by rw [h3'];rfl)).1;refine⟨hk.txt (by rw [h3'];decide),?_⟩;have:=hln.ask.const h3';rwa [wOf,if_pos hs]at this
end Go.Proofs.YtbodbhpdelgpnaaGreatDoor
namespace Go.Proofs.YtbodbhpdelgpnaaGreatDoor
open Go Ab Go.RowKit
theorem zl3(w:World)(k:Nat)(os:Array Obj):Below w.heap.size w (Go.Sort.grow (w.drewN k) os):=by
 refine⟨rfl,rfl,rfl,by simp [Go.Sort.grow,World.drewN],fun b hb=>?_⟩;show(w.heap++os)[b]?=_;rw [Array.getElem?_append_left hb]
@[reducible] def tItoa(n:Int):List UInt8:=Go.Lib.itoa n
@[reducible] def vTx(l:List UInt8):AV:=.d (.v (.string ⟨l.toArray⟩))
theorem zco(n:Int)(h0:-9223372036854775808≤n)(h1:n≤9223372036854775807):ACall Tryz.prog 88 [vI .i64 n,vI .i64 10] [] (fun r o=>r=vTx (tItoa n)):=
 z6y (fun _ _=>Nat.le_refl _) rfl (vs:=[.int .i64 n,.int .i64 10]) (fun w ok π us h=>by
  cases h with|cons h1 h=>cases h with|cons h2 h=>cases h with|nil=>
  cases h1 with|d h1=>cases h1 with|v _=>cases h2 with|d h2=>cases h2 with|v _=>rfl) (fun args w=>zf Tryz.func88 rfl rfl args w) fun w ht=>(Any.internal_strconv_FormatInt_10 Tryz.itoaL n h0 h1 w (tb_pow ht)).mono fun e w' ⟨he,k,os,hw⟩=>⟨he,hw▸zl3 w k os⟩
theorem zkl(n:Int)(h0:-9223372036854775808≤n)(h1:n≤9223372036854775807):ACall Tryz.prog 57 [vI .i64 n] [] (fun r o=>r=vTx (tItoa n)):=by
 refine yN Tryz.func57 fun C hC hCl hDs hGk=>?_;refine yV Tryz.func57 rfl trivial (zco n h0 h1) (.refl _) ?_;exact yR Tryz.func57 rfl trivial rfl
theorem z73(n:Int)(h0:-9223372036854775808≤n)(h1:n≤9223372036854775807):ACall Tryz.prog 25 [vI .i64 n] [] (fun r o=>r=vTx (tItoa n)):=by
 refine yN Tryz.func25 fun C hC hCl hDs hGk=>?_;refine yV Tryz.func25 rfl trivial (zkl n h0 h1) (.refl _) ?_;exact yR Tryz.func25 rfl trivial rfl
end Go.Proofs.YtbodbhpdelgpnaaGreatDoor
namespace Ab
open Go
variable [Draws]
section
variable {α:Type}[Inhabited α]{enc:α→Value}
theorem ze8{w:World}{ok:Nat→Prop}:∀{l:List α} {us:List Value},RelE w ok 1 (l.map fun x=>D.v (enc x)) us→us=l.map enc
 | [],us,h=>by
  simp only [List.map_nil]at h;cases h;rfl
 | x::r,us,h=>by
  simp only [List.map_cons]at h;cases h with
  | cons h hl t=>
   cases h with
   | cons h hf t'=>
    cases t';cases h;rw [ze8 t];rfl
end
end Ab
namespace Go.Proofs.YtbodbhpdelgpnaaGreatDoor
open Go Ab Go.RowKit
@[reducible] def eBy(l:List UInt8):D:=eL 1 eU8 0 l
theorem zrm(l:List UInt8)(hl:l≠[]):ACall Tryz.prog 169 [.d (eBy l)] [] (fun r o=>r=tupOf [vI .i32 ((Go.Lib.decodeGo ⟨l.toArray⟩).1:Int),vI .i64 ((Go.Lib.decodeGo ⟨l.toArray⟩).2:Int)]):=by
 intro X π w us hgk m hv;refine .inl ⟨zf Tryz.func169 rfl rfl _ _,?_⟩;cases hv with|cons hv ht=>cases ht with|nil=>
 cases hv with|d hv=>
 have hv':RelD w (okOf X π []) (.sl 1 (l.map fun x=>D.v (.int .u8 (x.toNat:Int))) (fun i=>eU8 (l.getD i 0))) _:=hv;generalize hxs:(l.map fun x=>D.v (.int .u8 (x.toNat:Int)))=xs at hv';cases hv' with
 | nil hb=>exact absurd (List.map_eq_nil_iff.1 hxs) hl
 | sl he hm hc hb hr=>
  rename_i b o c us;subst hxs;obtain rfl:=ze8 (enc:=fun x:UInt8=>Value.int .u8 (x.toNat:Int)) he;have hsz:(⟨l.toArray⟩:ByteArray).size=l.length:=by show l.toArray.size=_;simp
  have hcall:=Any7.utf8_DecodeRune Tryz.decL ⟨l.toArray⟩ b o c w (tb_utf hgk.tb) (fun j hj=>by
   rw [hsz]at hj;have h1:=(hm j (by simpa using hj)).2;rw [h1];have e:(⟨l.toArray⟩:ByteArray).get! j=l[j]:=by
    show l.toArray[j]! = _;simp [hj]
   rw [e];simp [hj])
  rw [hsz]at hcall;have hll:(l.map fun x=>D.v (Value.int .u8 (x.toNat:Int))).length=l.length:=by simp
  rw [hll];refine Calls.mono hcall ?_;rintro e w' ⟨rfl,bl⟩;have t:=z3l m bl.os bl.tape ⟨bl.output,Nat.le_refl _⟩ bl.size bl.block;exact⟨_,_,[],π,rfl,rfl,t.mem,.tp (.cons (.d (.v rfl)) (.cons (.d (.v rfl)) .nil)),t.hist⟩
theorem strBy(a b:List UInt8):((⟨a.toArray⟩:ByteArray).toList==(⟨b.toArray⟩:ByteArray).toList)=decide (a=b):=by
 rw [Go.Lib.toList_data,Go.Lib.toList_data];simp only [List.toList_toArray];by_cases h:a=b
 ·simp [h]
 ·simp [h]
theorem z6h(l:List UInt8):(⟨l.toArray⟩:ByteArray).size=l.length:=by
 show l.toArray.size=l.length;simp
theorem z9m(b:List UInt8)(at_:Int):ACall Tryz.prog 79 [.d (eBy b),vI .i64 at_] [] (fun r o=>r=vB (decide (0≤at_∧at_≤b.length))):=by
 refine yN Tryz.func79 fun C hC hCl hDs hGk=>?_;refine yB Tryz.func79 rfl trivial (fun h=>?_) (fun h=>?_)
 ·have h:decide (at_≥0)=true:=h;rw [decide_eq_true_eq]at h;refine yR Tryz.func79 rfl trivial ?_;show vB (decide (at_≤((b.map eU8).length:Int)))=_;rw [List.length_map];congr 2;simp [h]
 ·have h:decide (at_≥0)=false:=h;rw [decide_eq_false_iff_not]at h;refine yR Tryz.func79 rfl trivial ?_;show vB false=_;rw [decide_eq_false (fun hh=>h hh.1)]
theorem exBy(l:List UInt8)(i j:Nat):(⟨l.toArray⟩:ByteArray).extract i j=⟨((l.take j).drop i).toArray⟩:=by
 apply ByteArray.ext;apply Array.ext';simp [ByteArray.data_extract,List.drop_take,List.extract_eq_take_drop]
theorem zeb(s p:List UInt8):p.isPrefixOf s=decide (p.length≤s.length∧s.take p.length=p):=by
 rw [Bool.eq_iff_iff,List.isPrefixOf_iff_prefix,decide_eq_true_eq];constructor
 ·rintro⟨r,rfl⟩;simp
 ·rintro⟨_,h⟩;rw [←h];exact List.take_prefix _ _
theorem zbv(s p:List UInt8):ACall Tryz.prog 109 [vTx s,vTx p] [] (fun r o=>r=vB (p.isPrefixOf s)):=by
 refine yN Tryz.func109 fun C hC hCl hDs hGk=>?_;refine yB Tryz.func109 rfl trivial (fun h=>?_) (fun h=>?_)
 ·have h:decide ((((⟨s.toArray⟩:ByteArray).size:Nat):Int)≥(((⟨p.toArray⟩:ByteArray).size:Nat):Int))=true:=h;rw [decide_eq_true_eq,z6h,z6h]at h;refine yR Tryz.func109 rfl ?_ ?_
  ·rw [z6h,z6h];exact⟨⟨by omega,by omega,by omega⟩,trivial⟩
  ·show vB (((⟨s.toArray⟩:ByteArray).extract (Int.toNat 0) (((⟨p.toArray⟩:ByteArray).size:Nat):Int).toNat).toList==(⟨p.toArray⟩:ByteArray).toList)=_;rw [z6h,exBy,strBy,zeb];have hle:p.length≤s.length:=by omega
   simp [hle]
 ·have h:decide ((((⟨s.toArray⟩:ByteArray).size:Nat):Int)≥(((⟨p.toArray⟩:ByteArray).size:Nat):Int))=false:=h;rw [decide_eq_false_iff_not,z6h,z6h]at h;refine yR Tryz.func109 rfl trivial ?_;show vB false=_;rw [zeb,decide_eq_false (fun hh=>h (by have:=hh.1;omega))]
theorem zcn(s p:List UInt8):ACall Tryz.prog 83 [vTx s,vTx p] [] (fun r o=>r=vB (p.isPrefixOf s)):=by
 refine yN Tryz.func83 fun C hC hCl hDs hGk=>?_;refine yV Tryz.func83 rfl trivial (zbv s p) (.refl _) ?_;exact yR Tryz.func83 rfl trivial rfl
theorem zol(x:UInt8):byteD (eU8 x)=x:=by
 show UInt8.ofNat ((x.toNat:Int)).toNat=x;simp
theorem zh2(l:List UInt8):strD (l.map eU8)=⟨l.toArray⟩:=by
 unfold strD;rw [List.map_map];congr 2
 conv=>rhs;rw [←List.map_id l]
 exact List.map_congr_left fun x _=>zol x
theorem zgc(l:List UInt8):∀x∈l.map eU8,z2i x=true:=by
 intro x hx;obtain⟨y,_,rfl⟩:=List.mem_map.1 hx;rfl
theorem ze1(b:List UInt8)(i:Nat)(n:Nat)(hn:b.length-i≤n):List.take n (List.drop i (b.map eU8))=(b.drop i).map eU8:=by
 rw [←List.map_drop,List.take_of_length_le (by simp;omega)]
def isAt(b:List UInt8)(at_:Int)(s:List UInt8):Bool:=decide (0≤at_∧at_≤b.length)&&s.isPrefixOf (b.drop at_.toNat)
def isTo(b:List UInt8)(at_:Int)(s:List UInt8):Int:=if ¬(0≤at_∧at_≤b.length)then 0 else if s.isPrefixOf (b.drop at_.toNat)=true then at_+s.length else at_
theorem zid(b:List UInt8)(at_:Int)(s:List UInt8)(hb:b.length≤1000000)(hs:s.length≤1000000):ACall Tryz.prog 53 [.d (eBy b),vI .i64 at_,vTx s] [] (fun r o=>r=tupOf [vI .i64 (isTo b at_ s),vB (isAt b at_ s)]):=by
 refine yN Tryz.func53 fun C hC hCl hDs hGk=>?_;refine yV Tryz.func53 rfl trivial (z9m b at_) (.refl _) ?_;refine yB Tryz.func53 rfl trivial (fun h=>?_) (fun h=>?_)
 ·rw [Bool.not_eq_true',decide_eq_false_iff_not]at h;refine yR Tryz.func53 rfl trivial ?_;rw [isTo,isAt,if_pos h,decide_eq_false h];rfl
 have h:0≤at_∧at_≤b.length:=by
  rw [Bool.not_eq_false',decide_eq_true_eq]at h;exact h
 refine yC Tryz.func53 rfl ?nd (zcn (b.drop at_.toNat) s) ⟨.of ?a0,.refl _,trivial⟩ ?kk;case nd=>
  rw [List.length_map,ze1 b _ _ (by omega)];exact⟨zgc _,⟨h.1,h.2,Int.le_refl _⟩,trivial⟩
 case a0=>
  rw [List.length_map,ze1 b _ _ (by omega),zh2]
 case kk=>
 rintro _ o rfl;refine yB Tryz.func53 rfl trivial (fun h2=>?_) (fun h2=>?_)
 ·have h2:s.isPrefixOf (b.drop at_.toNat)=false:=by simpa using h2
  refine yR Tryz.func53 rfl trivial ?_;rw [isTo,isAt,h2,Bool.and_false,if_neg (fun hh=>hh h),if_neg (by simp)]
 ·have h2:s.isPrefixOf (b.drop at_.toNat)=true:=by simpa using h2
  refine yR Tryz.func53 rfl trivial ?_;rw [isTo,isAt,h2,Bool.and_true,decide_eq_true h,if_neg (fun hh=>hh h),if_pos rfl];show tupOf [vI .i64 (IntKind.i64.wrap (at_+(((⟨s.toArray⟩:ByteArray).size:Nat):Int))),vB true]=_;rw [z6h,z6 (by omega) (by omega)]
theorem zof(c:UInt8)(r:List UInt8):(c.toNat<128→Go.Lib.decodeGo ⟨(c::r).toArray⟩=(c.toNat,1))∧(¬c.toNat<128→128≤(Go.Lib.decodeGo ⟨(c::r).toArray⟩).1):=by
 have hsz:(⟨(c::r).toArray⟩:ByteArray).size=r.length+1:=by rw [z6h];rfl
 have h0:(⟨(c::r).toArray⟩:ByteArray).get! 0=c:=by
  show(c::r).toArray[0]! = c;simp
 unfold Go.Lib.decodeGo;rw [if_neg (by rw [hsz];omega),Go.Lib.decode_at,h0];generalize (⟨(c::r).toArray⟩:ByteArray).size-0=n;generalize ((⟨(c::r).toArray⟩:ByteArray).get! (0+1)).toNat=b1;generalize ((⟨(c::r).toArray⟩:ByteArray).get! (0+2)).toNat=b2;generalize ((⟨(c::r).toArray⟩:ByteArray).get! (0+3)).toNat=b3;generalize c.toNat=b0;unfold Go.Lib.decodeN;constructor
 ·intro h;rw [if_pos h]
 ·intro h;rw [if_neg h];repeat' split
  all_goals first|(show 128≤65533;decide)|(simp only;omega)
@[reducible] def vFn(g:FuncId):AV:=.d (.v (.func (.func g) #[] #[]))
@[reducible] def bFn(g:FuncId):AObj:=.cells 132 [vFn g]
theorem zm2(g:FuncId)(p:UInt8→Bool)(hp:∀c:UInt8,ACall Tryz.prog g [.d (eU8 c)] [] (fun r o=>r=vB (p c)))(R:Nat):ACall Tryz.prog 107 [vI .i32 (R:Int),.ptr 0 0] [some (bFn g)] (fun r o=>r=vB (decide (128≤R)||!p (UInt8.ofNat R))∧o=[some (bFn g)]):=by
 refine yN Tryz.func107 fun C hC hCl hDs hGk=>?_;refine yB Tryz.func107 rfl trivial (fun h=>?_) (fun h=>?_)
 ·have h:decide ((R:Int)≥128)=true:=h;rw [decide_eq_true_eq]at h;refine yR Tryz.func107 rfl trivial ⟨?_,rfl⟩;rw [decide_eq_true (by omega:128≤R)];rfl
 have h:decide ((R:Int)≥128)=false:=h;rw [decide_eq_false_iff_not]at h;have hlt:R<128:=by omega
 refine yC Tryz.func107 rfl trivial (hp (UInt8.ofNat R)) ⟨.of ?a0,trivial⟩ ?kk;case a0=>
  show AV.d (.v (.int .u8 (IntKind.u8.wrap (R:Int))))=AV.d (.v (.int .u8 ((UInt8.ofNat R).toNat:Int)));have e1:(UInt8.ofNat R).toNat=R:=by rw [UInt8.toNat_ofNat'];omega
  have e2:IntKind.u8.wrap (R:Int)=(R:Int):=by simp [IntKind.wrap,IntKind.bits,IntKind.signed];omega
  rw [e1,e2]
 case kk=>
 rintro _ o rfl;refine yR Tryz.func107 rfl trivial ⟨?_,rfl⟩;rw [decide_eq_false (by omega:¬128≤R),Bool.false_or];rfl
def runN(p:UInt8→Bool)(l:List UInt8):Nat:=(l.takeWhile fun c=>decide (c.toNat<128)&&p c).length
theorem zh8(p:UInt8→Bool)(l:List UInt8):runN p l≤l.length:=(List.takeWhile_sublist _).length_le
theorem z8h(p:UInt8→Bool)(c:UInt8)(l:List UInt8):runN p (c::l)=if c.toNat<128∧p c=true then runN p l+1 else 0:=by
 unfold runN;rw [List.takeWhile_cons];by_cases h:c.toNat<128∧p c=true
 ·rw [if_pos h,if_pos (by simp [h.1,h.2])];rfl
 ·rw [if_neg h,if_neg (by simpa using h)];rfl
def idxA(p:UInt8→Bool)(l:List UInt8):Int:=if runN p l<l.length then runN p l else -1
theorem zck(g:FuncId)(p:UInt8→Bool)(hp:∀c:UInt8,ACall Tryz.prog g [.d (eU8 c)] [] (fun r o=>r=vB (p c)))(l:List UInt8)(hl:l.length≤1000000):
  ACall Tryz.prog 145 [.d (eBy l),.fn (.func 107) [.ptr 0 0],vB true] [some (bFn g)] (fun r o=>r=vI .i64 (idxA p l)∧o=[some (bFn g)]):=by
 refine yN Tryz.func145 fun C hC hCl hDs hGk=>?_;refine yS Tryz.func145 rfl trivial ?_;refine z8 (α:=Nat) (fun i=>[(0,.d (eBy l)),(1,.fn (.func 107) [.ptr 0 0]),(2,vB true),(7,vI .i64 (i:Int))]) (fun i=>[some (bFn g)]) (fun i=>i≤l.length∧runN p l=i+runN p (l.drop i)) (fun i=>l.length-i) 0 ⟨Nat.zero_le _,by simp⟩ ?_ ?_
 ·exact fun h=>yE h (eAl rfl) (oAl rfl)
 rintro i ⟨hi,hr⟩ ih;refine yB Tryz.func145 rfl trivial (fun hb=>?_) (fun hb=>?_)
 ·have hb:decide ((i:Int)<((l.map eU8).length:Int))=true:=hb;rw [List.length_map,decide_eq_true_eq]at hb;have hlt:i<l.length:=by omega
  obtain⟨c,r,hcr⟩:∃c r,l.drop i=c::r:=⟨_,_,List.drop_eq_getElem_cons hlt⟩
  have hdr:l.drop (i+1)=r:=by rw [←List.drop_drop,hcr];rfl
  obtain⟨d1,d2⟩:=zof c r;rw [hcr,z8h]at hr;refine yC Tryz.func145 rfl ?nd (zrm (l.drop i) (by rw [hcr];simp)) ⟨.eL ?a0,trivial⟩ ?kk;case nd=>
   simp only [List.length_map];exact⟨⟨by omega,by omega,Int.le_refl _⟩,trivial⟩
  case a0=>
   rw [List.length_map,Int.toNat_natCast,ze1 l _ _ (by omega)]
  case kk=>
  rintro _ o rfl;rw [hcr];obtain⟨⟨R,K⟩,hRK⟩:∃q,Go.Lib.decodeGo ⟨(c::r).toArray⟩=q:=⟨_,rfl⟩
  rw [hRK]at d1 d2 ⊢;refine yW [0] Tryz.func145 rfl trivial (zm2 g p hp R) ⟨⟨_,rfl,.refl _⟩,trivial⟩ (.refl _) ?_;refine yB Tryz.func145 rfl trivial (fun h2=>?_) (fun h2=>?_)
  ·have h2:(decide (128≤R)||!p (UInt8.ofNat R))=true:=by simpa using h2
   refine yR Tryz.func145 rfl trivial ⟨?_,rfl⟩;have hno:¬(c.toNat<128∧p c=true):=by
    rintro⟨q1,q2⟩;cases d1 q1;rw [UInt8.ofNat_toNat,q2,decide_eq_false (by omega)]at h2;exact absurd h2 (by decide)
   rw [if_neg hno]at hr;rw [idxA,if_pos (by omega),hr];rfl
  ·have h2:(decide (128≤R)||!p (UInt8.ofNat R))=false:=by simpa using h2
   rw [Bool.or_eq_false_iff,decide_eq_false_iff_not]at h2;have hc:c.toNat<128:=Decidable.byContradiction fun hh=>h2.1 (d2 hh)
   cases d1 hc;have hp2:p c=true:=by
    have:=h2.2;rw [UInt8.ofNat_toNat]at this;simpa using this
   rw [if_pos ⟨hc,hp2⟩,←hdr]at hr;refine yS Tryz.func145 rfl trivial ?_;refine yE (ih (i+1) ⟨by omega,by omega⟩ (by omega)) ⟨erl rfl,erl rfl,erl rfl,erw rfl,trivial⟩ (oAl rfl)
 ·have hb:decide ((i:Int)<((l.map eU8).length:Int))=false:=hb;rw [List.length_map,decide_eq_false_iff_not]at hb;obtain rfl:i=l.length:=by omega
  refine yR Tryz.func145 rfl trivial ⟨?_,rfl⟩;rw [List.drop_length]at hr;rw [idxA,if_neg (by have:runN p ([]:List UInt8)=0:=rfl;omega)];rfl
theorem zcm(g:FuncId)(p:UInt8→Bool)(hp:∀c:UInt8,ACall Tryz.prog g [.d (eU8 c)] [] (fun r o=>r=vB (p c)))(l:List UInt8)(hl:l.length≤1000000):
  ACall Tryz.prog 106 [.d (eBy l),.fn (.func 107) [.ptr 0 0]] [some (bFn g)] (fun r o=>r=vI .i64 (idxA p l)∧o=[some (bFn g)]):=by
 refine yN Tryz.func106 fun C hC hCl hDs hGk=>?_;refine yW [0] Tryz.func106 rfl trivial (zck g p hp l hl) ⟨⟨_,rfl,.refl _⟩,trivial⟩ (.refl _) ?_;exact yR Tryz.func106 rfl trivial ⟨rfl,rfl⟩
theorem zpy(g:FuncId)(p:UInt8→Bool)(hp:∀c:UInt8,ACall Tryz.prog g [.d (eU8 c)] [] (fun r o=>r=vB (p c)))(b:List UInt8)(i:Nat)(hi:i≤b.length)(hb:b.length≤1000000):
  ACall Tryz.prog 80 [.d (eBy b),vI .i64 (i:Int),vFn g] [] (fun r o=>r=vI .i64 ((i+runN p (b.drop i):Nat):Int)):=by
 refine yN Tryz.func80 fun C hC hCl hDs hGk=>?_;have hdl:(b.drop i).length=b.length-i:=List.length_drop;have hrl:=zh8 p (b.drop i);refine yG [0] Tryz.func80 rfl ?nd (zcm g p hp (b.drop i) (by omega)) ⟨⟨_,rfl,.refl _⟩,trivial⟩ ⟨.eL ?a0,.refl _,trivial⟩ ?kk;case nd=>
  rw [List.length_map];exact⟨⟨by omega,by omega,Int.le_refl _⟩,trivial⟩
 case a0=>
  rw [List.length_map,Int.toNat_natCast,ze1 b _ _ (by omega)]
 case kk=>
 rintro _ o ⟨rfl,rfl⟩;have hcase:idxA p (b.drop i)=if runN p (b.drop i)<(b.drop i).length then(runN p (b.drop i):Int)else -1:=rfl
 generalize idxA p (b.drop i)=q at *;refine yB Tryz.func80 rfl trivial (fun h=>?_) (fun h=>?_)
 ·have h:decide (q<0)=true:=h;rw [decide_eq_true_eq]at h;refine yR Tryz.func80 rfl trivial ?_;show vI .i64 (((b.map eU8).length:Nat):Int)=_;rw [List.length_map];split at hcase
  ·omega
  ·rw [show i+runN p (b.drop i)=b.length by omega]
 ·have h:decide (q<0)=false:=h;rw [decide_eq_false_iff_not]at h;refine yR Tryz.func80 rfl trivial ?_;show vI .i64 (IntKind.i64.wrap ((i:Int)+q))=_;split at hcase
  ·rw [z6 (by omega) (by omega),hcase];rfl
  ·omega
theorem zky(c:UInt8):ACall Tryz.prog 81 [.d (eU8 c)] [] (fun r o=>r=vB (decide (48≤c.toNat∧c.toNat≤57))):=by
 refine yN Tryz.func81 fun C hC hCl hDs hGk=>?_;refine yB Tryz.func81 rfl trivial (fun h=>?_) (fun h=>?_)
 ·have h:decide ((c.toNat:Int)≥48)=true:=h;rw [decide_eq_true_eq]at h;refine yR Tryz.func81 rfl trivial ?_;show vB (decide ((c.toNat:Int)≤57))=_;congr 2;simp only [eq_iff_iff];omega
 ·have h:decide ((c.toNat:Int)≥48)=false:=h;rw [decide_eq_false_iff_not]at h;refine yR Tryz.func81 rfl trivial ?_;show vB false=_;rw [decide_eq_false (by omega)]
end Go.Proofs.YtbodbhpdelgpnaaGreatDoor
