/- A part of the proof. -/
import Derived.Test.YtbodbhpdelgpnaaGreatDoorP8
import Derived.Laws.Externs
set_option linter.unusedVariables false
set_option linter.unusedSimpArgs false
set_option linter.unusedSectionVars false
set_option maxRecDepth 100000
set_option maxHeartbeats 8000000
namespace Go.Proofs.YtbodbhpdelgpnaaGreatDoor
open Go Ab
theorem zk7(x y c:Nat)(hx:x<18446744073709551616)(hy:y<18446744073709551616)(hc:c≤1):ACall Tryz.prog 230 [vU x,vU y,vU c] [] (fun r o=>r=.tp [vU ((x+y+c)%18446744073709551616),vU ((x+y+c) / 18446744073709551616)]):=by
 intro X π w vs hgk hm hv;cases hv with|cons h1 hv=>cases hv with|cons h2 hv=>cases hv with|cons h3 hv=>
 cases hv;cases h1 with|d h1=>cases h1 with|v _=>
 cases h2 with|d h2=>cases h2 with|v _=>
 cases h3 with|d h3=>cases h3 with|v _=>
 refine .inr ⟨.tuple #[.int .u64 (Int.ofNat ((x+y+c)%18446744073709551616)),.int .u64 (Int.ofNat ((x+y+c) / 18446744073709551616))],w,?_,?_⟩
 ·show(callFunc 230 #[.int .u64 (x:Int),.int .u64 (y:Int),.int .u64 (c:Int)]).run Tryz.prog w=_;rw [run_callFunc_extern (e:=add64Entry) Tryz.func230 rfl rfl (by kernel_rfl) (by kernel_rfl),run_add64 _ _ _ (by omega) (by omega) (by omega) (by omega)];rfl
 ·exact⟨_,_,_,π,rfl,rfl,hm,.tp (.cons (.d (.v rfl)) (.cons (.d (.v rfl)) .nil)),.refl _ _ _⟩
@[reducible] def cU(c:Nat):AObj:=.cells 168 [vU c]
theorem zkk(x y c:Nat)(hx:x<18446744073709551616)(hy:y<18446744073709551616)(hc:c≤1):ACall Tryz.prog 229 [vU x,vU y,.ptr 0 0] [some (cU c)] (fun r o=>r=vU ((x+y+c)%18446744073709551616)∧o=[some (cU ((x+y+c) / 18446744073709551616))]):=by
 refine yN Tryz.func229 fun C hC hCl hDs hGk=>?_;refine yV Tryz.func229 rfl trivial (zk7 x y c hx hy hc) (.refl _) ?_;refine yL Tryz.func229 rfl trivial (.refl _) (oAl rfl) ⟨rfl,rfl⟩ (o2:=[some (cU ((x+y+c) / 18446744073709551616))])
def crN(c:Nat)(a b:List Nat):Nat→Nat
 | 0=>c
 | i+1=>(a.getD i 0+b.getD i 0+crN c a b i) / 18446744073709551616
def sumN(c:Nat)(a b:List Nat)(i:Nat):Nat:=(a.getD i 0+b.getD i 0+crN c a b i)%18446744073709551616
def sumV(c:Nat)(a b:List Nat)(n:Nat):List Nat:=(List.range n).map (sumN c a b)
theorem zqw{c:Nat}{a b:List Nat}(ha:lims a)(hb:lims b)(hc:c≤1):∀i,crN c a b i≤1
 | 0=>hc
 | i+1=>by
  have:=zqw ha hb hc i;have h1:=z29 ha i;have h2:=z29 hb i;simp only [crN];omega
theorem zkj(c:Nat)(a b:List Nat)(n:Nat):lims (sumV c a b n):=by
 intro x hx;obtain⟨i,_,rfl⟩:=List.mem_map.1 hx;exact Nat.mod_lt _ (by decide)
theorem zju(w:Nat)(v:Int)(a b:List Nat)(c:Nat)(ha:lims a)(hb:lims b)(hla:a.length=z6 w)(hlb:b.length=z6 w)(hw:0<w)(hwb:w≤1000000)(hc:c≤1):
  ACall Tryz.prog 227 [.d (eV w a),.d (eV v b),.fn (.func 229) [.ptr 0 0]] [some (cU c)] (fun r o=>r=.d (eV w (cutL w (sumV c a b (z6 w))))∧o=[some (cU (crN c a b (z6 w)))]):=by
 refine yN Tryz.func227 fun C hC hCl hDs hGk=>?_;have hln:0<z6 w∧z6 w≤1000000:=by unfold z6;omega
 have hzl:(sumV c a b (z6 w)).length=z6 w:=by simp [sumV]
 refine yW [] Tryz.func227 rfl trivial (z2b w hwb) trivial (.refl _) ?_;refine yS Tryz.func227 rfl trivial ?_;refine z8 (α:=Nat) (fun i=>[(2,.fn (.func 229) [.ptr 0 0]),(3,.ptr 1 0),(4,.ptr 2 0),(6,.ptr 3 0),(7,.ptr 6 0),(14,vI .i64 (z6 w)),(15,vI .i64 i)]) (fun i=>[some (cU (crN c a b i)),some (bV w a),some (bV v b),some zV,none,some (gUs ((sumV c a b (z6 w)).take i++List.replicate (z6 w-i) 0)),some (cV w 5)]) (fun i=>i≤z6 w) (fun i=>z6 w-i) 0 (Nat.zero_le _) ?_ ?_
 ·refine fun h=>yE h ⟨erl rfl,erl rfl,erl rfl,erl rfl,erl rfl,⟨_,rfl,.of ?_⟩,erl rfl,trivial⟩ ⟨.refl _,.refl _,.refl _,.refl _,.gL (by simp),.refl _,trivial⟩;show vI .i64 ((List.map eU (List.replicate (z6 w) 0)).length:Int)=_;rw [List.length_map,List.length_replicate]
 rintro i hi ih;refine yB Tryz.func227 rfl trivial (fun hb2=>?_) (fun hb2=>?_)<;>simp only [decide_eq_true_eq,decide_eq_false_iff_not,List.length_map]at hb2
 ·have hlt:i<z6 w:=by omega
  have hx:=z29 ha i;have hy:=z29 hb i;have hcr:=zqw ha hb hc i;have hzi:(sumV c a b (z6 w))[i]'(by omega)=sumN c a b i:=by simp [sumV]
  have hset:=zim (sumV c a b (z6 w)) 0 i (by omega);rw [hzi,hzl]at hset;refine zkx 14 [0] tabOk Tryz.func227 rfl rfl (objs1:=[some (cU (crN c a b (i+1))),some (bV w a),some (bV v b),some zV,none,some (gUs ((sumV c a b (z6 w)).take i++List.replicate (z6 w-i) 0)),some (cV w 5)]) (r0:=vU (sumN c a b i)) trivial (by kernel_rfl) rfl (yq rfl ?_ rfl) (yq rfl ?_ rfl) rfl rfl rfl rfl (zb Tryz.func229 rfl rfl) (zkk _ _ _ hx hy hcr) ⟨⟨_,rfl,.refl _⟩,trivial⟩ (.refl _) rfl rfl rfl ?_ rfl ?_
  ·exact(by simp [andP]<;>omega)
  ·exact(by simp [andP]<;>omega)
  ·rintro r o ⟨rfl,rfl⟩;exact⟨rfl,rfl⟩
  refine yS Tryz.func227 rfl ?_ ?_
  ·exact(by simp [andP,List.length_take,hzl]<;>omega)
  refine yE (ih (i+1) (by omega) (by omega)) ⟨erl rfl,erl rfl,erl rfl,erl rfl,erl rfl,erl rfl,erw rfl,trivial⟩ ⟨.refl _,.refl _,.refl _,.refl _,.gL ?_,.refl _,trivial⟩;rw [←hset,List.map_set];rfl
 ·obtain rfl:i=z6 w:=by omega
  have e1:(sumV c a b (z6 w)).take (z6 w)++List.replicate (z6 w-z6 w) 0=sumV c a b (z6 w):=by
   rw [Nat.sub_self,List.replicate_zero,List.append_nil,List.take_of_length_le (by omega)]
  rw [e1];refine yW [6,5] Tryz.func227 rfl trivial (zir w (sumV c a b (z6 w)) (zkj c a b _) (by omega) (by omega) hwb) ⟨⟨_,rfl,.refl _⟩,⟨_,rfl,.refl _⟩,trivial⟩ (.refl _) ?_;refine zj 5 rfl ?_;exact yL Tryz.func227 rfl trivial (.refl _) (oAl rfl) ⟨rfl,rfl⟩ (o2:=[some (cU (crN c a b (z6 w)))])
end Go.Proofs.YtbodbhpdelgpnaaGreatDoor
namespace Ab
open Go
variable [Draws]
theorem ACall.frz(ι:List Nat){P:Program}[Globals P]{f:FuncId}{az:List AV}{objs o1 o2:List (Option AObj)}{r1 r2 r3:AV}{env2:Env}(h:ACall P f az objs (fun r o=>r=r1∧o=o1))(hz:frzI ι [] o1 [r1]=some (env2,o2,[r2]))(hle:VLe r2 r3):ACall P f az objs (fun r o=>r=r3):=by
 intro X π w vs g m hv;refine(h X π w vs g m hv).mono ?_;rintro e w' ⟨v,r,o,π',rfl,⟨rfl,rfl⟩,hm,hrel,hh⟩;obtain⟨m2,h2,_,r2⟩:=z8y (C:=⟨X,π,objs,w,[],fun _=>False⟩) (tmps:=#[]) ι hz hm hh (fun t a ht=>by simp [look]at ht) (.cons hrel .nil);cases r2 with|cons hr _=>exact⟨v,_,o2,π',rfl,rfl,m2,hle _ _ _ _ hr,h2⟩
end Ab
namespace Go.Proofs.YtbodbhpdelgpnaaGreatDoor
open Go Ab
def sumR(w c:Nat)(a b:List Nat):List Nat:=cutL w (sumV c a b (z6 w))
theorem zo8(w:Nat)(v:Int)(a b:List Nat)(c:Nat)(ha:lims a)(hb:lims b)(hla:a.length=z6 w)(hlb:b.length=z6 w)(hw:0<w)(hwb:w≤1000000)(hc:c≤1):ACall Tryz.prog 219 [.d (eV w a),.d (eV v b),vU c] [] (fun r o=>r=.d (eV w (sumR w c a b))):=by
 refine yN Tryz.func219 fun C hC hCl hDs hGk=>?_;refine yW [2] Tryz.func219 rfl trivial (zju w v a b c ha hb hla hlb hw hwb hc) ⟨⟨_,rfl,.refl _⟩,trivial⟩ (.refl _) ?_;exact yR Tryz.func219 rfl trivial rfl
def notN(x _:Nat):Nat:=18446744073709551615-x
theorem zeg(x y:Nat)(hx:x<18446744073709551616):ACall Tryz.prog 228 [vU x,vU y] [] (fun r o=>r=vU (notN x y)):=by
 refine yN Tryz.func228 fun C hC hCl hDs hGk=>?_;refine yR Tryz.func228 rfl trivial ?_;show vI .u64 _=vI .u64 _;rw [notU hx];rfl
theorem zg4(w:Nat)(a:List Nat)(ha:lims a)(hla:a.length=z6 w)(hw:0<w)(hwb:w≤1000000):ACall Tryz.prog 217 [.d (eV w a)] [] (fun r o=>r=.d (eV w (cutL w (List.zipWith notN a a)))):=by
 refine yN Tryz.func217 fun C hC hCl hDs hGk=>?_;refine yV Tryz.func217 rfl trivial (z8h w w a a 228 notN ha ha hla hla hw hwb (zb Tryz.func228 rfl rfl) (fun x y hx _=>by unfold notN;omega) (fun x y hx _=>zeg x y hx)) (.refl _) ?_;exact yR Tryz.func217 rfl trivial rfl
theorem znn(x y:Nat)(hx:x<18446744073709551616)(hy:y<18446744073709551616):ACall Tryz.prog 241 [vU x,vU y] [] (fun r o=>r=vU (x &&& y)):=by
 refine yN Tryz.func241 fun C hC hCl hDs hGk=>?_;refine yR Tryz.func241 rfl trivial ?_;show vI .u64 _=vI .u64 _;rw [andU hx hy]
theorem zop(x y:Nat)(hx:x<18446744073709551616)(hy:y<18446744073709551616):ACall Tryz.prog 243 [vU x,vU y] [] (fun r o=>r=vU (x ||| y)):=by
 refine yN Tryz.func243 fun C hC hCl hDs hGk=>?_;refine yR Tryz.func243 rfl trivial ?_;show vI .u64 _=vI .u64 _;rw [orU hx hy]
theorem zkd(x y:Nat)(hx:x<18446744073709551616)(hy:y<18446744073709551616):ACall Tryz.prog 245 [vU x,vU y] [] (fun r o=>r=vU (x ^^^ y)):=by
 refine yN Tryz.func245 fun C hC hCl hDs hGk=>?_;refine yR Tryz.func245 rfl trivial ?_;show vI .u64 _=vI .u64 _;rw [xorU hx hy]
theorem zq3(w:Nat)(v:Int)(a b:List Nat)(ha:lims a)(hb:lims b)(hla:a.length=z6 w)(hlb:b.length=z6 w)(hw:0<w)(hwb:w≤1000000):ACall Tryz.prog 240 [.d (eV w a),.d (eV v b)] [] (fun r o=>r=.d (eV w (cutL w (List.zipWith (· &&& ·) a b)))):=by
 refine yN Tryz.func240 fun C hC hCl hDs hGk=>?_;refine yV Tryz.func240 rfl trivial (z8h w v a b 241 (· &&& ·) ha hb hla hlb hw hwb (zb Tryz.func241 rfl rfl) (fun x y hx _=>Nat.lt_of_le_of_lt Nat.and_le_left hx) (fun x y hx hy=>znn x y hx hy)) (.refl _) ?_;exact yR Tryz.func240 rfl trivial rfl
theorem zrm(w:Nat)(v:Int)(a b:List Nat)(ha:lims a)(hb:lims b)(hla:a.length=z6 w)(hlb:b.length=z6 w)(hw:0<w)(hwb:w≤1000000):ACall Tryz.prog 242 [.d (eV w a),.d (eV v b)] [] (fun r o=>r=.d (eV w (cutL w (List.zipWith (· ||| ·) a b)))):=by
 refine yN Tryz.func242 fun C hC hCl hDs hGk=>?_;refine yV Tryz.func242 rfl trivial (z8h w v a b 243 (· ||| ·) ha hb hla hlb hw hwb (zb Tryz.func243 rfl rfl) (fun x y hx hy=>Nat.or_lt_two_pow (n:=64) hx hy) (fun x y hx hy=>zop x y hx hy)) (.refl _) ?_;exact yR Tryz.func242 rfl trivial rfl
theorem zo0(w:Nat)(v:Int)(a b:List Nat)(ha:lims a)(hb:lims b)(hla:a.length=z6 w)(hlb:b.length=z6 w)(hw:0<w)(hwb:w≤1000000):ACall Tryz.prog 244 [.d (eV w a),.d (eV v b)] [] (fun r o=>r=.d (eV w (cutL w (List.zipWith (· ^^^ ·) a b)))):=by
 refine yN Tryz.func244 fun C hC hCl hDs hGk=>?_;refine yV Tryz.func244 rfl trivial (z8h w v a b 245 (· ^^^ ·) ha hb hla hlb hw hwb (zb Tryz.func245 rfl rfl) (fun x y hx hy=>Nat.xor_lt_two_pow (n:=64) hx hy) (fun x y hx hy=>zkd x y hx hy)) (.refl _) ?_;exact yR Tryz.func244 rfl trivial rfl
theorem zjq(b:Bool):ACall Tryz.prog 223 [vB b] [] (fun r o=>r=.ag [vI .i64 1,.gs 2]∧o=[none,none,some (gUs [if b then 1 else 0])]):=by
 refine yN Tryz.func223 fun C hC hCl hDs hGk=>?_;refine yW [] Tryz.func223 rfl trivial (z2b 1 (by decide)) trivial (.refl _) ?_;refine yB Tryz.func223 rfl trivial (fun h=>?_) (fun h=>?_)
 ·subst h;exact yL Tryz.func223 rfl (by simp [andP,z6]) (.refl _) ⟨.gL rfl,trivial⟩ ⟨rfl,rfl⟩ (o2:=[none,none,some (gUs [1])])
 ·subst h;exact yL Tryz.func223 rfl trivial (.refl _) ⟨.gL rfl,trivial⟩ ⟨rfl,rfl⟩ (o2:=[none,none,some (gUs [0])])
theorem zmq(b:Bool):ACall Tryz.prog 223 [vB b] [] (fun r o=>r=.d (eV 1 [if b then 1 else 0])):=(zjq b).frz [2] rfl (.agL (.refl _))
def upI(a:List Nat)(w n:Nat):Nat→List Nat
 | 0=>List.replicate (z6 w) 0
 | i+1=>if bitN a i then setB (upI a w n i) (i+n)else upI a w n i
theorem zg3(a:List Nat)(w n:Nat):∀i,(upI a w n i).length=z6 w
 | 0=>by simp [upI]
 | i+1=>by
  simp only [upI];split
  ·rw [zhr,zg3]
  ·exact zg3 a w n i
theorem zfe(n:Nat):lims (List.replicate n 0):=fun x hx=>by rw [(List.mem_replicate.1 hx).2];decide
theorem zd2(a:List Nat)(w n:Nat):∀i,lims (upI a w n i)
 | 0=>zfe _
 | i+1=>by
  simp only [upI];split
  ·exact zeq (zd2 a w n i) _
  ·exact zd2 a w n i
theorem zd0(w n:Nat)(a:List Nat)(ha:lims a)(hla:a.length=z6 w)(hw:w≤100000)(hn:n≤100000):ACall Tryz.prog 238 [.d (eV w a),vI .i64 n] [] (fun r o=>r=.ag [vI .i64 w,.gs 3]∧o=[none,none,none,some (gUs (upI a w n (w-n)))]):=by
 refine yN Tryz.func238 fun C hC hCl hDs hGk=>?_;refine yW [] Tryz.func238 rfl trivial (z2b w (by omega)) trivial (.refl _) ?_;refine yS Tryz.func238 rfl trivial ?_;refine z8 (α:=Nat) (fun i=>[(1,vI .i64 n),(2,.ptr 0 0),(4,.ptr 1 0),(5,.ptr 4 0),(14,vI .i64 ((w-n:Nat):Int)),(15,vI .i64 i)]) (fun i=>[some (bV w a),some zV,none,some (gUs (upI a w n i)),some (cV w 3)]) (fun i=>i≤w-n) (fun i=>w-n-i) 0 (Nat.zero_le _) ?_ ?_
 ·refine fun h=>yE h ⟨erl rfl,erl rfl,erl rfl,erl rfl,⟨_,rfl,.of ?_⟩,erl rfl,trivial⟩ ⟨.refl _,.refl _,.gL rfl,.refl _,trivial⟩;show vI .i64 (max (IntKind.i64.wrap ((w:Int)-n)) 0)=_;rw [z7 (by omega) (by omega)];congr 4;omega
 rintro i hi ih;refine yB Tryz.func238 rfl trivial (fun hb2=>?_) (fun hb2=>?_)
 ·have hlt:i<w-n:=by simp at hb2;omega
  refine yV Tryz.func238 rfl trivial (za1 w a i ha (by omega) (by omega)) (.refl _) ?_;have hbv:bitV w a (i:Int)=bitN a i:=by
   have:(i:Int)<w:=by omega
   simp [bitV,this]
  rw [hbv];refine yB Tryz.func238 rfl trivial (fun h=>?_) (fun h=>?_)
  ·have e1:IntKind.i64.wrap ((i:Int)+n)=((i+n:Nat):Int):=by rw [z7 (by omega) (by omega)];omega
   refine yW [4,3] Tryz.func238 rfl trivial (z5j w (i+n) (upI a w n i) (zd2 a w n i) (by rw [zg3];exact z1o (by omega)) (by omega)) ⟨⟨_,rfl,.refl _⟩,⟨_,rfl,.refl _⟩,trivial⟩ ⟨.refl _,.of (by show vI .i64 (IntKind.i64.wrap ((i:Int)+n))=_;rw [e1];rfl),trivial⟩ ?_;refine yS Tryz.func238 rfl trivial ?_;refine yE (ih (i+1) (by omega) (by omega)) ⟨erl rfl,erl rfl,erl rfl,erl rfl,erl rfl,erw rfl,trivial⟩ ⟨.refl _,.refl _,.of (by rw [upI,if_pos h];rfl),.refl _,trivial⟩
  ·refine yS Tryz.func238 rfl trivial ?_;refine yE (ih (i+1) (by omega) (by omega)) ⟨erl rfl,erl rfl,erl rfl,erl rfl,erl rfl,erw rfl,trivial⟩ ⟨.refl _,.refl _,.of (by rw [upI,if_neg (by simp [h])]),.refl _,trivial⟩
 ·obtain rfl:i=w-n:=by simp at hb2;omega
  exact yL Tryz.func238 rfl trivial (.refl _) (oAl rfl) ⟨rfl,rfl⟩ (o2:=[none,none,none,some (gUs (upI a w n (w-n)))])
theorem zr6(w n:Nat)(a:List Nat)(ha:lims a)(hla:a.length=z6 w)(hw:w≤100000)(hn:n≤100000):ACall Tryz.prog 238 [.d (eV w a),vI .i64 n] [] (fun r o=>r=.d (eV w (upI a w n (w-n)))):=
 (zd0 w n a ha hla hw hn).frz [3] rfl (.agL (.refl _))
end Go.Proofs.YtbodbhpdelgpnaaGreatDoor
