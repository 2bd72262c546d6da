/- A part of the proof. -/
import Derived.Test.YtbodbhpdelgpnaaGreatDoorP21
import Derived.Lib.ConvBytes
import Derived.Lib.SlBytesConst
set_option linter.unusedVariables false
set_option linter.unusedSimpArgs false
set_option linter.unusedSectionVars false
set_option maxRecDepth 100000
set_option maxHeartbeats 8000000
namespace Ab
open Go
variable [Draws]
section
variable {P:Program}[Globals P]{T:Tab}{f:FuncId}{n:Nat}{C:Cx}{R:AV→List (Option AObj)→Prop}{env:Env}{objs:List (Option AObj)}{ops:Array Oper}
theorem zof{i:Nat}{r:List Nat}{k:List Item}{o:Oper}{e2:Env}{src dst e:TypeId}{rs rd re:TRow}{xo:Operand}{bs:List UInt8}(hT:TabOk P T)(ho:ops[i]?=some o)(hw:wantE ops env o=.yes)(hop:o.op=.convert src dst xo)(hx:opnd env xo=some (.d (.v (.string ⟨bs.toArray⟩))))
  (hrs:tlook T src=some rs) (hks:rs.kd=.str) (hrd:tlook T dst=some rd) (hkd:rd.kd=.slice e) (hre:tlook T e=some re) (h8:re.kd=.int .u8) (hlen:bs.length≤1000000000)
  (hput:putE n o.dst (.gs objs.length) env=some e2) (h:ASat P f n C (.inRegion ops r::k) e2 (objs++[some (gL e 1 eU8 0 bs)]) R):ASat P f n C (.inRegion ops (i::r)::k) env objs R:=by
 refine za9 ⟨none,false,.gs objs.length,none,objs++[some (gL e 1 eU8 0 bs)]⟩ ho hw (fun X π w tmps m he _=>?_) trivial hput h;have hax:=z49 (P:=P) he hx;have hs:=z4i hT hrs hks;have hd:=z1c hT hrd hkd;have heU:=z8c hT hre h8;have hrun:=Go.Lib.run_convert_string_bytes (P:=P) w src dst e ⟨bs.toArray⟩ hs hd heU;have hsize:(⟨bs.toArray⟩:ByteArray).size=bs.length:=by simp [ByteArray.size]
 have hml:maxLen=9223372036854775807:=rfl;rw [hsize]at hrun;have hcell:=Go.Lib.bytesWorld_cell w e ⟨bs.toArray⟩;have hold:∀b,b<w.heap.size→(Go.Lib.bytesWorld w e ⟨bs.toArray⟩).heap[b]?=w.heap[b]?:=fun b hb=>Go.Lib.bytesWorld_at_old w e _ b hb
 have hnew:=Go.Lib.bytesWorld_at_new w e ⟨bs.toArray⟩;have hhs:=Go.Lib.bytesWorld_size w e ⟨bs.toArray⟩;have hout:(Go.Lib.bytesWorld w e ⟨bs.toArray⟩).os=w.os∧(Go.Lib.bytesWorld w e ⟨bs.toArray⟩).tape=w.tape∧(Go.Lib.bytesWorld w e ⟨bs.toArray⟩).output=w.output∧w.drawn≤(Go.Lib.bytesWorld w e ⟨bs.toArray⟩).drawn:=by
  unfold Go.Lib.bytesWorld World.freeze;rw [if_neg (by decide)];exact⟨rfl,rfl,rfl,Nat.le_succ _⟩
 have hc1:=grownCap_ge w bs.length 0 e;have hc2:=grownCap_le_maxLen w bs.length 0 e (by omega);have hclen:(Go.Lib.bytesCells w e ⟨bs.toArray⟩).size=grownCap w bs.length 0 e:=by
  simp only [Go.Lib.bytesCells,hsize,Array.size_append,Array.size_map,List.size_toArray,Array.size_replicate];omega
 generalize grownCap w bs.length 0 e=c at hc1 hc2 hclen hrun;generalize Go.Lib.bytesCells w e ⟨bs.toArray⟩=BC at hnew hclen;generalize Go.Lib.bytesWorld w e ⟨bs.toArray⟩=W at *;obtain⟨BC⟩:=BC;simp only [List.size_toArray]at hclen hnew;have hh':∀b,blk (.slice (some ⟨w.heap.size,0,none⟩) bs.length c)=some b→w.heap.size≤b:=by
  intro b hb;cases c<;>cases hb;exact Nat.le_refl _
 refine⟨.slice (some ⟨w.heap.size,0,none⟩) bs.length c,W,π++[.slice (some ⟨w.heap.size,0,none⟩) bs.length c],?_,z4r m hout.1 hout.2.1 ⟨hout.2.2.1,z17 hout.2.2.2⟩ (by rw [hhs];omega) hold _ (gL e 1 eU8 0 bs) hh' ?_,fun _=>.gs (z5n m.len _)⟩
 ·unfold execOp;rw [hop];simp only [Sem.run_bind,hax,hrun,Result.andThen_ok,Sem.run_pure];rfl
 ·cases c with
  | zero=>
   obtain rfl:bs=[]:=List.eq_nil_of_length_eq_zero (by omega);exact .gnil
  | succ c=>
   have hls:(bs.map fun b=>Value.int .u8 (b.toNat:Int)).length=bs.length:=by simp
   have hk:=z6u (X:=X) (π:=π) (objs:=objs) hold (.slice (some ⟨w.heap.size,0,none⟩) bs.length (c+1)) (gL e 1 eU8 0 bs) m.len hh';have:=RelO.grow (w:=W) (ok:=okOf X (π++[.slice (some ⟨w.heap.size,0,none⟩) bs.length (c+1)]) (objs++[some (gL e 1 eU8 0 bs)])) (π:=π++[.slice (some ⟨w.heap.size,0,none⟩) bs.length (c+1)]) (e:=e) (s:=1) (b:=w.heap.size) (o:=0) (c:=c) (xs:=bs.map eU8) (us:=bs.map fun b=>Value.int .u8 (b.toNat:Int))
    (vs:=BC) (rd:=fun i=>eU8 (bs.getD i 0)) (fz:=(BC.length,BC.length+1)) hnew (fun q hq=>by omega) (z5z bs) (fun q hq=>?_) (by rw [List.length_map];exact hc1) hc2 (by omega) (z4m eU8 0 bs)
   ·rw [List.length_map]at this;exact this
   ·rw [hls]at hq;have h1:=hcell q (by rw [hsize];exact hq);have h2:=cell_of_heap (i:=q) hnew;rw [h2]at h1;rw [Nat.zero_add,h1];simp [hq,List.getD_eq_getElem?_getD]
end
end Ab
namespace Go.Proofs.YtbodbhpdelgpnaaGreatDoor
open Go Ab Go.RowKit
def exm:List Nd:=[⟨kSort,0,[],[2],[]⟩,⟨zy,1,[],[],[]⟩,⟨kSort,0,[],[1],[]⟩,⟨z2l,3,[2],[],[]⟩,⟨kBad,0,[4],[],[]⟩]
theorem zbd:Ty exm:=by
 refine⟨by decide,?_,⟨?_,?_⟩⟩
 ·intro j hj
  match j,hj with
  | 0,_=>exact⟨by decide,by decide,by decide,by decide,by decide,by decide,by decide,by decide⟩
  | 1,_=>exact⟨by decide,by decide,by decide,by decide,by decide,by decide,by decide,by decide⟩
  | 2,_=>exact⟨by decide,by decide,by decide,by decide,by decide,by decide,by decide,by decide⟩
  | 3,_=>exact⟨by decide,by decide,by decide,by decide,by decide,by decide,by decide,by decide⟩
  | 4,_=>exact⟨by decide,by decide,by decide,by decide,by decide,by decide,by decide,by decide⟩
  | n+5,h=>exact absurd h (by show ¬n+5<5;omega)
 ·have sr:∀j,j<5→0<(nd exm j).s→SortAt exm (nd exm j):=by
   intro j hj
   match j,hj with
   | 0,_=>exact fun h=>absurd h (by decide)
   | 1,_=>exact fun _=>⟨by decide,by decide,rfl,by decide⟩
   | 2,_=>exact fun h=>absurd h (by decide)
   | 3,_=>exact fun _=>⟨by decide,by decide,rfl,by decide⟩
   | 4,_=>exact fun h=>absurd h (by decide)
   | n+5,h=>exact absurd h (by omega)
  have hd:∀j,j<5→AskOk exm j (nd exm j):=by
   intro j hj
   match j,hj with
   | 0,_=>refine⟨?_,?_,?_,?_,?_,?_,?_,?_,?_,?_,?_⟩<;>first|decide|(unfold sameP;decide)|(intro h;exact absurd h (by decide))
   | 1,_=>refine⟨?_,?_,?_,?_,?_,?_,?_,?_,?_,?_,?_⟩<;>first|decide|(unfold sameP;decide)|(intro h;exact absurd h (by decide))
   | 2,_=>refine⟨?_,?_,?_,?_,?_,?_,?_,?_,?_,?_,?_⟩<;>first|decide|(unfold sameP;decide)|(intro h;exact absurd h (by decide))
   | 3,_=>refine⟨?_,?_,?_,?_,?_,?_,?_,?_,?_,?_,?_⟩<;>first|decide|(unfold sameP;decide)|(intro h;exact absurd h (by decide))
   | 4,_=>refine⟨?_,?_,?_,?_,?_,?_,?_,?_,?_,?_,?_⟩<;>first|decide|(unfold sameP;decide)|(intro h;exact absurd h (by decide))
   | n+5,h=>exact absurd h (by omega)
  intro j hj;have hj:j<5:=hj;refine⟨sr j hj,?_,?_,hd j hj⟩
  ·match j,hj with
   | 0,_=>decide
   | 1,_=>decide
   | 2,_=>decide
   | 3,_=>decide
   | 4,_=>decide
   | n+5,h=>exact absurd h (by omega)
  ·match j,hj with
   | 0,_=>decide
   | 1,_=>decide
   | 2,_=>decide
   | 3,_=>decide
   | 4,_=>decide
   | n+5,h=>exact absurd h (by omega)
 ·intro j hj;have hj:j<5:=hj
  match j,hj with
  | 0,_=>exact fun h=>absurd h (by decide)
  | 1,_=>exact fun h=>absurd h (by decide)
  | 2,_=>exact fun h=>absurd h (by decide)
  | 3,_=>exact fun h=>absurd h (by decide)
  | 4,_=>exact fun h=>absurd h (by decide)
  | n+5,h=>exact absurd h (by omega)
theorem zco:MdB exm:=by
 refine⟨by decide,?_⟩;intro x hx;simp only [exm,List.mem_cons,List.not_mem_nil,or_false]at hx;rcases hx with rfl|rfl|rfl|rfl|rfl<;>exact⟨by decide,by decide,by decide,by decide⟩
def exT(s:List UInt8):Wt:=⟨0,[],[[s]]⟩
def exR:List UInt8:=[115,97,116,10,98,48,10,35,48,10,64,48,10,48,32,49,120,10,46,10]
theorem ex_sm(s:List UInt8)(h:s.length≤200):SmW (exT s) 1000:=by
 refine⟨by show 1≤1000;decide,by show 0≤40;decide,fun s hs=>(by cases hs),fun l hl=>?_⟩;obtain rfl:=List.mem_singleton.1 hl;refine⟨by show 1≤40;decide,fun x hx=>?_⟩;obtain rfl:=List.mem_singleton.1 hx;exact h
theorem itoa0:tItoa 0=[48]:=by
 rw [show(0:Int)=((0:Nat):Int)from rfl,show tItoa ((0:Nat):Int)=Go.Lib.decDigits 0 from Go.Lib.itoa_nonneg 0,Go.Lib.decDigits];rfl
theorem ex_r:z28 (shL exm) (exT [49,120])=true:=by decide
theorem ex_t:wtT (exT [49,120])=exR:=by
 simp only [wtT,exT,z1i,z2e,z78,rowT,itoa0,show tItoa ((0:Nat):Int)=[48]from itoa0];rfl
theorem ex_p:prW (shL exm) (exT [49,120])=tupOf [vTx exR,vI .i64 0]:=by
 unfold prW;rw [if_pos ex_r,ex_t]
theorem zpf:wtP (shL exm) exR=.inr (exT [49,120],20):=by
 have:=z9l (sh_in zbd).2 (by decide) ex_r (by rw [ex_t];decide);rw [ex_t]at this;exact this
theorem ex_w1:zeb exm (exT [49,48])=0:=by decide
theorem ex_w2:zeb exm (exT [48,48])=8:=by decide
theorem ex_w3:zeb exm (exT [49,120])=7:=by decide
theorem zqq:totB (exT [49,120])=false∧totB (exT [49,48])=true:=by decide
theorem ztg{α:Type}{s:Nat}{e:α→D}{d:α}:DLe (.v (.slice none 0 0)) (eL s e d []):=fun _ _ _ h=>by cases h with|v _=>exact .nil (Nat.zero_le _)
theorem z5x(s:List UInt8):VLe (.d (.ag [.v (.int .i64 0),.v (.slice none 0 0),.sl 1 [.sl 1 [dSL s] (litRd [dSL s])] (litRd [.sl 1 [dSL s] (litRd [dSL s])])])) (.d (eWt (exT s))):=by
 refine VLe.dag ⟨.refl _,ztg,dleS (ys:=[[s]].map eSs) ⟨CLe.sl (CLes.refl _) (z4m dSL [] [s]),trivial⟩ (z4m eSs [] [[s]]),trivial⟩
@[reducible] def rdN(op:List UInt8)(s:Int)(a n:D):D:=.ag [dSL op,eI s,a,n,dSL []]
@[reducible] def sl1(x:Int):D:=.sl 1 [eI x] (litRd [eI x])
@[reducible] def exD:List D:=[rdN kSort 0 nilD (sl1 2),rdN zy 1 nilD nilD,rdN kSort 0 nilD (sl1 1),rdN z2l 3 (sl1 2) nilD,rdN kBad 0 (sl1 4) nilD]
theorem z8q:VLe (.d (.ag [.sl 5 exD (litRd exD)])) (.d (eBt exm)):=by
 refine VLe.dag ⟨dleS (ys:=exm.map eNd) ?_ (z4m eNd default exm),trivial⟩;exact⟨cleA ⟨.refl _,.refl _,dleN,dleI [2],.refl _,trivial⟩,cleA ⟨.refl _,.refl _,dleN,dleN,.refl _,trivial⟩,cleA ⟨.refl _,.refl _,dleN,dleI [1],.refl _,trivial⟩,cleA ⟨.refl _,.refl _,dleI [2],dleN,.refl _,trivial⟩,cleA ⟨.refl _,.refl _,dleI [4],dleN,.refl _,trivial⟩,trivial⟩
theorem zep:ACall Tryz.prog 8 [] [] (fun r o=>r=vB true):=by
 refine yN Tryz.func8 fun C hC hCl hDs hGk=>?_;have c1:=z7b exm zco zbd (exT [49,120]) (ex_sm _ (by decide));rw [ex_p]at c1;have c2:=z7c exm zco zbd exR (by decide);rw [zpf]at c2;have c3:=z7a exm zco zbd (exT [49,120]) (fun s hs=>by cases hs) (fun f hf s hs=>by obtain rfl:=List.mem_singleton.1 hf;obtain rfl:=List.mem_singleton.1 hs;decide);rw [ex_r]at c3;have c4:=z94 (exT [49,120]) (by decide);rw [zqq.1]at c4;have c5:=z94 (exT [49,48]) (by decide);rw [zqq.2]at c5;have c6:=z93 exm zco zbd (exT [49,48]) (ex_sm _ (by decide));rw [ex_w1]at c6;have c7:=z93 exm zco zbd (exT [48,48]) (ex_sm _ (by decide));rw [ex_w2]at c7;have c8:=z93 exm zco zbd (exT [49,120]) (ex_sm _ (by decide));rw [ex_w3]at c8;refine yV Tryz.func8 rfl trivial c1 ⟨z8q,z5x _,trivial⟩ ?_;refine yX 60 Tryz.func8 rfl trivial ?_;refine zof (bs:=exR) tabOk rfl rfl rfl rfl rfl rfl rfl rfl rfl rfl (by decide) rfl ?_;refine zj 2 rfl ?_;refine yV Tryz.func8 rfl trivial c2 ⟨z8q,VLe.eL rfl,trivial⟩ ?_;refine yT Tryz.func8 rfl trivial ?_;refine yT Tryz.func8 rfl trivial ?_;refine yB Tryz.func8 rfl trivial (fun _=>?_) (fun h=>?_);rotate_left
 ·have h:((⟨exR.toArray⟩:ByteArray).toList==(⟨exR.toArray⟩:ByteArray).toList)=false:=h;rw [strEq,decide_eq_true rfl]at h;cases h
 refine yB Tryz.func8 rfl trivial (fun _=>?_) (fun h=>absurd h (by decide));refine yV Tryz.func8 rfl trivial (zj0 (exT [49,120]) (exT [49,120])) ⟨z5x _,.refl _,trivial⟩ ?_;rw [z81.2 rfl];refine yT Tryz.func8 rfl trivial ?_;refine yV Tryz.func8 rfl trivial c3 ⟨z8q,z5x _,trivial⟩ ?_;refine yT Tryz.func8 rfl trivial ?_;refine yV Tryz.func8 rfl trivial c4 ⟨z5x _,trivial⟩ ?_;refine yT Tryz.func8 rfl trivial ?_;refine yV Tryz.func8 rfl trivial c5 ⟨z5x _,trivial⟩ ?_;refine yT Tryz.func8 rfl trivial ?_;refine yV Tryz.func8 rfl trivial c6 ⟨z8q,z5x _,trivial⟩ ?_;refine yT Tryz.func8 rfl trivial ?_;refine yV Tryz.func8 rfl trivial c7 ⟨z8q,z5x _,trivial⟩ ?_;refine yT Tryz.func8 rfl trivial ?_;refine yV Tryz.func8 rfl trivial c8 ⟨z8q,z5x _,trivial⟩ ?_;exact yR Tryz.func8 rfl trivial rfl
theorem u8eq(c:UInt8)(n:Nat)(hn:n<256):((c.toNat:Int)==(n:Int))=(c==UInt8.ofNat n):=by
 rw [Bool.eq_iff_iff,beq_iff_eq,beq_iff_eq,←UInt8.toNat_inj,UInt8.toNat_ofNat',Nat.mod_eq_of_lt hn];omega
theorem zq0(c:UInt8):ACall Tryz.prog 95 [.d (eU8 c)] [] (fun r o=>r=vB (isB c)):=by
 refine yN Tryz.func95 fun C hC hCl hDs hGk=>?_;have e1:=u8eq c 48 (by decide);have e2:=u8eq c 49 (by decide);have e3:=u8eq c 120 (by decide);refine yB Tryz.func95 rfl trivial (fun h=>?_) (fun h=>?_)
 ·have h:((c.toNat:Int)==((48:Nat):Int))=true:=h;rw [e1]at h;repeat refine yT Tryz.func95 rfl trivial ?_
  refine yR Tryz.func95 rfl trivial ?_;unfold isB;rw [show(c==48)=true from h];rfl
 have h:((c.toNat:Int)==((48:Nat):Int))=false:=h;rw [e1]at h;refine yB Tryz.func95 rfl trivial (fun h2=>?_) (fun h2=>?_)
 ·have h2:((c.toNat:Int)==((49:Nat):Int))=true:=h2;rw [e2]at h2;refine yR Tryz.func95 rfl trivial ?_;unfold isB;rw [show(c==49)=true from h2,Bool.or_true];rfl
 have h2:((c.toNat:Int)==((49:Nat):Int))=false:=h2;rw [e2]at h2;refine yR Tryz.func95 rfl trivial ?_;show vB ((c.toNat:Int)==((120:Nat):Int))=_;rw [e3];unfold isB;rw [show(c==48)=false from h,show(c==49)=false from h2];rfl
theorem zl6(s:List UInt8)(w:Int)(hl:s.length≤1000000000):ACall Tryz.prog 67 [vSL s,vI .i64 w] [] (fun r o=>r=vB (rowB s w)):=by
 refine yN Tryz.func67 fun C hC hCl hDs hGk=>?_;refine yS Tryz.func67 rfl trivial ?_;refine z8 (α:=Nat) (fun i=>[(0,vSL s),(1,vI .i64 w),(5,vI .i64 (i:Int))]) (fun _=>[]) (fun i=>i≤s.length∧∀q,q<i→isB (s.getD q 0)=true) (fun i=>s.length-i) 0 ⟨Nat.zero_le _,fun q hq=>by omega⟩ ?_ ?_
 ·exact fun h=>yE h (eAl rfl) trivial
 rintro i ⟨hi,hc⟩ ih;refine yB Tryz.func67 rfl trivial (fun hb=>?_) (fun hb=>?_)
 ·have hb:decide ((i:Int)<(((⟨s.toArray⟩:ByteArray).size:Nat):Int))=true:=hb;rw [zp,decide_eq_true_eq]at hb;have hlt:i<s.length:=by omega
  refine yV Tryz.func67 rfl ?_ (zq0 (s.getD i 0)) ⟨.of ?_,trivial⟩ ?_
  ·show(0≤(i:Int)∧(i:Int)<(((⟨s.toArray⟩:ByteArray).size:Nat):Int))∧True;rw [zp];exact⟨⟨by omega,by omega⟩,trivial⟩
  ·show vI .u8 (bt ⟨s.toArray⟩ (i:Int).toNat)=_;rw [Int.toNat_natCast,zo];rfl
  cases hbit:isB (s.getD i 0)with
  | false=>
   refine yT Tryz.func67 rfl trivial ?_;refine yR Tryz.func67 rfl trivial ?_;have:s.all isB=false:=List.all_eq_false.2 ⟨_,z3u hlt,by rw [hbit];decide⟩;unfold rowB;rw [this,Bool.and_false];rfl
  | true=>
   refine yF Tryz.func67 rfl trivial ?_;refine yS Tryz.func67 rfl trivial ?_;refine yE (ih (i+1) ⟨by omega,fun q hq=>?_⟩ (by omega)) ⟨erl rfl,erl rfl,erw rfl,trivial⟩ trivial;rcases Nat.lt_or_ge q i with h|h
   ·exact hc q h
   ·obtain rfl:q=i:=by omega
    exact hbit
 ·have hb:decide ((i:Int)<(((⟨s.toArray⟩:ByteArray).size:Nat):Int))=false:=hb;rw [zp,decide_eq_false_iff_not]at hb;obtain rfl:i=s.length:=by omega
  refine yR Tryz.func67 rfl trivial ?_;show vB ((((⟨s.toArray⟩:ByteArray).size:Nat):Int)==w)=_;have:s.all isB=true:=by
   rw [List.all_eq_true];intro c hcm;obtain⟨q,hq,rfl⟩:=List.getElem_of_mem hcm;have:=hc q hq;rwa [z5r hq]at this
  unfold rowB;rw [zp,this,Bool.and_true];congr 3
theorem zca(l:List Nd)(hm:MdB l)(ty:Ty l)(op:List UInt8)(ho:isVal op=true)(f:List (List UInt8))(hs:∀s∈f,s.length≤1000000000)(hfl:f.length≤1000000000)(ws:List (Int×List UInt8))(hw:ws.map (·.1)=(allL l op l.length).map fun s=>wdN l (ln l s)):ACall Tryz.prog 34 [.d (eBt l),vSL op,.d (eSs f)] [] (fun r o=>r=vB (rowsB f ws)):=by
 refine yN Tryz.func34 fun C hC hCl hDs hGk=>?_;have hl:=ty.small;have hall:=@zix l ty op ho;have hq:=@z55 f ws;have hwl:ws.length=(allL l op l.length).length:=by
  have:=congrArg List.length hw;simpa using this
 rw [hw,hwl]at hq;refine yV Tryz.func34 rfl trivial (z92 l op hl) (.refl _) ?_;have hal:=z1s l op l.length;generalize allL l op l.length=al at *;generalize rowsB f ws=res at *;have no:¬(f.length=al.length∧∀j,j<f.length→rowB (f.getD j []) ((al.map fun s=>wdN l (ln l s)).getD j 0)=true)→vB false=vB res:=fun h=>by
  cases res with
  | false=>rfl
  | true=>exact absurd (hq.1 rfl) h
 refine yB Tryz.func34 rfl trivial (fun h=>?_) (fun h=>?_)
 ·have h:(((al.map eI).length:Int) !=((f.map dSL).length:Int))=true:=h;refine yR Tryz.func34 rfl trivial (no fun hh=>?_);simp [hh.1]at h
 have h:(((al.map eI).length:Int) !=((f.map dSL).length:Int))=false:=h;have hlen:f.length=al.length:=by simp at h;omega
 refine yS Tryz.func34 rfl trivial ?_;refine z8 (α:=Nat) (fun i=>[(2,.d (eSs f)),(3,.ptr 0 0),(7,.d (eIs al)),(8,vI .i64 (i:Int))]) (fun i=>[some (bBt l)]) (fun i=>i≤f.length∧∀j,j<i→rowB (f.getD j []) ((al.map fun s=>wdN l (ln l s)).getD j 0)=true) (fun i=>f.length-i) 0 ⟨Nat.zero_le _,fun q hq=>by omega⟩ ?_ ?_
 ·exact fun h=>yE h (eAl rfl) (oAl rfl)
 rintro i ⟨hi,hc⟩ ih;refine yB Tryz.func34 rfl trivial (fun hb=>?_) (fun hb=>?_)<;>simp only [List.length_map,decide_eq_true_eq,decide_eq_false_iff_not]at hb
 ·have hlt:i<f.length:=by omega
  have hlt2:i<al.length:=by omega
  have ha:=hall hlt2;have e1:IntKind.i64.wrap (al.getD i 0-1)=al.getD i 0-1:=z7 (by omega) (by omega);have hS:=(val_s ty (j:=(al.getD i 0-1).toNat) (by omega) ha.2.2).2;have eg:(al.map fun s=>wdN l (ln l s)).getD i 0=wdN l (ln l (al.getD i 0)):=by simp [hlt2]
  refine yO 15 Tryz.func34 rfl trivial ?_;refine yQ Tryz.func68 rfl ?_ (z8p l (ln l (al.getD i 0)) hS.lo hS.hi hS.n (Nat.le_of_lt ty.lt)) ⟨.refl _,.of ?_,trivial⟩ ?_
  ·simp only [Int.toNat_natCast,e1,List.length_map];exact⟨⟨by omega,by omega⟩,⟨by omega,by omega⟩,⟨by omega,by omega⟩,trivial⟩
  ·show AV.d (eNd (l.getD (IntKind.i64.wrap (al.getD i 0-1)).toNat default))=_;rw [e1]
  refine yq rfl trivial ?_;refine yV Tryz.func34 rfl trivial (zl6 (f.getD i []) (wdN l (ln l (al.getD i 0))) (hs _ (z3u hlt))) (.refl _) ?_;cases hr:rowB (f.getD i []) (wdN l (ln l (al.getD i 0)))with
  | false=>
   refine yT Tryz.func34 rfl trivial ?_;refine yR Tryz.func34 rfl trivial (no fun hh=>?_);have:=hh.2 i hlt;rw [eg,hr]at this;cases this
  | true=>
   refine yF Tryz.func34 rfl trivial ?_;refine yS Tryz.func34 rfl trivial ?_;refine yE (ih (i+1) ⟨by omega,fun j hj=>?_⟩ (by omega)) ⟨erl rfl,erl rfl,erl rfl,erw rfl,trivial⟩ (oAl rfl);rcases Nat.lt_or_ge j i with h|h
   ·exact hc j h
   ·obtain rfl:j=i:=by omega
    rw [eg];exact hr
 ·obtain rfl:i=f.length:=by omega
  refine yR Tryz.func34 rfl trivial ?_;rw [hq.2 ⟨hlen,hc⟩];rfl
theorem zgi(l:List Nd)(hm:MdB l)(ty:Ty l)(s:Int):ACall Tryz.prog 35 [.d (eBt l),vI .i64 s] [] (fun r o=>r=vSL (z1x l s)):=by
 refine yN Tryz.func35 fun C hC hCl hDs hGk=>?_;refine yV Tryz.func35 rfl trivial (zls l kInit s ty.small (zlp ty (.inl rfl))) (.refl _) ?_;unfold z1x;cases hj:ofJ l kInit s with
 | none=>
  refine yT Tryz.func35 rfl trivial ?_;exact yR Tryz.func35 rfl trivial rfl
 | some j=>
  refine yF Tryz.func35 rfl trivial ?_;obtain⟨o1,o2,o3,o4,o5⟩:=zdm ty (.inl rfl) hj;have hl:=ty.small;have ew:IntKind.i64.wrap (ofV l kInit s-1)=ofV l kInit s-1:=z7 (by omega) (by omega);refine yR Tryz.func35 rfl ?_ ?_
  ·rw [ew,List.length_map];exact⟨⟨by omega,by omega⟩,trivial⟩
  ·show vSL (l.getD (IntKind.i64.wrap (ofV l kInit s-1)).toNat default).t=vSL (l.getD (ofV l kInit s-1).toNat default).t;rw [ew]
theorem zrc(l:List Nd):(shL l).st.map (·.1)=(allL l ze l.length).map fun s=>wdN l (ln l s):=by
 unfold shL;rw [List.map_map];rfl
theorem zrb(l:List Nd):(shL l).st.map (·.2)=(allL l ze l.length).map (z1x l):=by
 unfold shL;rw [List.map_map];rfl
theorem zs9(l:List Nd):(shL l).inw.map (·.1)=(allL l zy l.length).map fun s=>wdN l (ln l s):=by
 unfold shL;rw [List.map_map];rfl
theorem SmW.rows{t:Wt}{n:Nat}(sm:SmW t n):(∀s∈t.init,s.length≤1000000000)∧∀f∈t.ins,f.length≤1000000000∧∀s∈f,s.length≤1000000000:=
 ⟨fun s hs=>by have:=sm.r s hs;omega,fun f hf=>⟨by have:=(sm.l f hf).1;omega,fun s hs=>by have:=(sm.l f hf).2 s hs;omega⟩⟩
theorem z84(l:List Nd)(hm:MdB l)(ty:Ty l)(t:Wt)(sm:SmW t 1000):ACall Tryz.prog 14 [.d (eBt l),.d (eWt t)] [] (fun r o=>r=vB (z28 (shL l) t)):=by
 refine yN Tryz.func14 fun C hC hCl hDs hGk=>?_;have hl:=ty.small;obtain⟨sr,si⟩:=sm.rows;have sn:=sm.n;refine yV Tryz.func14 rfl trivial (zca l hm ty ze rfl t.init sr (by have:=sm.i;omega) (shL l).st (zrc l)) (.refl _) ?_;have hq:=@z39 (shL l) t;have hbd:(shL l).bads=((allL l kBad l.length).length:Int):=rfl;have no:¬((0≤t.bad∧t.bad<(shL l).bads∧1≤t.ins.length∧t.ins.length≤200)∧rowsB t.init (shL l).st=true∧z4n t.init (shL l).st=true∧∀f∈t.ins,rowsB f (shL l).inw=true)→vB false=vB (z28 (shL l) t):=fun hn=>by
  cases hr:z28 (shL l) t with
  | false=>rfl
  | true=>exact absurd (hq.1 hr) hn
 cases hr:rowsB t.init (shL l).st with
 | false=>
  rw [hr]at no;refine yO 13 Tryz.func14 rfl trivial ?_;refine yb rfl trivial (fun _=>?_) (fun hx=>by cases hx);refine yb rfl trivial (fun _=>?_) (fun hx=>by cases hx);refine yq rfl trivial ?_;repeat refine yT Tryz.func14 rfl trivial ?_
  exact yR Tryz.func14 rfl trivial (no fun hh=>by cases hh.2.1)
 | true=>
  refine yO 13 Tryz.func14 rfl trivial ?_;refine yb rfl trivial (fun hx=>by cases hx) (fun _=>?_);refine yb rfl trivial (fun h1=>?_) (fun h1=>?_)
  ·have h1:decide (t.bad<0)=true:=h1;rw [decide_eq_true_eq]at h1;refine yq rfl trivial ?_;repeat refine yT Tryz.func14 rfl trivial ?_
   exact yR Tryz.func14 rfl trivial (no fun hh=>by omega)
  have h1:decide (t.bad<0)=false:=h1;rw [decide_eq_false_iff_not]at h1;refine yQ Tryz.func22 rfl trivial (z92 l kBad hl) (.refl _) ?_;refine yq rfl trivial ?_;refine yB Tryz.func14 rfl trivial (fun h2=>?_) (fun h2=>?_)
  ·have h2:decide (t.bad≥((((allL l kBad l.length).map eI).length:Nat):Int))=true:=h2;rw [decide_eq_true_eq,List.length_map]at h2;repeat refine yT Tryz.func14 rfl trivial ?_
   exact yR Tryz.func14 rfl trivial (no fun hh=>by rw [hbd]at hh;omega)
  have h2:decide (t.bad≥((((allL l kBad l.length).map eI).length:Nat):Int))=false:=h2;rw [decide_eq_false_iff_not,List.length_map]at h2;refine yB Tryz.func14 rfl trivial (fun h3=>?_) (fun h3=>?_)
  ·have h3:decide (((t.ins.map eSs).length:Int)<1)=true:=h3;rw [decide_eq_true_eq,List.length_map]at h3;repeat refine yT Tryz.func14 rfl trivial ?_
   exact yR Tryz.func14 rfl trivial (no fun hh=>by omega)
  have h3:decide (((t.ins.map eSs).length:Int)<1)=false:=h3;rw [decide_eq_false_iff_not,List.length_map]at h3;refine yB Tryz.func14 rfl trivial (fun h4=>?_) (fun h4=>?_)
  ·have h4:decide (((t.ins.map eSs).length:Int)>200)=true:=h4;rw [decide_eq_true_eq,List.length_map]at h4;exact yR Tryz.func14 rfl trivial (no fun hh=>by omega)
  have h4:decide (((t.ins.map eSs).length:Int)>200)=false:=h4;rw [decide_eq_false_iff_not,List.length_map]at h4;refine yV Tryz.func14 rfl trivial (z92 l ze hl) (.refl _) ?_;have hlen:=(z55.1 hr).1;have hstl:(shL l).st.length=(allL l ze l.length).length:=by
   unfold shL;rw [List.length_map]
  have hf:=z8z hlen;rw [zrb,hstl]at hf;rw [hstl]at hlen;have hal:=z1s l ze l.length;generalize hA:allL l ze l.length=al at *;refine yS Tryz.func14 rfl trivial ?_;refine z8 (α:=Nat) (fun i=>[(2,.ptr 0 0),(3,.ptr 1 0),(6,.d (eIs al)),(7,vI .i64 (i:Int))]) (fun i=>[some (bBt l),some (bWt t)]) (fun i=>i≤al.length∧∀j,j<i→(al.map (z1x l)).getD j []=[]∨t.init.getD j []=(al.map (z1x l)).getD j []) (fun i=>al.length-i) 0 ⟨Nat.zero_le _,fun j hj=>by omega⟩ ?_ ?_
  ·exact fun hh=>yE hh (eAl rfl) (oAl rfl)
  rintro i ⟨hi2,hc⟩ ih;refine yB Tryz.func14 rfl trivial (fun hb=>?_) (fun hb=>?_)<;>simp only [List.length_map,decide_eq_true_eq,decide_eq_false_iff_not]at hb
  ·have hlt:i<al.length:=by omega
   have ih:=ih (i+1);have eg:(al.map (z1x l)).getD i []=z1x l (al.getD i 0):=by simp [hlt]
   rw [←hA]at hlt;refine yO 5 Tryz.func14 rfl trivial ?_;refine yq rfl ?_ ?_
   ·rw [hA]at hlt;exact(by simp [andP]<;>omega)
   rw [hA]at hlt;refine yV Tryz.func14 rfl trivial (zgi l hm ty (al.getD i 0)) (.refl _) ?_;have hnx:((al.map (z1x l)).getD i []=[]∨t.init.getD i []=(al.map (z1x l)).getD i [])→∀j,j<i+1→(al.map (z1x l)).getD j []=[]∨t.init.getD j []=(al.map (z1x l)).getD j []:=fun hh j hj=>by
    rcases Nat.lt_or_ge j i with h5|h5
    ·exact hc j h5
    ·obtain rfl:j=i:=by omega
     exact hh
   refine yB Tryz.func14 rfl trivial (fun hb2=>?_) (fun hb2=>?_)
   ·have hb2:(!((⟨(z1x l (al.getD i 0)).toArray⟩:ByteArray).toList==(⟨([]:List UInt8).toArray⟩:ByteArray).toList))=true:=hb2;rw [strEq,Bool.not_eq_true',decide_eq_false_iff_not]at hb2;refine yB Tryz.func14 rfl (by simp [andP]<;>omega) (fun hb3=>?_) (fun hb3=>?_)
    ·have hb3:(!((⟨(z1x l (al.getD i 0)).toArray⟩:ByteArray).toList==(⟨(t.init.getD (i:Int).toNat []).toArray⟩:ByteArray).toList))=true:=hb3;rw [strEq,Int.toNat_natCast,Bool.not_eq_true',decide_eq_false_iff_not]at hb3;refine yR Tryz.func14 rfl trivial (no fun hh=>?_);rcases(hf.1 hh.2.2.1) i hlt with h5|h5
     ·exact hb2 (by rw [←eg];exact h5)
     ·exact hb3 (by rw [←eg];exact h5.symm)
    ·have hb3:(!((⟨(z1x l (al.getD i 0)).toArray⟩:ByteArray).toList==(⟨(t.init.getD (i:Int).toNat []).toArray⟩:ByteArray).toList))=false:=hb3;rw [strEq,Int.toNat_natCast,Bool.not_eq_false',decide_eq_true_eq]at hb3;refine yS Tryz.func14 rfl trivial ?_;exact yE (ih ⟨by omega,hnx (.inr (by rw [eg];exact hb3.symm))⟩ (by omega)) ⟨erl rfl,erl rfl,erl rfl,erw rfl,trivial⟩ (oAl rfl)
   ·have hb2:(!((⟨(z1x l (al.getD i 0)).toArray⟩:ByteArray).toList==(⟨([]:List UInt8).toArray⟩:ByteArray).toList))=false:=hb2;rw [strEq,Bool.not_eq_false',decide_eq_true_eq]at hb2;refine yF Tryz.func14 rfl trivial ?_;refine yS Tryz.func14 rfl trivial ?_;exact yE (ih ⟨by omega,hnx (.inl (by rw [eg];exact hb2))⟩ (by omega)) ⟨erl rfl,erl rfl,erl rfl,erw rfl,trivial⟩ (oAl rfl)
  ·obtain rfl:i=al.length:=by omega
   have hfb:=hf.2 hc;refine yS Tryz.func14 rfl trivial ?_;refine z8 (α:=Nat) (fun i=>[(2,.ptr 0 0),(3,.ptr 1 0),(9,vI .i64 (i:Int))]) (fun i=>[some (bBt l),some (bWt t)]) (fun i=>i≤t.ins.length∧∀j,j<i→rowsB (t.ins.getD j []) (shL l).inw=true) (fun i=>t.ins.length-i) 0 ⟨Nat.zero_le _,fun j hj=>by omega⟩ ?_ ?_
   ·exact fun hh=>yE hh (eAl rfl) (oAl rfl)
   rintro i ⟨hi3,hc2⟩ ih2;refine yB Tryz.func14 rfl trivial (fun hb=>?_) (fun hb=>?_)<;>simp only [List.length_map,decide_eq_true_eq,decide_eq_false_iff_not]at hb
   ·have hlt:i<t.ins.length:=by omega
    have hmem:=z3u (d:=[]) hlt;refine yO 6 Tryz.func14 rfl trivial ?_;refine yq rfl ?_ ?_
    ·exact(by simp [andP]<;>omega)
    refine yV Tryz.func14 rfl trivial (zca l hm ty zy rfl (t.ins.getD i []) (si _ hmem).2 (si _ hmem).1 (shL l).inw (zs9 l)) (.refl _) ?_;cases hro:rowsB (t.ins.getD i []) (shL l).inw with
    | false=>
     refine yT Tryz.func14 rfl trivial ?_;refine yR Tryz.func14 rfl trivial (no fun hh=>?_);rw [hh.2.2.2 _ hmem]at hro;cases hro
    | true=>
     refine yF Tryz.func14 rfl trivial ?_;refine yS Tryz.func14 rfl trivial ?_;refine yE (ih2 (i+1) ⟨by omega,fun j hj=>?_⟩ (by omega)) ⟨erl rfl,erl rfl,erw rfl,trivial⟩ (oAl rfl);rcases Nat.lt_or_ge j i with h5|h5
     ·exact hc2 j h5
     ·obtain rfl:j=i:=by omega
      exact hro
   ·obtain rfl:i=t.ins.length:=by omega
    refine yR Tryz.func14 rfl trivial ?_;rw [hq.2 ⟨⟨by omega,by rw [hbd];omega,by omega,by omega⟩,hr,hfb,fun f hfm=>?_⟩]
    ·rfl
    ·obtain⟨q,hq2,rfl⟩:=List.getElem_of_mem hfm;have:=hc2 q hq2;rwa [z5r hq2]at this
theorem zal(a b:List (List UInt8)):ACall Tryz.prog 39 [.d (eSs a),.d (eSs b)] [] (fun r o=>r=vB (decide (a=b))):=by
 refine yN Tryz.func39 fun C hC hCl hDs hGk=>?_;refine z7h (t:=0) rfl fun hlen=>?_;rw [List.length_map]at hlen;refine yB Tryz.func39 rfl trivial (fun h=>?_) (fun h=>?_)
 ·refine yR Tryz.func39 rfl trivial ?_;show vB false=vB _;have:a≠b:=by rintro rfl;simp at h
  simp [this]
 have hl:a.length=b.length:=by simp at h;omega
 refine yS Tryz.func39 rfl trivial ?_;refine z8 (α:=Nat) (fun i=>[(0,.d (eSs a)),(1,.d (eSs b)),(5,vI .i64 i)]) (fun _=>[]) (fun i=>i≤a.length∧a.take i=b.take i) (fun i=>a.length-i) 0 ⟨Nat.zero_le _,rfl⟩ ?_ ?_
 ·exact fun h=>yE h (eAl rfl) trivial
 rintro i ⟨hi,hc⟩ ih;refine yB Tryz.func39 rfl trivial (fun hb=>?_) (fun hb=>?_)<;>simp only [decide_eq_true_eq,decide_eq_false_iff_not,List.length_map]at hb
 ·have hlt:i<a.length:=by omega
  have hlb:i<b.length:=by omega
  have ea:a.getD i []=a[i]:=by simp [hlt]
  have eb:b.getD i []=b[i]:=by simp [hlb]
  refine yO 8 Tryz.func39 rfl trivial ?_;refine yq rfl ?_ ?_
  ·exact(by simp [andP]<;>omega)
  refine yB Tryz.func39 rfl trivial (fun hb2=>?_) (fun hb2=>?_)
  ·have hb2:(!((⟨(a.getD (i:Int).toNat []).toArray⟩:ByteArray).toList==(⟨(b.getD (i:Int).toNat []).toArray⟩:ByteArray).toList))=true:=hb2;rw [strEq,Int.toNat_natCast,Bool.not_eq_true',decide_eq_false_iff_not]at hb2;refine yR Tryz.func39 rfl trivial ?_;show vB false=vB _;have:a≠b:=by rintro rfl;exact hb2 rfl
   simp [this]
  ·have hb2:(!((⟨(a.getD (i:Int).toNat []).toArray⟩:ByteArray).toList==(⟨(b.getD (i:Int).toNat []).toArray⟩:ByteArray).toList))=false:=hb2;rw [strEq,Int.toNat_natCast,Bool.not_eq_false',decide_eq_true_eq,ea,eb]at hb2;refine yS Tryz.func39 rfl trivial ?_;refine yE (ih (i+1) ⟨by omega,?_⟩ (by omega)) ⟨erl rfl,erl rfl,erw rfl,trivial⟩ trivial;rw [List.take_add_one,List.take_add_one,hc,List.getElem?_eq_getElem hlt,List.getElem?_eq_getElem hlb,hb2]
 ·obtain rfl:i=a.length:=by omega
  rw [List.take_length,hl,List.take_length]at hc;refine yR Tryz.func39 rfl trivial ?_;show vB true=vB _;simp [hc]
theorem zf7(s t:Wt)(hsl:s.ins.length≤1000000):ACall Tryz.prog 16 [.d (eWt s),.d (eWt t)] [] (fun r o=>r=vB (sameW s t)):=by
 refine yN Tryz.func16 fun C hC hCl hDs hGk=>?_;have no:¬(s=t)→vB false=vB (sameW s t):=fun hn=>by
  cases hr:sameW s t with
  | false=>rfl
  | true=>exact absurd (z81.1 hr) hn
 refine yV Tryz.func16 rfl trivial (zal s.init t.init) (.refl _) ?_;by_cases h1:s.init=t.init
 rotate_left
 ·rw [decide_eq_false h1];repeat refine yT Tryz.func16 rfl trivial ?_
  exact yR Tryz.func16 rfl trivial (no fun e=>h1 (by rw [e]))
 rw [decide_eq_true h1];refine yF Tryz.func16 rfl trivial ?_;refine yB Tryz.func16 rfl trivial (fun h2=>?_) (fun h2=>?_)
 ·have h2:(!(s.bad==t.bad))=true:=h2;rw [Bool.not_eq_true',beq_eq_false_iff_ne]at h2;repeat refine yT Tryz.func16 rfl trivial ?_
  exact yR Tryz.func16 rfl trivial (no fun e=>h2 (by rw [e]))
 have h2:(!(s.bad==t.bad))=false:=h2;rw [Bool.not_eq_false',beq_iff_eq]at h2;refine yB Tryz.func16 rfl trivial (fun h3=>?_) (fun h3=>?_)
 ·have h3:(!((((s.ins.map eSs).length:Nat):Int)==(((t.ins.map eSs).length:Nat):Int)))=true:=h3;rw [Bool.not_eq_true',beq_eq_false_iff_ne,List.length_map,List.length_map]at h3;exact yR Tryz.func16 rfl trivial (no fun e=>h3 (by rw [e]))
 have h3:(!((((s.ins.map eSs).length:Nat):Int)==(((t.ins.map eSs).length:Nat):Int)))=false:=h3;rw [Bool.not_eq_false',beq_iff_eq,List.length_map,List.length_map]at h3;have hl:s.ins.length=t.ins.length:=by omega
 refine yS Tryz.func16 rfl trivial ?_;refine z8 (α:=Nat) (fun i=>[(2,.ptr 0 0),(3,.ptr 1 0),(6,vI .i64 i)]) (fun _=>[some (bWt s),some (bWt t)]) (fun i=>i≤s.ins.length∧s.ins.take i=t.ins.take i) (fun i=>s.ins.length-i) 0 ⟨Nat.zero_le _,rfl⟩ ?_ ?_
 ·exact fun h=>yE h (eAl rfl) (oAl rfl)
 rintro i ⟨hi,hc⟩ ih;refine yB Tryz.func16 rfl trivial (fun hb=>?_) (fun hb=>?_)<;>simp only [decide_eq_true_eq,decide_eq_false_iff_not,List.length_map]at hb
 ·have hlt:i<s.ins.length:=by omega
  have hlb:i<t.ins.length:=by omega
  have ea:s.ins.getD i []=s.ins[i]:=by simp [hlt]
  have eb:t.ins.getD i []=t.ins[i]:=by simp [hlb]
  refine yO 10 Tryz.func16 rfl trivial ?_;refine yq rfl ?_ ?_
  ·exact(by simp [andP]<;>omega)
  refine yV Tryz.func16 rfl trivial (zal (s.ins.getD i []) (t.ins.getD i [])) (.refl _) ?_;by_cases h4:s.ins.getD i []=t.ins.getD i []
  ·rw [decide_eq_true h4];refine yF Tryz.func16 rfl trivial ?_;refine yS Tryz.func16 rfl trivial ?_;rw [ea,eb]at h4;refine yE (ih (i+1) ⟨by omega,?_⟩ (by omega)) ⟨erl rfl,erl rfl,erw rfl,trivial⟩ (oAl rfl);rw [List.take_add_one,List.take_add_one,hc,List.getElem?_eq_getElem hlt,List.getElem?_eq_getElem hlb,h4]
  ·rw [decide_eq_false h4];refine yT Tryz.func16 rfl trivial ?_;exact yR Tryz.func16 rfl trivial (no fun e=>h4 (by rw [e]))
 ·obtain rfl:i=s.ins.length:=by omega
  rw [List.take_length,hl,List.take_length]at hc;refine yR Tryz.func16 rfl trivial ?_;have:sameW s t=true:=by
   rw [z81];cases s;cases t;simp only at h1 h2 hc;rw [h1,h2,hc]
  rw [this];rfl
def smB(t:Wt)(most:Nat):Bool:=decide (t.ins.length≤most)&&decide (t.init.length≤40)&&(t.init::t.ins).all fun l=>decide (l.length≤40)&&l.all fun s=>decide (s.length≤200)
theorem zqe{t:Wt}{n:Nat}(h:smB t n=true):SmW t n:=by
 unfold smB at h;simp only [Bool.and_eq_true,decide_eq_true_eq,List.all_eq_true,List.mem_cons]at h;obtain⟨⟨h1,h2⟩,h3⟩:=h;exact⟨h1,h2,(h3 _ (.inl rfl)).2,fun l hl=>h3 l (.inr hl)⟩
theorem SmW.mono{t:Wt}{n m:Nat}(h:SmW t n)(hm:n≤m):SmW t m:=⟨Nat.le_trans h.n hm,h.i,h.r,h.l⟩
theorem zam(t:Wt)(n:Nat)(hn:n≤1000)(hw:t.ins.length*24+24≤140737488355328):ACall Tryz.prog 10 [.d (eWt t),vI .i64 (n:Int)] [] (fun r o=>r=vB (smB t n)):=by
 refine yN Tryz.func10 fun C hC hCl hDs hGk=>?_;refine yB Tryz.func10 rfl trivial (fun h1=>?_) (fun h1=>?_)
 ·have h1:decide (((t.ins.map eSs).length:Int)>(n:Int))=true:=h1;rw [decide_eq_true_eq,List.length_map]at h1;repeat refine yT Tryz.func10 rfl trivial ?_
  refine yR Tryz.func10 rfl trivial ?_;unfold smB;rw [decide_eq_false (by omega)];rfl
 have h1:decide (((t.ins.map eSs).length:Int)>(n:Int))=false:=h1;rw [decide_eq_false_iff_not,List.length_map]at h1;refine yB Tryz.func10 rfl trivial (fun h2=>?_) (fun h2=>?_)
 ·have h2:decide (((t.init.map dSL).length:Int)>40)=true:=h2;rw [decide_eq_true_eq,List.length_map]at h2;refine yR Tryz.func10 rfl trivial ?_;unfold smB;rw [decide_eq_false (show ¬t.init.length≤40 by omega),Bool.and_false];rfl
 have h2:decide (((t.init.map dSL).length:Int)>40)=false:=h2;rw [decide_eq_false_iff_not,List.length_map]at h2;have hsm:smB t n=(t.init::t.ins).all fun l=>decide (l.length≤40)&&l.all fun s=>decide (s.length≤200):=by
  unfold smB;rw [decide_eq_true (by omega),decide_eq_true (by omega)];rfl
 rw [hsm];refine yX 6 Tryz.func10 rfl trivial ?_;refine zd8 _ tabOk rfl rfl rfl rfl rfl trivial rfl ?_;refine yS Tryz.func10 rfl ?_ ?_
 ·show([eSs t.init].length+(t.ins.map eSs).length)*24≤140737488355328∧True;rw [List.length_map];exact⟨by show(1+t.ins.length)*24≤_;omega,trivial⟩
 refine zj 1 rfl ?_;have hLl:(t.init::t.ins).length≤1001:=by simp;omega
 refine zt (env':=[(5,.d (eSss (t.init::t.ins))),(6,vI .i64 ((0:Nat):Int))]) (objs':=[]) ?_ hC hCl ⟨⟨_,rfl,.eL rfl⟩,⟨_,rfl,.refl _⟩,trivial⟩ trivial rfl rfl (Nat.zero_le _);generalize t.init::t.ins=L at *;refine z8 (α:=Nat) (fun i=>[(5,.d (eSss L)),(6,vI .i64 (i:Int))]) (fun _=>[]) (fun i=>i≤L.length∧∀q,q<i→(decide ((L.getD q []).length≤40)&&(L.getD q []).all fun s=>decide (s.length≤200))=true) (fun i=>L.length-i) 0 ⟨Nat.zero_le _,fun q hq=>by omega⟩ ?_ ?_
 ·exact fun h=>yE h (eAl rfl) trivial
 rintro i ⟨hi,hc⟩ ih;refine yB Tryz.func10 rfl trivial (fun hb=>?_) (fun hb=>?_)<;>simp only [decide_eq_true_eq,decide_eq_false_iff_not,List.length_map]at hb
 ·have hlt:i<L.length:=by omega
  have hmem:=z3u (d:=[]) hlt;have no:(decide ((L.getD i []).length≤40)&&(L.getD i []).all fun s=>decide (s.length≤200))=false→vB false=vB (L.all fun l=>decide (l.length≤40)&&l.all fun s=>decide (s.length≤200)):=fun h=>by
   rw [List.all_eq_false.2 ⟨_,hmem,by rw [h];decide⟩]
  refine yB Tryz.func10 rfl (by simp [andP]<;>omega) (fun g=>?_) (fun g=>?_)
  ·have g:decide ((((L.getD (i:Int).toNat []).map dSL).length:Int)>40)=true:=g;rw [decide_eq_true_eq,Int.toNat_natCast,List.length_map]at g;refine yR Tryz.func10 rfl trivial (no ?_);rw [decide_eq_false (by omega),Bool.false_and]
  have g:decide ((((L.getD (i:Int).toNat []).map dSL).length:Int)>40)=false:=g;rw [decide_eq_false_iff_not,Int.toNat_natCast,List.length_map]at g;have g40:decide ((L.getD i []).length≤40)=true:=decide_eq_true (by omega);rw [g40,Bool.true_and]at no;refine yS Tryz.func10 rfl trivial ?_;refine z8 (α:=Nat) (fun j=>[(5,.d (eSss L)),(6,vI .i64 (i:Int)),(7,vI .i64 (j:Int))]) (fun _=>[]) (fun j=>j≤(L.getD i []).length∧∀q,q<j→decide (((L.getD i []).getD q []).length≤200)=true) (fun j=>(L.getD i []).length-j) 0 ⟨Nat.zero_le _,fun q hq=>by omega⟩ ?_ ?_
  ·exact fun h=>yE h (eAl rfl) trivial
  rintro j ⟨hj,hc2⟩ ih2;refine yB Tryz.func10 rfl (by simp [andP]<;>omega) (fun hb3=>?_) (fun hb3=>?_)
  ·have hb3:decide ((j:Int)<(((L.getD (i:Int).toNat []).map dSL).length:Int))=true:=hb3;rw [List.length_map,Int.toNat_natCast,decide_eq_true_eq]at hb3;have hjl:j<(L.getD i []).length:=by omega
   refine yB Tryz.func10 rfl ?_ (fun k=>?_) (fun k=>?_)
   ·show(0≤(j:Int)∧(j:Int)<(((L.getD (i:Int).toNat []).map dSL).length:Int))∧(0≤(i:Int)∧(i:Int)<((L.map eSs).length:Int))∧True;rw [List.length_map,Int.toNat_natCast,List.length_map];exact⟨⟨by omega,by omega⟩,⟨by omega,by omega⟩,trivial⟩
   ·have k:decide ((((⟨((L.getD (i:Int).toNat []).getD (j:Int).toNat []).toArray⟩:ByteArray).size:Nat):Int)>200)=true:=k;rw [zp,Int.toNat_natCast,Int.toNat_natCast,decide_eq_true_eq]at k;refine yR Tryz.func10 rfl trivial (no ?_);exact List.all_eq_false.2 ⟨_,z3u (d:=[]) hjl,by rw [decide_eq_false (by omega)];decide⟩
   ·have k:decide ((((⟨((L.getD (i:Int).toNat []).getD (j:Int).toNat []).toArray⟩:ByteArray).size:Nat):Int)>200)=false:=k;rw [zp,Int.toNat_natCast,Int.toNat_natCast,decide_eq_false_iff_not]at k;refine yS Tryz.func10 rfl trivial ?_;refine yE (ih2 (j+1) ⟨by omega,fun q hq=>?_⟩ (by omega)) ⟨erl rfl,erl rfl,erw rfl,trivial⟩ trivial;rcases Nat.lt_or_ge q j with h|h
    ·exact hc2 q h
    ·obtain rfl:q=j:=by omega
     exact decide_eq_true (by omega)
  ·have hb3:decide ((j:Int)<(((L.getD (i:Int).toNat []).map dSL).length:Int))=false:=hb3;rw [List.length_map,Int.toNat_natCast,decide_eq_false_iff_not]at hb3;obtain rfl:j=(L.getD i []).length:=by omega
   refine yS Tryz.func10 rfl trivial ?_;refine yE (ih (i+1) ⟨by omega,fun q hq=>?_⟩ (by omega)) ⟨erl rfl,erw rfl,trivial⟩ trivial;rcases Nat.lt_or_ge q i with h|h
   ·exact hc q h
   ·obtain rfl:q=i:=by omega
    rw [g40,Bool.true_and,List.all_eq_true];intro s hs;obtain⟨k,hk,rfl⟩:=List.getElem_of_mem hs;have:=hc2 k hk;rwa [z5r hk]at this
 ·obtain rfl:i=L.length:=by omega
  refine yR Tryz.func10 rfl trivial ?_;have:(L.all fun l=>decide (l.length≤40)&&l.all fun s=>decide (s.length≤200))=true:=by
   rw [List.all_eq_true];intro s hs;obtain⟨k,hk,rfl⟩:=List.getElem_of_mem hs;have:=hc k hk;rwa [z5r hk]at this
  rw [this];rfl
end Go.Proofs.YtbodbhpdelgpnaaGreatDoor
namespace Go.Proofs.YtbodbhpdelgpnaaGreatDoor
open Go Ab Go.RowKit Go.Lib
end Go.Proofs.YtbodbhpdelgpnaaGreatDoor
namespace Go.Proofs.YtbodbhpdelgpnaaGreatDoor
open Go Ab Go.RowKit
@[reducible] def Rm(t:Wt):Prop:=t.ins.length*24+24≤140737488355328
theorem zrd(l:List Nd)(ty:Ty l):(shL l).bads≤1000000:=by
 have:=z1s l kBad l.length;have:=ty.small;show(((allL l kBad l.length).length:Nat):Int)≤1000000;omega
end Go.Proofs.YtbodbhpdelgpnaaGreatDoor
namespace Go.Proofs.YtbodbhpdelgpnaaGreatDoor
open Go Ab Go.RowKit
section
variable {l:List Nd}{x:Nd}
end
end Go.Proofs.YtbodbhpdelgpnaaGreatDoor
namespace Go.Proofs.YtbodbhpdelgpnaaGreatDoor
open Go Ab Go.RowKit
def selO(e:Nat)(L:List Nat)(o h:Option AObj):Option AObj:=if e∈L then o else h
theorem zer(e:Nat)(L:List Nat)(o h:Option AObj):selO e (e::L) o h=o:=if_pos (List.mem_cons_self ..)
theorem z27{e j:Nat}(hne:j≠e)(L:List Nat)(o h:Option AObj):selO e (j::L) o h=selO e L o h:=by
 unfold selO;simp only [List.mem_cons,hne.symm,false_or]
theorem za8{e:Nat}{L:List Nat}(hn:e∉L)(o h:Option AObj):selO e L o h=h:=if_neg hn
theorem zhs{e:Nat}{L:List Nat}(hn:e∈L)(o h:Option AObj):selO e L o h=o:=if_pos hn
end Go.Proofs.YtbodbhpdelgpnaaGreatDoor
namespace Ab
open Go
variable [Draws]
section
variable {P:Program}[Globals P]{T:Tab}{n m:Nat}{C:Cx}{env envF:Env}{objs:List (Option AObj)}{ops:Array Oper}{K:Env→Prop}{X:Nat→Prop}
theorem zhp{w:World}{src dst e:TypeId}{rs rd re:TRow}{bs:List UInt8}(hT:TabOk P T)(hrs:tlook T src=some rs)(hks:rs.kd=.str)(hrd:tlook T dst=some rd)(hkd:rd.kd=.slice e)(hre:tlook T e=some re)(h8:re.kd=.int .u8)(hlen:bs.length≤1000000000):
  ∃(c:Nat) (W:World) (BC:List Value),(convert src dst (.string ⟨bs.toArray⟩)).run P w=.ok (.slice (some ⟨w.heap.size,0,none⟩) bs.length c) W∧Later w W∧W.heap[w.heap.size]?=some (.cells BC.toArray e (BC.length,BC.length+1))∧bs.length≤c∧c≤maxLen∧BC.length=c∧∀q,q<bs.length→BC[q]?=(bs.map fun b=>Value.int .u8 (b.toNat:Int))[q]?:=by
 have hs:=z4i hT hrs hks;have hd:=z1c hT hrd hkd;have heU:=z8c hT hre h8;have hrun:=Go.Lib.run_convert_string_bytes (P:=P) w src dst e ⟨bs.toArray⟩ hs hd heU;have hsize:(⟨bs.toArray⟩:ByteArray).size=bs.length:=by simp [ByteArray.size]
 have hml:maxLen=9223372036854775807:=rfl;rw [hsize]at hrun;have hcell:=Go.Lib.bytesWorld_cell w e ⟨bs.toArray⟩;have hold:∀b,b<w.heap.size→(Go.Lib.bytesWorld w e ⟨bs.toArray⟩).heap[b]?=w.heap[b]?:=fun b hb=>Go.Lib.bytesWorld_at_old w e _ b hb
 have hnew:=Go.Lib.bytesWorld_at_new w e ⟨bs.toArray⟩;have hhs:=Go.Lib.bytesWorld_size w e ⟨bs.toArray⟩;have hout:(Go.Lib.bytesWorld w e ⟨bs.toArray⟩).os=w.os∧(Go.Lib.bytesWorld w e ⟨bs.toArray⟩).tape=w.tape∧(Go.Lib.bytesWorld w e ⟨bs.toArray⟩).output=w.output∧w.drawn≤(Go.Lib.bytesWorld w e ⟨bs.toArray⟩).drawn:=by
  unfold Go.Lib.bytesWorld World.freeze;rw [if_neg (by decide)];exact⟨rfl,rfl,rfl,Nat.le_succ _⟩
 have hc1:=grownCap_ge w bs.length 0 e;have hc2:=grownCap_le_maxLen w bs.length 0 e (by omega);have hclen:(Go.Lib.bytesCells w e ⟨bs.toArray⟩).size=grownCap w bs.length 0 e:=by
  simp only [Go.Lib.bytesCells,hsize,Array.size_append,Array.size_map,List.size_toArray,Array.size_replicate];omega
 generalize grownCap w bs.length 0 e=c at hc1 hc2 hclen hrun;generalize Go.Lib.bytesCells w e ⟨bs.toArray⟩=BC at hnew hclen;generalize Go.Lib.bytesWorld w e ⟨bs.toArray⟩=W at *;obtain⟨BC⟩:=BC;simp only [List.size_toArray]at hclen hnew;refine⟨c,W,BC,hrun,⟨hout.1,hout.2.1,⟨hout.2.2.1,z17 hout.2.2.2⟩,by rw [hhs];omega,hold⟩,hnew,hc1,hc2,hclen,fun q hq=>?_⟩;have h1:=hcell q (by rw [hsize];exact hq);have h2:=cell_of_heap (i:=q) hnew;rw [h2]at h1;rw [h1];simp [hq,List.getD_eq_getElem?_getD]
theorem zsk{o:Oper}{r:List Oper}{e2:Env}{src dst e:TypeId}{rs rd re:TRow}{xo:Operand}{bs:List UInt8}(hT:TabOk P T)(hfree:z4a o r (o.looksAt ops)=true)(halone:z2i o r=true)(hw:wantE ops (restr env (o.looksAt ops)) o=.yes)
  (hop:o.op=.convert src dst xo) (hx:opnd (restr env (o.looksAt ops)) xo=some (.d (.v (.string ⟨bs.toArray⟩))))
  (hrs:tlook T src=some rs) (hks:rs.kd=.str) (hrd:tlook T dst=some rd) (hkd:rd.kd=.slice e) (hre:tlook T e=some re) (h8:re.kd=.int .u8) (hlen:bs.length≤1000000000)
  (hput:putE n o.dst (.d (eL 1 eU8 0 bs)) env=some e2) (h:DSat P n X objs ops K r e2):DSat P n X objs ops K (o::r) env:=by
 refine ds_op hfree halone hput hw (fun π w tmps m he=>?_) h;have hax:=z49 (P:=P) he hx;obtain⟨c,W,BC,hrun,hl,hnew,hc1,hc2,hcl,hcell⟩:=zhp (P:=P) (w:=w) hT hrs hks hrd hkd hre h8 hlen;refine⟨.slice (some ⟨w.heap.size,0,none⟩) bs.length c,W,?_,hl,?_⟩
 ·unfold execOp;rw [hop];simp only [Sem.run_bind,hax,hrun,Result.andThen_ok,Sem.run_pure]
 ·have hls:(bs.map eU8).length=bs.length:=by simp
  have:=RelD.sl (w:=W) (ok:=okOf X π objs) (b:=w.heap.size) (o:=0) (c:=c) (s:=1) (xs:=bs.map eU8) (us:=bs.map fun b=>Value.int .u8 (b.toNat:Int)) (rd:=fun i=>eU8 (bs.getD i 0)) (z5z bs) (fun q hq=>⟨zgm m,?_⟩) (by rw [hls];exact hc1) hc2 (z4m eU8 0 bs)
  ·rw [hls]at this;exact .d this
  ·rw [List.length_map]at hq;rw [Nat.zero_add,cell_of_heap hnew];exact hcell q hq
theorem zjn{O:List Nat→List (Option AObj)}{j p d:Nat}{o:Oper}{src dst e:TypeId}{rs rd re:TRow}{xo:Operand}{E:Env}{bs:List UInt8}(hT:TabOk P T)
  (hw:wantE ops (restr E (o.looksAt ops)) o=.yes) (hE:∀t∈o.looksAt ops,∀b,look E t=some b→look envF t=some b) (hop:o.op=.convert src dst xo) (hx:opnd (restr E (o.looksAt ops)) xo=some (.d (.v (.string ⟨bs.toArray⟩))))
  (hrs:tlook T src=some rs) (hks:rs.kd=.str) (hrd:tlook T dst=some rd) (hkd:rd.kd=.slice e) (hre:tlook T e=some re) (h8:re.kd=.int .u8) (hlen:bs.length≤1000000000)
  (hdst:o.dst=some d) (hdn:Nat.blt d n=true) (hlook:look envF d=some (.gs p)) (hple:C.π.length≤p)
  (hO0:∀L,j∉L→(∀q∈L,∀q',zv ops q q'=true→q'∈L)→nth (O L) p=some (some HD))
  (hO:∀L,j∉L→(∀q∈L,∀q',zv ops q q'=true→q'∈L)→O (j::L)=za (O L) p (some (gL e 1 eU8 0 bs))):HeadH P n C O m ops envF j o:=by
 intro L _ hjL _ hcl π w tmps hsz hm hgk hlk;have he:z13 w (okOf C.X π (O L)) π (restr E (o.looksAt ops)) tmps:=fun t b ht=>by
  obtain⟨a1,a2⟩:=z12 ht;exact hlk t a1 b (hE t a1 b a2)
 have hax:=z49 (P:=P) he hx;obtain⟨c,w2,BC,hrun,hl,hnew,hc1,hc2,hbl,hcell⟩:=zhp (P:=P) (w:=w) hT hrs hks hrd hkd hre h8 hlen;have hh:∀b,blk (.slice (some ⟨w.heap.size,0,none⟩) bs.length c)=some b→w.heap.size≤b:=by
  intro b hb;cases c<;>cases hb;exact Nat.le_refl _
 have hR:∀{ok:Nat→Prop} {π:List Value},RelO w2 ok π (gL e 1 eU8 0 bs) (.slice (some ⟨w.heap.size,0,none⟩) bs.length c):=by
  intro ok π;cases c with
  | zero=>
   obtain rfl:bs=[]:=List.eq_nil_of_length_eq_zero (by omega);exact .gnil
  | succ c=>
   have:=RelO.grow (w:=w2) (ok:=ok) (π:=π) (e:=e) (s:=1) (b:=w.heap.size) (o:=0) (c:=c) (xs:=bs.map eU8) (us:=bs.map fun b=>Value.int .u8 (b.toNat:Int))
    (vs:=BC) (rd:=fun i=>eU8 (bs.getD i 0)) (fz:=(BC.length,BC.length+1)) hnew (fun q hq=>by omega) (z5z bs) (fun q hq=>?_) (by rw [List.length_map];exact hc1) hc2 (by omega) (z4m eU8 0 bs)
   ·rw [List.length_map]at this;exact this
   ·rw [List.length_map]at hq;rw [Nat.zero_add];exact hcell q hq
 have hpl:p<(O L).length:=z1r (hO0 L hjL hcl);have hml:π.length=(O L).length:=hm.len;have hf:=fill (w':=w2) hm (hO0 L hjL hcl) hl.os hl.tape hl.output hl.size hl.ext _ (gL e 1 eU8 0 bs) hh hR;refine .inr ⟨(zm he).1 hw,.inl ⟨.slice (some ⟨w.heap.size,0,none⟩) bs.length c,w2,za π p (.slice (some ⟨w.heap.size,0,none⟩) bs.length c),?_,⟨?_,?_,?_⟩,?_⟩⟩
 ·unfold execOp;rw [hop];simp only [Sem.run_bind,hax,hrun,Result.andThen_ok,Sem.run_pure]
 ·rw [hO L hjL hcl];exact hf.1
 ·rw [hO L hjL hcl];exact hf.2.1 hple
 ·rw [hO L hjL hcl];exact hf.2.2
 ·intro d' hd';rw [hdst]at hd';cases hd';refine⟨by simpa [Nat.blt_eq]using hdn,_,hlook,?_⟩;rw [hO L hjL hcl];have hpp:p<π.length:=by omega
  exact .gs (by rw [z2j,if_pos rfl,if_pos hpp])
theorem zgz{O:List Nat→List (Option AObj)}{j d:Nat}{o:Oper}{E:Env}{g:FuncId}{az bs:List AV}{R':AV→List (Option AObj)→Prop}{r0:AV}(hw:wantE ops (restr E (o.looksAt ops)) o=.yes)(hE:∀t∈o.looksAt ops,∀b,look E t=some b→look envF t=some b)
  (hco:z4p (restr E (o.looksAt ops)) o=some (g,az)) (hen:∀args w,(callFunc g args).run P w=.ok (.enter g args) w) (hc:ACall P g bs [] R') (hr:∀r o,R' r o→r=r0) (hv:VLs az bs) (hd:refsBs 0 bs=true) (hr0:refsB 0 r0=true)
  (hO:∀L,O (j::L)=O L) (hdst:o.dst=some d) (hdn:Nat.blt d n=true) (hlook:look envF d=some r0):HeadH P n C O m ops envF j o:=by
 refine z9u hO fun L=>?_;intro π w tmps hsz hm hgk hlk;have he:z13 w (okOf C.X π (O L)) π (restr E (o.looksAt ops)) tmps:=fun t b ht=>by
  obtain⟨h1,h2⟩:=z12 ht;exact hlk t h1 b (hE t h1 b h2)
 obtain⟨vs,c1,c2⟩:=z2t he hco;refine .inr ⟨(zm he).1 hw,.inr ⟨g,vs.toArray,by rw [c2,hen],?_⟩⟩;have h1:RelVs w (okOf (Xof C.X π (O L)) [] []) [] bs vs:=(hv.rel c1).cut (m:=0) (fun b o u a1 a2=>⟨z8o.2 a1,a2⟩) (fun j _ hj=>absurd hj (Nat.not_lt_zero j)) hd;rcases hc _ _ w vs hgk.nil (zay hm) h1 with⟨_,hcl⟩|⟨v,w',hcl,_⟩
 ·refine Calls.mono hcl ?_;rintro e w' ⟨v,r,o',π',rfl,hR,hm',hrel,hhist⟩;have:=hr r o' hR;subst this;refine⟨v,rfl,z59 hhist,fun d' hd'=>?_⟩;rw [hdst]at hd';cases hd';refine⟨by simpa [Nat.blt_eq]using hdn,_,hlook,?_⟩;refine hrel.cut (m:=0) (fun b o u a1 a2=>⟨?_,a2⟩) (fun j _ hj=>absurd hj (Nat.not_lt_zero j)) hr0;exact z8o.1 ⟨a1.1,fun i o h h1=>by simp [nth]at h1⟩
 ·rw [hen]at hcl;cases hcl
end
end Ab
namespace Go.Proofs.YtbodbhpdelgpnaaGreatDoor
open Go Ab Go.RowKit
@[reducible] def weD(l:List Nd)(t u:Wt)(c:UInt8)(cut:Int):D:=.ag [eNds l,eI t.bad,eSs t.init,eSss t.ins,eI u.bad,eSs u.init,eSss u.ins,eU8 c,.v (.int .u16 cut)]
@[reducible] def weO(l:List Nd)(t u:Wt)(c:UInt8)(cut:Int):AObj:=.cells 53 [.d (eNds l),.d (eI t.bad),.d (eSs t.init),.d (eSss t.ins),.d (eI u.bad),.d (eSs u.init),.d (eSss u.ins),.d (eU8 c),.d (.v (.int .u16 cut))]
theorem zr2(t:Wt):0<(wtT t).length:=by
 unfold wtT kSat;simp only [List.length_append,List.length_cons];omega
theorem WwitEnds_law(l:List Nd)(t u:Wt)(c:UInt8)(cut:Int)(hm:MdB l)(hl:l.length<2000000000000)(ht:Rm t)(hu:Rm u)(hcu:0≤cut∧cut≤65535):ACall Tryz.prog 6 [.d (weD l t u c cut)] [] (fun r o=>r=vB true):=by
 refine yN Tryz.func6 fun C hC hCl hDs hGk=>?_;have hpl:C.π.length=0:=by rw [hCl,hC];rfl
 refine yV Tryz.func6 rfl trivial zep (.refl _) ?_;refine yC Tryz.func6 rfl trivial (zee l hm 40 (by decide) hl) (.refl _) ?_ (hr:=by rintro r o ⟨b,rfl,-⟩;rfl);rintro r o ⟨b,rfl,hc⟩;cases b with
 | false=>
  repeat refine yT Tryz.func6 rfl trivial ?_
  exact yR Tryz.func6 rfl trivial rfl
 | true=>
  obtain⟨l40,ty⟩:=hc rfl;refine yF Tryz.func6 rfl trivial ?_;refine yV Tryz.func6 rfl trivial (zam t 10 (by decide) ht) (.refl _) ?_;cases h1:smB t 10 with
  | false=>
   repeat refine yT Tryz.func6 rfl trivial ?_
   exact yR Tryz.func6 rfl trivial rfl
  | true=>
  refine yF Tryz.func6 rfl trivial ?_;refine yV Tryz.func6 rfl trivial (zam u 10 (by decide) hu) (.refl _) ?_;cases h2:smB u 10 with
  | false=>
   repeat refine yT Tryz.func6 rfl trivial ?_
   exact yR Tryz.func6 rfl trivial rfl
  | true=>
  have s0:=zqe h1;have s1:=s0.mono (m:=1000) (by decide);have u0:=zqe h2;have u1:=u0.mono (m:=1000) (by decide);refine yF Tryz.func6 rfl trivial ?_;have c1:=z84 l hm ty t s1;have c2:=z84 l hm ty u u1;cases hR:z28 (shL l) t with
  | false=>
   rw [hR]at c1;refine yV Tryz.func6 rfl trivial c1 (.refl _) ?_;repeat refine yT Tryz.func6 rfl trivial ?_
   exact yR Tryz.func6 rfl trivial rfl
  | true=>
  rw [hR]at c1;refine yV Tryz.func6 rfl trivial c1 (.refl _) ?_;refine yF Tryz.func6 rfl trivial ?_;cases hU:z28 (shL l) u with
  | false=>
   rw [hU]at c2;refine yV Tryz.func6 rfl trivial c2 (.refl _) ?_;repeat refine yT Tryz.func6 rfl trivial ?_
   exact yR Tryz.func6 rfl trivial rfl
  | true=>
  rw [hU]at c2;refine yV Tryz.func6 rfl trivial c2 (.refl _) ?_;refine yF Tryz.func6 rfl trivial ?_;have in2:=(sh_in ty).2;have hbd:=zrd l ty;have lT:(wtT t).length+1≤100000:=by
   obtain⟨⟨b0,b1,-,-⟩,-⟩:=z39.1 hR;have:=zke s0 (by decide) ⟨b0,by omega⟩;omega
  have hinj:(wtT t=wtT u)↔t=u:=⟨fun e=>zr3 in2 hbd hR hU (by omega) e,fun e=>by rw [e]⟩
  have hcutW:=fun k (hk:k<(wtT t).length)=>zsy in2 hbd (sh_st ty) (sh_in ty).1 hR (by omega) hk
  have hmore:=zg0 in2 hR [c] (by rw [List.length_append];exact lT) hbd;rw [if_neg (by simp)]at hmore;have hpos:=zr2 t;have p1:=z7b l hm ty t s1;unfold prW at p1;rw [if_pos hR]at p1;have p2:=z7b l hm ty u u1;unfold prW at p2;rw [if_pos hU]at p2;have p3:=zf7 t u (by have:=s0.n;omega);generalize wtT t=T at *;generalize wtT u=V at *;refine yV Tryz.func6 rfl trivial p1 (.refl _) ?_;refine yV Tryz.func6 rfl trivial p2 (.refl _) ?_;refine yF Tryz.func6 rfl trivial ?_;refine yF Tryz.func6 rfl trivial ?_;refine yB Tryz.func6 rfl trivial (fun h3=>?_) (fun h3=>?_)
  ·have h3:((((⟨T.toArray⟩:ByteArray).size:Nat):Int)==0)=true:=h3;rw [z4j,beq_iff_eq]at h3;omega
  refine yV Tryz.func6 rfl trivial p3 (.refl _) ?_;refine yB Tryz.func6 rfl trivial (fun h4=>?_) (fun h4=>?_)
  ·exfalso;have h4:(((⟨T.toArray⟩:ByteArray).toList==(⟨V.toArray⟩:ByteArray).toList) !=sameW t u)=true:=h4;rw [strEq,bne_iff_ne]at h4;apply h4;rw [Bool.eq_iff_iff,decide_eq_true_eq,hinj,z81]
  have q1:=z7c l hm ty (T++[c]) (by rw [List.length_append];simp only [List.length_cons,List.length_nil];omega);rw [hmore]at q1;refine zkv 14 2 [(2,some (92,.gs 4)),(5,some (95,.d (.sl 1 (T.map eU8++[eU8 c]) (catRd (T.map eU8).length (fun i=>eU8 (T.getD i 0)) (litRd [eU8 c]))))),(6,some (96,tupOf [.d zWt,vI .i64 (T.length:Int),vI .i64 2])),(7,some (89,tupOf [.d zWt,vI .i64 (T.length:Int),vI .i64 2])),(8,some (97,.d zWt)),(9,some (98,vI .i64 (T.length:Int))),(10,some (99,vI .i64 2)),(11,some (13,.ptr 5 0)),(12,none),(13,some (14,vI .i64 (T.length:Int)))] [(92,5)]
   (fun L=>[some (weO l t u c cut),some (bBt l),some (bWt t),some (bWt u),selO 5 L none (selO 2 L (some (gL 5 1 eU8 0 T)) (some HD)),some (sel 11 L zWtO HD)]) _
   (objsF:=[some (weO l t u c cut),some (bBt l),some (bWt t),some (bWt u),none,some zWtO])
   tabOk Tryz.func6 rfl rfl trivial (by kernel_rfl) (by kernel_rfl) ?_ ?_ ?_ rfl (by kernel_rfl) (fun L=>by
    refine ds_ok tabOk rfl rfl rfl rfl rfl ?_;refine ds_ok tabOk rfl rfl rfl rfl rfl ?_;refine ds_ok tabOk rfl rfl rfl rfl rfl ?_;refine z79 tabOk rfl rfl rfl rfl rfl rfl rfl ?_;exact yq rfl trivial rfl) ?_ ?_
  ·rfl
  ·intro L hL;simp only [z4s (hL 11 (by decide)),zhs (hL 5 (by decide))]
  ·intro j L hb;simp only [actB,List.any_cons,List.any_nil,Bool.or_false,Bool.or_eq_false_iff]at hb;have n2:=Nat.ne_of_beq_eq_false hb.1;have n5:=Nat.ne_of_beq_eq_false hb.2.1;have n11:=Nat.ne_of_beq_eq_false hb.2.2.2.2.2.2.2.1;simp only [z1q (fun e=>n11 e.symm),z27 (fun e=>n5 e.symm),z27 (fun e=>n2 e.symm)]
  ·refine List.forall_mem_cons.2 ⟨⟨_,rfl,rfl,?_⟩,List.forall_mem_cons.2 ⟨⟨_,rfl,rfl,?_⟩,List.forall_mem_cons.2 ⟨⟨_,rfl,rfl,?_⟩,List.forall_mem_cons.2 ⟨⟨_,rfl,rfl,?_⟩,List.forall_mem_cons.2 ⟨⟨_,rfl,rfl,?_⟩,List.forall_mem_cons.2 ⟨⟨_,rfl,rfl,?_⟩,List.forall_mem_cons.2 ⟨⟨_,rfl,rfl,?_⟩,List.forall_mem_cons.2 ⟨⟨_,rfl,rfl,?_⟩,List.forall_mem_cons.2 ⟨⟨_,rfl,rfl,?_⟩,List.forall_mem_cons.2 ⟨⟨_,rfl,rfl,?_⟩,fun x h=>by cases h⟩⟩⟩⟩⟩⟩⟩⟩⟩⟩
   ·refine HeadH.toK _ (zjn (p:=4) (bs:=T) tabOk rfl (fun _ _ _ h=>h) rfl rfl rfl rfl rfl rfl rfl rfl (by omega) rfl rfl rfl (by omega) ?_ ?_)
    ·intro L h3 hc;have h6:5∉L:=fun h=>h3 (hc 5 h 2 (by kernel_rfl))
     show some (selO 5 L _ (selO 2 L _ _))=_;rw [za8 h6,za8 h3]
    ·intro L h3 hc;have h6:5∉L:=fun h=>h3 (hc 5 h 2 (by kernel_rfl))
     have h6':5∉2::L:=by simp only [List.mem_cons,not_or];exact⟨by decide,h6⟩
     simp only [za8 h6,za8 h6',zer,z1q (show(2:Nat)≠11 by decide)];rfl
   ·refine zmf (c:=some (((T.map eU8).length+[eU8 c].length)*1≤140737488355328)) (p:=4) (s:=1) (e:=5) (xs:=T.map eU8++[eU8 c]) (rd:=catRd (T.map eU8).length (fun i=>eU8 (T.getD i 0)) (litRd [eU8 c])) (O1:=fun L=>[some (weO l t u c cut),some (bBt l),some (bWt t),some (bWt u),some (.grow 5 1 (T.map eU8++[eU8 c]) (catRd (T.map eU8).length (fun i=>eU8 (T.getD i 0)) (litRd [eU8 c]))),some (sel 11 L zWtO HD)]) tabOk rfl (fun _ _ _ h=>h) ?_ ?_ (fun L _ _=>rfl) ?_ ?_ rfl rfl rfl
    ·intro L h6 hw;have h3:=hw 2 (by kernel_rfl);simp only [za8 h6,zhs h3];cases h8:decide (11∈L)with
     | true=>simp only [z4s (of_decide_eq_true h8)];rfl
     | false=>simp only [z80 (of_decide_eq_false h8)];rfl
    ·show((T.map eU8).length+1)*1≤_;rw [List.length_map];omega
    ·intro L h6 hw;simp only [zer,z1q (show(5:Nat)≠11 by decide)];cases h8:decide (11∈L)with
     | true=>simp only [z4s (of_decide_eq_true h8)];rfl
     | false=>simp only [z80 (of_decide_eq_false h8)];rfl
    ·refine zsc ?_;repeat (refine List.forall_mem_cons.2 ⟨?_,?_⟩;first|exact fun _=>rfl|exact fun h=>(by have h2:true=false:=h;cases h2))
     intro x h;exact absurd h List.not_mem_nil
   ·refine HeadH.toK _ (zgz rfl (fun _ _ _ h=>h) rfl (zb Tryz.func21 rfl rfl) q1 (by rintro r o rfl;rfl) ⟨.refl _,VLe.eL (by rw [List.map_append];rfl),trivial⟩ rfl rfl (fun L=>?_) rfl rfl rfl);simp only [z1q (show(6:Nat)≠11 by decide),z27 (show(6:Nat)≠5 by decide),z27 (show(6:Nat)≠2 by decide)]
   ·refine HeadH.toK _ (z5a tabOk rfl (fun _ _ _ h=>h) (fun L=>rfl) (fun L=>?_) rfl rfl rfl);simp only [z1q (show(7:Nat)≠11 by decide),z27 (show(7:Nat)≠5 by decide),z27 (show(7:Nat)≠2 by decide)]
   ·refine HeadH.toK _ (z5a tabOk rfl (fun _ _ _ h=>h) (fun L=>rfl) (fun L=>?_) rfl rfl rfl);simp only [z1q (show(8:Nat)≠11 by decide),z27 (show(8:Nat)≠5 by decide),z27 (show(8:Nat)≠2 by decide)]
   ·refine HeadH.toK _ (z5a tabOk rfl (fun _ _ _ h=>h) (fun L=>rfl) (fun L=>?_) rfl rfl rfl);simp only [z1q (show(9:Nat)≠11 by decide),z27 (show(9:Nat)≠5 by decide),z27 (show(9:Nat)≠2 by decide)]
   ·refine HeadH.toK _ (z5a tabOk rfl (fun _ _ _ h=>h) (fun L=>rfl) (fun L=>?_) rfl rfl rfl);simp only [z1q (show(10:Nat)≠11 by decide),z27 (show(10:Nat)≠5 by decide),z27 (show(10:Nat)≠2 by decide)]
   ·refine HeadH.toK _ (z6i (p:=5) tabOk rfl rfl rfl rfl rfl rfl (by omega) ?_ ?_)
    ·intro L h8 hc;show some (some (sel 11 L _ _))=_;rw [z80 h8]
    ·intro L h8 hc;simp only [z5k,z27 (show(11:Nat)≠5 by decide),z27 (show(11:Nat)≠2 by decide)];rfl
   ·refine HeadH.toK _ (zb7 (a:=.dead) (c:=none) tabOk rfl (fun _ _ _ h=>h) (fun L hL hq=>?_) trivial rfl);have h11:=hq 11 (by kernel_rfl);simp only [z4s h11,z1q (show(12:Nat)≠11 by decide),z27 (show(12:Nat)≠5 by decide),z27 (show(12:Nat)≠2 by decide)];rfl
   ·refine HeadH.toK _ (z5a tabOk rfl (fun _ _ _ h=>h) (fun L=>rfl) (fun L=>?_) rfl rfl rfl);simp only [z1q (show(13:Nat)≠11 by decide),z27 (show(13:Nat)≠5 by decide),z27 (show(13:Nat)≠2 by decide)]
  have hwc:IntKind.i64.wrap cut=cut:=z7 (by omega) (by omega);obtain⟨k,hk,hkl⟩:∃k:Nat,(IntKind.i64.wrap cut).tmod (((⟨T.toArray⟩:ByteArray).size:Nat):Int)=(k:Int)∧k<T.length:=by
   rw [z4j,hwc,Int.tmod_eq_emod_of_nonneg hcu.1];have h4:=Int.emod_nonneg cut (show((T.length:Nat):Int)≠0 by omega);have h5:=Int.emod_lt_of_pos cut (show(0:Int)<((T.length:Nat):Int)by omega);exact⟨(cut%(T.length:Int)).toNat,by omega,by omega⟩
  refine yX 12 Tryz.func6 rfl ⟨by rw [z4j];omega,trivial⟩ ?_;refine zt (env':=[(3,.ptr 1 0),(8,vB true),(9,vTx T),(14,vI .i64 (T.length:Int)),(15,vI .i64 2),(16,vI .i64 (k:Int))]) (objs':=[none,some (bBt l),none,none,none,none]) ?_ hC hCl ⟨⟨_,rfl,.refl _⟩,⟨_,rfl,.refl _⟩,⟨_,rfl,.refl _⟩,⟨_,rfl,.refl _⟩,⟨_,rfl,.refl _⟩,⟨_,rfl,.of (congrArg (fun z=>vI .i64 z) hk)⟩,trivial⟩ ⟨.refl _,trivial⟩ rfl rfl (Nat.zero_le _);obtain⟨x,e,hp,x0,x1,he⟩:=hcutW k hkl;obtain⟨bs,hbs,hbx⟩:∃bs:List UInt8,bs=T.take k∧(⟨T.toArray⟩:ByteArray).extract (Int.toNat 0) ((k:Int)).toNat=⟨bs.toArray⟩:=by
   refine⟨_,rfl,?_⟩;rw [exBy,Int.toNat_natCast,show(Int.toNat 0)=0 from rfl,List.drop_zero]
  have hbl:bs.length≤100000:=by
   rw [hbs,List.length_take];omega
  have q2:=z7c l hm ty bs (by omega);rw [show wtP (shL l) bs=.inl (x,e)by rw [hbs];exact hp]at q2;refine zc4 13 10 11 (c:=none) (a:=.dead) (o2:=zWtO) tabOk Tryz.func6 rfl rfl trivial (by kernel_rfl) (by kernel_rfl) rfl rfl rfl (by kernel_rfl) (by omega) rfl rfl rfl rfl rfl rfl
   (fun _=>by
    refine ds_ok tabOk rfl rfl rfl rfl rfl ?_;refine ds_ok tabOk rfl rfl rfl rfl rfl ?_;refine ds_ok tabOk rfl rfl rfl rfl rfl ?_;refine zfq tabOk rfl rfl rfl rfl ?nd rfl ?_;case nd=>
     rw [z4j];exact⟨by omega,by omega,by omega⟩
    refine zsk (bs:=bs) tabOk rfl rfl rfl rfl (congrArg (fun z=>some (AV.d (D.v (Value.string z)))) hbx) rfl rfl rfl rfl rfl rfl (by omega) rfl ?_;refine yQ Tryz.func21 rfl trivial q2 (.refl _) ?_;exact yq rfl trivial rfl)
   (by rfl) (by rfl) (by rfl) (by rfl) trivial ?_
  refine yT Tryz.func6 rfl trivial ?_;refine yT Tryz.func6 rfl trivial ?_;refine yB Tryz.func6 rfl trivial (fun h5=>?_) (fun h5=>?_);rotate_left
  ·have h5:((T.length:Int)==(((⟨T.toArray⟩:ByteArray).size:Nat):Int))=false:=h5;rw [z4j,beq_self_eq_true]at h5;cases h5
  refine yB Tryz.func6 rfl trivial (fun h6=>?_) (fun h6=>?_);rotate_left
  ·have h6:(e !=0)=false:=h6;rw [bne_eq_false_iff_eq]at h6;omega
  refine yB Tryz.func6 rfl trivial (fun h7=>?_) (fun h7=>?_);rotate_left
  ·have h7:decide (x≤(k:Int))=false:=h7;rw [decide_eq_false_iff_not]at h7;omega
  refine yR Tryz.func6 rfl trivial ?_;show vB (decide (x≥0))=_;rw [decide_eq_true (show x≥0 by omega)]
end Go.Proofs.YtbodbhpdelgpnaaGreatDoor
