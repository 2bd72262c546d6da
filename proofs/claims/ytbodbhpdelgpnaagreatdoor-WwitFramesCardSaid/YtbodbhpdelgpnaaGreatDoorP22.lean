/- A part of the proof. -/
import Derived.Test.YtbodbhpdelgpnaaGreatDoorP21
import Derived.Lib.ConvBytes
import Derived.Lib.SlBytesConst
set_option linter.unusedVariables false
set_option linter.unusedSimpArgs false
set_option linter.unusedSectionVars false
set_option maxRecDepth 100000
set_option maxHeartbeats 8000000
namespace Ab
open Go
variable [Draws]
section
variable {P:Program}[Globals P]{T:Tab}{f:FuncId}{n:Nat}{C:Cx}{R:AV→List (Option AObj)→Prop}{env:Env}{objs:List (Option AObj)}{ops:Array Oper}
theorem zob{i:Nat}{r:List Nat}{k:List Item}{o:Oper}{e2:Env}{src dst e:TypeId}{rs rd re:TRow}{xo:Operand}{bs:List UInt8}(hT:TabOk P T)(ho:ops[i]?=some o)(hw:wantE ops env o=.yes)(hop:o.op=.convert src dst xo)(hx:opnd env xo=some (.d (.v (.string ⟨bs.toArray⟩))))
  (hrs:tlook T src=some rs) (hks:rs.kd=.str) (hrd:tlook T dst=some rd) (hkd:rd.kd=.slice e) (hre:tlook T e=some re) (h8:re.kd=.int .u8) (hlen:bs.length≤1000000000)
  (hput:putE n o.dst (.gs objs.length) env=some e2) (h:ASat P f n C (.inRegion ops r::k) e2 (objs++[some (gL e 1 eU8 0 bs)]) R):ASat P f n C (.inRegion ops (i::r)::k) env objs R:=by
 refine z9z ⟨none,false,.gs objs.length,none,objs++[some (gL e 1 eU8 0 bs)]⟩ ho hw (fun X π w tmps m he _=>?_) trivial hput h;have hax:=z5j (P:=P) he hx;have hs:=z5e hT hrs hks;have hd:=z1d hT hrd hkd;have heU:=z9h hT hre h8;have hrun:=Go.Lib.run_convert_string_bytes (P:=P) w src dst e ⟨bs.toArray⟩ hs hd heU;have hsize:(⟨bs.toArray⟩:ByteArray).size=bs.length:=by simp [ByteArray.size]
 have hml:maxLen=9223372036854775807:=rfl;rw [hsize]at hrun;have hcell:=Go.Lib.bytesWorld_cell w e ⟨bs.toArray⟩;have hold:∀b,b<w.heap.size→(Go.Lib.bytesWorld w e ⟨bs.toArray⟩).heap[b]?=w.heap[b]?:=fun b hb=>Go.Lib.bytesWorld_at_old w e _ b hb
 have hnew:=Go.Lib.bytesWorld_at_new w e ⟨bs.toArray⟩;have hhs:=Go.Lib.bytesWorld_size w e ⟨bs.toArray⟩;have hout:(Go.Lib.bytesWorld w e ⟨bs.toArray⟩).os=w.os∧(Go.Lib.bytesWorld w e ⟨bs.toArray⟩).tape=w.tape∧(Go.Lib.bytesWorld w e ⟨bs.toArray⟩).output=w.output∧w.drawn≤(Go.Lib.bytesWorld w e ⟨bs.toArray⟩).drawn:=by
  unfold Go.Lib.bytesWorld World.freeze;rw [if_neg (by decide)];exact⟨rfl,rfl,rfl,Nat.le_succ _⟩
 have hc1:=grownCap_ge w bs.length 0 e;have hc2:=grownCap_le_maxLen w bs.length 0 e (by omega);have hclen:(Go.Lib.bytesCells w e ⟨bs.toArray⟩).size=grownCap w bs.length 0 e:=by
  simp only [Go.Lib.bytesCells,hsize,Array.size_append,Array.size_map,List.size_toArray,Array.size_replicate];omega
 generalize grownCap w bs.length 0 e=c at hc1 hc2 hclen hrun;generalize Go.Lib.bytesCells w e ⟨bs.toArray⟩=BC at hnew hclen;generalize Go.Lib.bytesWorld w e ⟨bs.toArray⟩=W at *;obtain⟨BC⟩:=BC;simp only [List.size_toArray]at hclen hnew;have hh':∀b,blk (.slice (some ⟨w.heap.size,0,none⟩) bs.length c)=some b→w.heap.size≤b:=by
  intro b hb;cases c<;>cases hb;exact Nat.le_refl _
 refine⟨.slice (some ⟨w.heap.size,0,none⟩) bs.length c,W,π++[.slice (some ⟨w.heap.size,0,none⟩) bs.length c],?_,z4p m hout.1 hout.2.1 ⟨hout.2.2.1,z17 hout.2.2.2⟩ (by rw [hhs];omega) hold _ (gL e 1 eU8 0 bs) hh' ?_,fun _=>.gs (z5h m.len _)⟩
 ·unfold execOp;rw [hop];simp only [Sem.run_bind,hax,hrun,Result.andThen_ok,Sem.run_pure];rfl
 ·cases c with
  | zero=>
   obtain rfl:bs=[]:=List.eq_nil_of_length_eq_zero (by omega);exact .gnil
  | succ c=>
   have hls:(bs.map fun b=>Value.int .u8 (b.toNat:Int)).length=bs.length:=by simp
   have hk:=z6r (X:=X) (π:=π) (objs:=objs) hold (.slice (some ⟨w.heap.size,0,none⟩) bs.length (c+1)) (gL e 1 eU8 0 bs) m.len hh';have:=RelO.grow (w:=W) (ok:=okOf X (π++[.slice (some ⟨w.heap.size,0,none⟩) bs.length (c+1)]) (objs++[some (gL e 1 eU8 0 bs)])) (π:=π++[.slice (some ⟨w.heap.size,0,none⟩) bs.length (c+1)]) (e:=e) (s:=1) (b:=w.heap.size) (o:=0) (c:=c) (xs:=bs.map eU8) (us:=bs.map fun b=>Value.int .u8 (b.toNat:Int))
    (vs:=BC) (rd:=fun i=>eU8 (bs.getD i 0)) (fz:=(BC.length,BC.length+1)) hnew (fun q hq=>by omega) (z9u bs) (fun q hq=>?_) (by rw [List.length_map];exact hc1) hc2 (by omega) (z5t eU8 0 bs)
   ·rw [List.length_map]at this;exact this
   ·rw [hls]at hq;have h1:=hcell q (by rw [hsize];exact hq);have h2:=cell_of_heap (i:=q) hnew;rw [h2]at h1;rw [Nat.zero_add,h1];simp [hq,List.getD_eq_getElem?_getD]
end
end Ab
namespace Go.Proofs.YtbodbhpdelgpnaaGreatDoor
open Go Ab Go.RowKit
def exm:List Nd:=[⟨kSort,0,[],[2],[]⟩,⟨zy,1,[],[],[]⟩,⟨kSort,0,[],[1],[]⟩,⟨z2j,3,[2],[],[]⟩,⟨kBad,0,[4],[],[]⟩]
theorem zay:Ty exm:=by
 refine⟨by decide,?_,⟨?_,?_⟩⟩
 ·intro j hj
  match j,hj with
  | 0,_=>exact⟨by decide,by decide,by decide,by decide,by decide,by decide,by decide,by decide⟩
  | 1,_=>exact⟨by decide,by decide,by decide,by decide,by decide,by decide,by decide,by decide⟩
  | 2,_=>exact⟨by decide,by decide,by decide,by decide,by decide,by decide,by decide,by decide⟩
  | 3,_=>exact⟨by decide,by decide,by decide,by decide,by decide,by decide,by decide,by decide⟩
  | 4,_=>exact⟨by decide,by decide,by decide,by decide,by decide,by decide,by decide,by decide⟩
  | n+5,h=>exact absurd h (by show ¬n+5<5;omega)
 ·have sr:∀j,j<5→0<(nd exm j).s→SortAt exm (nd exm j):=by
   intro j hj
   match j,hj with
   | 0,_=>exact fun h=>absurd h (by decide)
   | 1,_=>exact fun _=>⟨by decide,by decide,rfl,by decide⟩
   | 2,_=>exact fun h=>absurd h (by decide)
   | 3,_=>exact fun _=>⟨by decide,by decide,rfl,by decide⟩
   | 4,_=>exact fun h=>absurd h (by decide)
   | n+5,h=>exact absurd h (by omega)
  have hd:∀j,j<5→AskOk exm j (nd exm j):=by
   intro j hj
   match j,hj with
   | 0,_=>refine⟨?_,?_,?_,?_,?_,?_,?_,?_,?_,?_,?_⟩<;>first|decide|(unfold sameP;decide)|(intro h;exact absurd h (by decide))
   | 1,_=>refine⟨?_,?_,?_,?_,?_,?_,?_,?_,?_,?_,?_⟩<;>first|decide|(unfold sameP;decide)|(intro h;exact absurd h (by decide))
   | 2,_=>refine⟨?_,?_,?_,?_,?_,?_,?_,?_,?_,?_,?_⟩<;>first|decide|(unfold sameP;decide)|(intro h;exact absurd h (by decide))
   | 3,_=>refine⟨?_,?_,?_,?_,?_,?_,?_,?_,?_,?_,?_⟩<;>first|decide|(unfold sameP;decide)|(intro h;exact absurd h (by decide))
   | 4,_=>refine⟨?_,?_,?_,?_,?_,?_,?_,?_,?_,?_,?_⟩<;>first|decide|(unfold sameP;decide)|(intro h;exact absurd h (by decide))
   | n+5,h=>exact absurd h (by omega)
  intro j hj;have hj:j<5:=hj;refine⟨sr j hj,?_,?_,hd j hj⟩
  ·match j,hj with
   | 0,_=>decide
   | 1,_=>decide
   | 2,_=>decide
   | 3,_=>decide
   | 4,_=>decide
   | n+5,h=>exact absurd h (by omega)
  ·match j,hj with
   | 0,_=>decide
   | 1,_=>decide
   | 2,_=>decide
   | 3,_=>decide
   | 4,_=>decide
   | n+5,h=>exact absurd h (by omega)
 ·intro j hj;have hj:j<5:=hj
  match j,hj with
  | 0,_=>exact fun h=>absurd h (by decide)
  | 1,_=>exact fun h=>absurd h (by decide)
  | 2,_=>exact fun h=>absurd h (by decide)
  | 3,_=>exact fun h=>absurd h (by decide)
  | 4,_=>exact fun h=>absurd h (by decide)
  | n+5,h=>exact absurd h (by omega)
theorem zc9:MdB exm:=by
 refine⟨by decide,?_⟩;intro x hx;simp only [exm,List.mem_cons,List.not_mem_nil,or_false]at hx;rcases hx with rfl|rfl|rfl|rfl|rfl<;>exact⟨by decide,by decide,by decide,by decide⟩
def exT(s:List UInt8):Wt:=⟨0,[],[[s]]⟩
def exR:List UInt8:=[115,97,116,10,98,48,10,35,48,10,64,48,10,48,32,49,120,10,46,10]
theorem ex_sm(s:List UInt8)(h:s.length≤200):SmW (exT s) 1000:=by
 refine⟨by show 1≤1000;decide,by show 0≤40;decide,fun s hs=>(by cases hs),fun l hl=>?_⟩;obtain rfl:=List.mem_singleton.1 hl;refine⟨by show 1≤40;decide,fun x hx=>?_⟩;obtain rfl:=List.mem_singleton.1 hx;exact h
theorem itoa0:tItoa 0=[48]:=by
 rw [show(0:Int)=((0:Nat):Int)from rfl,show tItoa ((0:Nat):Int)=Go.Lib.decDigits 0 from Go.Lib.itoa_nonneg 0,Go.Lib.decDigits];rfl
theorem ex_r:z1v (shL exm) (exT [49,120])=true:=by decide
theorem ex_t:wtT (exT [49,120])=exR:=by
 simp only [wtT,exT,z1j,z2e,z78,rowT,itoa0,show tItoa ((0:Nat):Int)=[48]from itoa0];rfl
theorem ex_p:prW (shL exm) (exT [49,120])=tupOf [vTx exR,vI .i64 0]:=by
 unfold prW;rw [if_pos ex_r,ex_t]
theorem zp9:wtP (shL exm) exR=.inr (exT [49,120],20):=by
 have:=znx (sh_in zay).2 (by decide) ex_r (by rw [ex_t];decide);rw [ex_t]at this;exact this
theorem ex_w1:ze0 exm (exT [49,48])=0:=by decide
theorem ex_w2:ze0 exm (exT [48,48])=8:=by decide
theorem ex_w3:ze0 exm (exT [49,120])=7:=by decide
theorem zqj:totB (exT [49,120])=false∧totB (exT [49,48])=true:=by decide
theorem zt8{α:Type}{s:Nat}{e:α→D}{d:α}:DLe (.v (.slice none 0 0)) (eL s e d []):=fun _ _ _ h=>by cases h with|v _=>exact .nil (Nat.zero_le _)
theorem z5w(s:List UInt8):VLe (.d (.ag [.v (.int .i64 0),.v (.slice none 0 0),.sl 1 [.sl 1 [dSL s] (litRd [dSL s])] (litRd [.sl 1 [dSL s] (litRd [dSL s])])])) (.d (eWt (exT s))):=by
 refine VLe.dag ⟨.refl _,zt8,dleS (ys:=[[s]].map eSs) ⟨CLe.sl (CLes.refl _) (z5t dSL [] [s]),trivial⟩ (z5t eSs [] [[s]]),trivial⟩
@[reducible] def rdN(op:List UInt8)(s:Int)(a n:D):D:=.ag [dSL op,eI s,a,n,dSL []]
@[reducible] def sl1(x:Int):D:=.sl 1 [eI x] (litRd [eI x])
@[reducible] def exD:List D:=[rdN kSort 0 nilD (sl1 2),rdN zy 1 nilD nilD,rdN kSort 0 nilD (sl1 1),rdN z2j 3 (sl1 2) nilD,rdN kBad 0 (sl1 4) nilD]
theorem z8e:VLe (.d (.ag [.sl 5 exD (litRd exD)])) (.d (eBt exm)):=by
 refine VLe.dag ⟨dleS (ys:=exm.map eNd) ?_ (z5t eNd default exm),trivial⟩;exact⟨cleA ⟨.refl _,.refl _,dleN,dleI [2],.refl _,trivial⟩,cleA ⟨.refl _,.refl _,dleN,dleN,.refl _,trivial⟩,cleA ⟨.refl _,.refl _,dleN,dleI [1],.refl _,trivial⟩,cleA ⟨.refl _,.refl _,dleI [2],dleN,.refl _,trivial⟩,cleA ⟨.refl _,.refl _,dleI [4],dleN,.refl _,trivial⟩,trivial⟩
theorem zee:ACall Tryz.prog 8 [] [] (fun r o=>r=vB true):=by
 refine yN Tryz.func8 fun C hC hCl hDs hGk=>?_;have c1:=zfr exm zc9 zay (exT [49,120]) (ex_sm _ (by decide));rw [ex_p]at c1;have c2:=zfs exm zc9 zay exR (by decide);rw [zp9]at c2;have c3:=z35 exm zc9 zay (exT [49,120]) (fun s hs=>by cases hs) (fun f hf s hs=>by obtain rfl:=List.mem_singleton.1 hf;obtain rfl:=List.mem_singleton.1 hs;decide);rw [ex_r]at c3;have c4:=z40 (exT [49,120]) (by decide);rw [zqj.1]at c4;have c5:=z40 (exT [49,48]) (by decide);rw [zqj.2]at c5;have c6:=z8s exm zc9 zay (exT [49,48]) (ex_sm _ (by decide));rw [ex_w1]at c6;have c7:=z8s exm zc9 zay (exT [48,48]) (ex_sm _ (by decide));rw [ex_w2]at c7;have c8:=z8s exm zc9 zay (exT [49,120]) (ex_sm _ (by decide));rw [ex_w3]at c8;refine yV Tryz.func8 rfl trivial c1 ⟨z8e,z5w _,trivial⟩ ?_;refine yX 60 Tryz.func8 rfl trivial ?_;refine zob (bs:=exR) tabOk rfl rfl rfl rfl rfl rfl rfl rfl rfl rfl (by decide) rfl ?_;refine zj 2 rfl ?_;refine yV Tryz.func8 rfl trivial c2 ⟨z8e,VLe.eL rfl,trivial⟩ ?_;refine yT Tryz.func8 rfl trivial ?_;refine yT Tryz.func8 rfl trivial ?_;refine yB Tryz.func8 rfl trivial (fun _=>?_) (fun h=>?_);rotate_left
 ·have h:((⟨exR.toArray⟩:ByteArray).toList==(⟨exR.toArray⟩:ByteArray).toList)=false:=h;rw [strEq,decide_eq_true rfl]at h;cases h
 refine yB Tryz.func8 rfl trivial (fun _=>?_) (fun h=>absurd h (by decide));refine yV Tryz.func8 rfl trivial (zip (exT [49,120]) (exT [49,120])) ⟨z5w _,.refl _,trivial⟩ ?_;rw [zkt.2 rfl];refine yT Tryz.func8 rfl trivial ?_;refine yV Tryz.func8 rfl trivial c3 ⟨z8e,z5w _,trivial⟩ ?_;refine yT Tryz.func8 rfl trivial ?_;refine yV Tryz.func8 rfl trivial c4 ⟨z5w _,trivial⟩ ?_;refine yT Tryz.func8 rfl trivial ?_;refine yV Tryz.func8 rfl trivial c5 ⟨z5w _,trivial⟩ ?_;refine yT Tryz.func8 rfl trivial ?_;refine yV Tryz.func8 rfl trivial c6 ⟨z8e,z5w _,trivial⟩ ?_;refine yT Tryz.func8 rfl trivial ?_;refine yV Tryz.func8 rfl trivial c7 ⟨z8e,z5w _,trivial⟩ ?_;refine yT Tryz.func8 rfl trivial ?_;refine yV Tryz.func8 rfl trivial c8 ⟨z8e,z5w _,trivial⟩ ?_;exact yR Tryz.func8 rfl trivial rfl
theorem u8eq(c:UInt8)(n:Nat)(hn:n<256):((c.toNat:Int)==(n:Int))=(c==UInt8.ofNat n):=by
 rw [Bool.eq_iff_iff,beq_iff_eq,beq_iff_eq,←UInt8.toNat_inj,UInt8.toNat_ofNat',Nat.mod_eq_of_lt hn];omega
theorem zpu(c:UInt8):ACall Tryz.prog 95 [.d (eU8 c)] [] (fun r o=>r=vB (isB c)):=by
 refine yN Tryz.func95 fun C hC hCl hDs hGk=>?_;have e1:=u8eq c 48 (by decide);have e2:=u8eq c 49 (by decide);have e3:=u8eq c 120 (by decide);refine yB Tryz.func95 rfl trivial (fun h=>?_) (fun h=>?_)
 ·have h:((c.toNat:Int)==((48:Nat):Int))=true:=h;rw [e1]at h;repeat refine yT Tryz.func95 rfl trivial ?_
  refine yR Tryz.func95 rfl trivial ?_;unfold isB;rw [show(c==48)=true from h];rfl
 have h:((c.toNat:Int)==((48:Nat):Int))=false:=h;rw [e1]at h;refine yB Tryz.func95 rfl trivial (fun h2=>?_) (fun h2=>?_)
 ·have h2:((c.toNat:Int)==((49:Nat):Int))=true:=h2;rw [e2]at h2;refine yR Tryz.func95 rfl trivial ?_;unfold isB;rw [show(c==49)=true from h2,Bool.or_true];rfl
 have h2:((c.toNat:Int)==((49:Nat):Int))=false:=h2;rw [e2]at h2;refine yR Tryz.func95 rfl trivial ?_;show vB ((c.toNat:Int)==((120:Nat):Int))=_;rw [e3];unfold isB;rw [show(c==48)=false from h,show(c==49)=false from h2];rfl
theorem zl1(s:List UInt8)(w:Int)(hl:s.length≤1000000000):ACall Tryz.prog 67 [vSL s,vI .i64 w] [] (fun r o=>r=vB (rowB s w)):=by
 refine yN Tryz.func67 fun C hC hCl hDs hGk=>?_;refine yS Tryz.func67 rfl trivial ?_;refine z8 (α:=Nat) (fun i=>[(0,vSL s),(1,vI .i64 w),(5,vI .i64 (i:Int))]) (fun _=>[]) (fun i=>i≤s.length∧∀q,q<i→isB (s.getD q 0)=true) (fun i=>s.length-i) 0 ⟨Nat.zero_le _,fun q hq=>by omega⟩ ?_ ?_
 ·exact fun h=>yE h (eAl rfl) trivial
 rintro i ⟨hi,hc⟩ ih;refine yB Tryz.func67 rfl trivial (fun hb=>?_) (fun hb=>?_)
 ·have hb:decide ((i:Int)<(((⟨s.toArray⟩:ByteArray).size:Nat):Int))=true:=hb;rw [zp,decide_eq_true_eq]at hb;have hlt:i<s.length:=by omega
  refine yV Tryz.func67 rfl ?_ (zpu (s.getD i 0)) ⟨.of ?_,trivial⟩ ?_
  ·show(0≤(i:Int)∧(i:Int)<(((⟨s.toArray⟩:ByteArray).size:Nat):Int))∧True;rw [zp];exact⟨⟨by omega,by omega⟩,trivial⟩
  ·show vI .u8 (bt ⟨s.toArray⟩ (i:Int).toNat)=_;rw [Int.toNat_natCast,zo];rfl
  cases hbit:isB (s.getD i 0)with
  | false=>
   refine yT Tryz.func67 rfl trivial ?_;refine yR Tryz.func67 rfl trivial ?_;have:s.all isB=false:=List.all_eq_false.2 ⟨_,z2v hlt,by rw [hbit];decide⟩;unfold rowB;rw [this,Bool.and_false];rfl
  | true=>
   refine yF Tryz.func67 rfl trivial ?_;refine yS Tryz.func67 rfl trivial ?_;refine yE (ih (i+1) ⟨by omega,fun q hq=>?_⟩ (by omega)) ⟨erl rfl,erl rfl,erw rfl,trivial⟩ trivial;rcases Nat.lt_or_ge q i with h|h
   ·exact hc q h
   ·obtain rfl:q=i:=by omega
    exact hbit
 ·have hb:decide ((i:Int)<(((⟨s.toArray⟩:ByteArray).size:Nat):Int))=false:=hb;rw [zp,decide_eq_false_iff_not]at hb;obtain rfl:i=s.length:=by omega
  refine yR Tryz.func67 rfl trivial ?_;show vB ((((⟨s.toArray⟩:ByteArray).size:Nat):Int)==w)=_;have:s.all isB=true:=by
   rw [List.all_eq_true];intro c hcm;obtain⟨q,hq,rfl⟩:=List.getElem_of_mem hcm;have:=hc q hq;rwa [z5o hq]at this
  unfold rowB;rw [zp,this,Bool.and_true];congr 3
theorem zbv(l:List Nd)(hm:MdB l)(ty:Ty l)(op:List UInt8)(ho:isVal op=true)(f:List (List UInt8))(hs:∀s∈f,s.length≤1000000000)(hfl:f.length≤1000000000)(ws:List (Int×List UInt8))(hw:ws.map (·.1)=(allL l op l.length).map fun s=>wdN l (ln l s)):ACall Tryz.prog 34 [.d (eBt l),vSL op,.d (eSs f)] [] (fun r o=>r=vB (rowsB f ws)):=by
 refine yN Tryz.func34 fun C hC hCl hDs hGk=>?_;have hl:=ty.small;have hall:=@zim l ty op ho;have hq:=@z4z f ws;have hwl:ws.length=(allL l op l.length).length:=by
  have:=congrArg List.length hw;simpa using this
 rw [hw,hwl]at hq;refine yV Tryz.func34 rfl trivial (z74 l op hl) (.refl _) ?_;have hal:=z23 l op l.length;generalize allL l op l.length=al at *;generalize rowsB f ws=res at *;have no:¬(f.length=al.length∧∀j,j<f.length→rowB (f.getD j []) ((al.map fun s=>wdN l (ln l s)).getD j 0)=true)→vB false=vB res:=fun h=>by
  cases res with
  | false=>rfl
  | true=>exact absurd (hq.1 rfl) h
 refine yB Tryz.func34 rfl trivial (fun h=>?_) (fun h=>?_)
 ·have h:(((al.map eI).length:Int) !=((f.map dSL).length:Int))=true:=h;refine yR Tryz.func34 rfl trivial (no fun hh=>?_);simp [hh.1]at h
 have h:(((al.map eI).length:Int) !=((f.map dSL).length:Int))=false:=h;have hlen:f.length=al.length:=by simp at h;omega
 refine yS Tryz.func34 rfl trivial ?_;refine z8 (α:=Nat) (fun i=>[(2,.d (eSs f)),(3,.ptr 0 0),(7,.d (eIs al)),(8,vI .i64 (i:Int))]) (fun i=>[some (bBt l)]) (fun i=>i≤f.length∧∀j,j<i→rowB (f.getD j []) ((al.map fun s=>wdN l (ln l s)).getD j 0)=true) (fun i=>f.length-i) 0 ⟨Nat.zero_le _,fun q hq=>by omega⟩ ?_ ?_
 ·exact fun h=>yE h (eAl rfl) (oAl rfl)
 rintro i ⟨hi,hc⟩ ih;refine yB Tryz.func34 rfl trivial (fun hb=>?_) (fun hb=>?_)<;>simp only [List.length_map,decide_eq_true_eq,decide_eq_false_iff_not]at hb
 ·have hlt:i<f.length:=by omega
  have hlt2:i<al.length:=by omega
  have ha:=hall hlt2;have e1:IntKind.i64.wrap (al.getD i 0-1)=al.getD i 0-1:=z7 (by omega) (by omega);have hS:=(val_s ty (j:=(al.getD i 0-1).toNat) (by omega) ha.2.2).2;have eg:(al.map fun s=>wdN l (ln l s)).getD i 0=wdN l (ln l (al.getD i 0)):=by simp [hlt2]
  refine yO 15 Tryz.func34 rfl trivial ?_;refine yQ Tryz.func68 rfl ?_ (z8d l (ln l (al.getD i 0)) hS.lo hS.hi hS.n (Nat.le_of_lt ty.lt)) ⟨.refl _,.of ?_,trivial⟩ ?_
  ·simp only [Int.toNat_natCast,e1,List.length_map];exact⟨⟨by omega,by omega⟩,⟨by omega,by omega⟩,⟨by omega,by omega⟩,trivial⟩
  ·show AV.d (eNd (l.getD (IntKind.i64.wrap (al.getD i 0-1)).toNat default))=_;rw [e1]
  refine yq rfl trivial ?_;refine yV Tryz.func34 rfl trivial (zl1 (f.getD i []) (wdN l (ln l (al.getD i 0))) (hs _ (z2v hlt))) (.refl _) ?_;cases hr:rowB (f.getD i []) (wdN l (ln l (al.getD i 0)))with
  | false=>
   refine yT Tryz.func34 rfl trivial ?_;refine yR Tryz.func34 rfl trivial (no fun hh=>?_);have:=hh.2 i hlt;rw [eg,hr]at this;cases this
  | true=>
   refine yF Tryz.func34 rfl trivial ?_;refine yS Tryz.func34 rfl trivial ?_;refine yE (ih (i+1) ⟨by omega,fun j hj=>?_⟩ (by omega)) ⟨erl rfl,erl rfl,erl rfl,erw rfl,trivial⟩ (oAl rfl);rcases Nat.lt_or_ge j i with h|h
   ·exact hc j h
   ·obtain rfl:j=i:=by omega
    rw [eg];exact hr
 ·obtain rfl:i=f.length:=by omega
  refine yR Tryz.func34 rfl trivial ?_;rw [hq.2 ⟨hlen,hc⟩];rfl
theorem zgc(l:List Nd)(hm:MdB l)(ty:Ty l)(s:Int):ACall Tryz.prog 35 [.d (eBt l),vI .i64 s] [] (fun r o=>r=vSL (z1w l s)):=by
 refine yN Tryz.func35 fun C hC hCl hDs hGk=>?_;refine yV Tryz.func35 rfl trivial (zln l kInit s ty.small (zlk ty (.inl rfl))) (.refl _) ?_;unfold z1w;cases hj:ofJ l kInit s with
 | none=>
  refine yT Tryz.func35 rfl trivial ?_;exact yR Tryz.func35 rfl trivial rfl
 | some j=>
  refine yF Tryz.func35 rfl trivial ?_;obtain⟨o1,o2,o3,o4,o5⟩:=zd8 ty (.inl rfl) hj;have hl:=ty.small;have ew:IntKind.i64.wrap (ofV l kInit s-1)=ofV l kInit s-1:=z7 (by omega) (by omega);refine yR Tryz.func35 rfl ?_ ?_
  ·rw [ew,List.length_map];exact⟨⟨by omega,by omega⟩,trivial⟩
  ·show vSL (l.getD (IntKind.i64.wrap (ofV l kInit s-1)).toNat default).t=vSL (l.getD (ofV l kInit s-1).toNat default).t;rw [ew]
theorem zr5(l:List Nd):(shL l).st.map (·.1)=(allL l ze l.length).map fun s=>wdN l (ln l s):=by
 unfold shL;rw [List.map_map];rfl
theorem zr4(l:List Nd):(shL l).st.map (·.2)=(allL l ze l.length).map (z1w l):=by
 unfold shL;rw [List.map_map];rfl
theorem zs1(l:List Nd):(shL l).inw.map (·.1)=(allL l zy l.length).map fun s=>wdN l (ln l s):=by
 unfold shL;rw [List.map_map];rfl
theorem SmW.rows{t:Wt}{n:Nat}(sm:SmW t n):(∀s∈t.init,s.length≤1000000000)∧∀f∈t.ins,f.length≤1000000000∧∀s∈f,s.length≤1000000000:=
 ⟨fun s hs=>by have:=sm.r s hs;omega,fun f hf=>⟨by have:=(sm.l f hf).1;omega,fun s hs=>by have:=(sm.l f hf).2 s hs;omega⟩⟩
theorem zd0(l:List Nd)(hm:MdB l)(ty:Ty l)(t:Wt)(sm:SmW t 1000):ACall Tryz.prog 14 [.d (eBt l),.d (eWt t)] [] (fun r o=>r=vB (z1v (shL l) t)):=by
 refine yN Tryz.func14 fun C hC hCl hDs hGk=>?_;have hl:=ty.small;obtain⟨sr,si⟩:=sm.rows;have sn:=sm.n;refine yV Tryz.func14 rfl trivial (zbv l hm ty ze rfl t.init sr (by have:=sm.i;omega) (shL l).st (zr5 l)) (.refl _) ?_;have hq:=@z1e (shL l) t;have hbd:(shL l).bads=((allL l kBad l.length).length:Int):=rfl;have no:¬((0≤t.bad∧t.bad<(shL l).bads∧1≤t.ins.length∧t.ins.length≤200)∧rowsB t.init (shL l).st=true∧z4m t.init (shL l).st=true∧∀f∈t.ins,rowsB f (shL l).inw=true)→vB false=vB (z1v (shL l) t):=fun hn=>by
  cases hr:z1v (shL l) t with
  | false=>rfl
  | true=>exact absurd (hq.1 hr) hn
 cases hr:rowsB t.init (shL l).st with
 | false=>
  rw [hr]at no;refine yO 13 Tryz.func14 rfl trivial ?_;refine yb rfl trivial (fun _=>?_) (fun hx=>by cases hx);refine yb rfl trivial (fun _=>?_) (fun hx=>by cases hx);refine yq rfl trivial ?_;repeat refine yT Tryz.func14 rfl trivial ?_
  exact yR Tryz.func14 rfl trivial (no fun hh=>by cases hh.2.1)
 | true=>
  refine yO 13 Tryz.func14 rfl trivial ?_;refine yb rfl trivial (fun hx=>by cases hx) (fun _=>?_);refine yb rfl trivial (fun h1=>?_) (fun h1=>?_)
  ·have h1:decide (t.bad<0)=true:=h1;rw [decide_eq_true_eq]at h1;refine yq rfl trivial ?_;repeat refine yT Tryz.func14 rfl trivial ?_
   exact yR Tryz.func14 rfl trivial (no fun hh=>by omega)
  have h1:decide (t.bad<0)=false:=h1;rw [decide_eq_false_iff_not]at h1;refine yQ Tryz.func22 rfl trivial (z74 l kBad hl) (.refl _) ?_;refine yq rfl trivial ?_;refine yB Tryz.func14 rfl trivial (fun h2=>?_) (fun h2=>?_)
  ·have h2:decide (t.bad≥((((allL l kBad l.length).map eI).length:Nat):Int))=true:=h2;rw [decide_eq_true_eq,List.length_map]at h2;repeat refine yT Tryz.func14 rfl trivial ?_
   exact yR Tryz.func14 rfl trivial (no fun hh=>by rw [hbd]at hh;omega)
  have h2:decide (t.bad≥((((allL l kBad l.length).map eI).length:Nat):Int))=false:=h2;rw [decide_eq_false_iff_not,List.length_map]at h2;refine yB Tryz.func14 rfl trivial (fun h3=>?_) (fun h3=>?_)
  ·have h3:decide (((t.ins.map eSs).length:Int)<1)=true:=h3;rw [decide_eq_true_eq,List.length_map]at h3;repeat refine yT Tryz.func14 rfl trivial ?_
   exact yR Tryz.func14 rfl trivial (no fun hh=>by omega)
  have h3:decide (((t.ins.map eSs).length:Int)<1)=false:=h3;rw [decide_eq_false_iff_not,List.length_map]at h3;refine yB Tryz.func14 rfl trivial (fun h4=>?_) (fun h4=>?_)
  ·have h4:decide (((t.ins.map eSs).length:Int)>200)=true:=h4;rw [decide_eq_true_eq,List.length_map]at h4;exact yR Tryz.func14 rfl trivial (no fun hh=>by omega)
  have h4:decide (((t.ins.map eSs).length:Int)>200)=false:=h4;rw [decide_eq_false_iff_not,List.length_map]at h4;refine yV Tryz.func14 rfl trivial (z74 l ze hl) (.refl _) ?_;have hlen:=(z4z.1 hr).1;have hstl:(shL l).st.length=(allL l ze l.length).length:=by
   unfold shL;rw [List.length_map]
  have hf:=z8p hlen;rw [zr4,hstl]at hf;rw [hstl]at hlen;have hal:=z23 l ze l.length;generalize hA:allL l ze l.length=al at *;refine yS Tryz.func14 rfl trivial ?_;refine z8 (α:=Nat) (fun i=>[(2,.ptr 0 0),(3,.ptr 1 0),(6,.d (eIs al)),(7,vI .i64 (i:Int))]) (fun i=>[some (bBt l),some (bWt t)]) (fun i=>i≤al.length∧∀j,j<i→(al.map (z1w l)).getD j []=[]∨t.init.getD j []=(al.map (z1w l)).getD j []) (fun i=>al.length-i) 0 ⟨Nat.zero_le _,fun j hj=>by omega⟩ ?_ ?_
  ·exact fun hh=>yE hh (eAl rfl) (oAl rfl)
  rintro i ⟨hi2,hc⟩ ih;refine yB Tryz.func14 rfl trivial (fun hb=>?_) (fun hb=>?_)<;>simp only [List.length_map,decide_eq_true_eq,decide_eq_false_iff_not]at hb
  ·have hlt:i<al.length:=by omega
   have ih:=ih (i+1);have eg:(al.map (z1w l)).getD i []=z1w l (al.getD i 0):=by simp [hlt]
   rw [←hA]at hlt;refine yO 5 Tryz.func14 rfl trivial ?_;refine yq rfl ?_ ?_
   ·rw [hA]at hlt;exact(by simp [andP]<;>omega)
   rw [hA]at hlt;refine yV Tryz.func14 rfl trivial (zgc l hm ty (al.getD i 0)) (.refl _) ?_;have hnx:((al.map (z1w l)).getD i []=[]∨t.init.getD i []=(al.map (z1w l)).getD i [])→∀j,j<i+1→(al.map (z1w l)).getD j []=[]∨t.init.getD j []=(al.map (z1w l)).getD j []:=fun hh j hj=>by
    rcases Nat.lt_or_ge j i with h5|h5
    ·exact hc j h5
    ·obtain rfl:j=i:=by omega
     exact hh
   refine yB Tryz.func14 rfl trivial (fun hb2=>?_) (fun hb2=>?_)
   ·have hb2:(!((⟨(z1w l (al.getD i 0)).toArray⟩:ByteArray).toList==(⟨([]:List UInt8).toArray⟩:ByteArray).toList))=true:=hb2;rw [strEq,Bool.not_eq_true',decide_eq_false_iff_not]at hb2;refine yB Tryz.func14 rfl (by simp [andP]<;>omega) (fun hb3=>?_) (fun hb3=>?_)
    ·have hb3:(!((⟨(z1w l (al.getD i 0)).toArray⟩:ByteArray).toList==(⟨(t.init.getD (i:Int).toNat []).toArray⟩:ByteArray).toList))=true:=hb3;rw [strEq,Int.toNat_natCast,Bool.not_eq_true',decide_eq_false_iff_not]at hb3;refine yR Tryz.func14 rfl trivial (no fun hh=>?_);rcases(hf.1 hh.2.2.1) i hlt with h5|h5
     ·exact hb2 (by rw [←eg];exact h5)
     ·exact hb3 (by rw [←eg];exact h5.symm)
    ·have hb3:(!((⟨(z1w l (al.getD i 0)).toArray⟩:ByteArray).toList==(⟨(t.init.getD (i:Int).toNat []).toArray⟩:ByteArray).toList))=false:=hb3;rw [strEq,Int.toNat_natCast,Bool.not_eq_false',decide_eq_true_eq]at hb3;refine yS Tryz.func14 rfl trivial ?_;exact yE (ih ⟨by omega,hnx (.inr (by rw [eg];exact hb3.symm))⟩ (by omega)) ⟨erl rfl,erl rfl,erl rfl,erw rfl,trivial⟩ (oAl rfl)
   ·have hb2:(!((⟨(z1w l (al.getD i 0)).toArray⟩:ByteArray).toList==(⟨([]:List UInt8).toArray⟩:ByteArray).toList))=false:=hb2;rw [strEq,Bool.not_eq_false',decide_eq_true_eq]at hb2;refine yF Tryz.func14 rfl trivial ?_;refine yS Tryz.func14 rfl trivial ?_;exact yE (ih ⟨by omega,hnx (.inl (by rw [eg];exact hb2))⟩ (by omega)) ⟨erl rfl,erl rfl,erl rfl,erw rfl,trivial⟩ (oAl rfl)
  ·obtain rfl:i=al.length:=by omega
   have hfb:=hf.2 hc;refine yS Tryz.func14 rfl trivial ?_;refine z8 (α:=Nat) (fun i=>[(2,.ptr 0 0),(3,.ptr 1 0),(9,vI .i64 (i:Int))]) (fun i=>[some (bBt l),some (bWt t)]) (fun i=>i≤t.ins.length∧∀j,j<i→rowsB (t.ins.getD j []) (shL l).inw=true) (fun i=>t.ins.length-i) 0 ⟨Nat.zero_le _,fun j hj=>by omega⟩ ?_ ?_
   ·exact fun hh=>yE hh (eAl rfl) (oAl rfl)
   rintro i ⟨hi3,hc2⟩ ih2;refine yB Tryz.func14 rfl trivial (fun hb=>?_) (fun hb=>?_)<;>simp only [List.length_map,decide_eq_true_eq,decide_eq_false_iff_not]at hb
   ·have hlt:i<t.ins.length:=by omega
    have hmem:=z2v (d:=[]) hlt;refine yO 6 Tryz.func14 rfl trivial ?_;refine yq rfl ?_ ?_
    ·exact(by simp [andP]<;>omega)
    refine yV Tryz.func14 rfl trivial (zbv l hm ty zy rfl (t.ins.getD i []) (si _ hmem).2 (si _ hmem).1 (shL l).inw (zs1 l)) (.refl _) ?_;cases hro:rowsB (t.ins.getD i []) (shL l).inw with
    | false=>
     refine yT Tryz.func14 rfl trivial ?_;refine yR Tryz.func14 rfl trivial (no fun hh=>?_);rw [hh.2.2.2 _ hmem]at hro;cases hro
    | true=>
     refine yF Tryz.func14 rfl trivial ?_;refine yS Tryz.func14 rfl trivial ?_;refine yE (ih2 (i+1) ⟨by omega,fun j hj=>?_⟩ (by omega)) ⟨erl rfl,erl rfl,erw rfl,trivial⟩ (oAl rfl);rcases Nat.lt_or_ge j i with h5|h5
     ·exact hc2 j h5
     ·obtain rfl:j=i:=by omega
      exact hro
   ·obtain rfl:i=t.ins.length:=by omega
    refine yR Tryz.func14 rfl trivial ?_;rw [hq.2 ⟨⟨by omega,by rw [hbd];omega,by omega,by omega⟩,hr,hfb,fun f hfm=>?_⟩]
    ·rfl
    ·obtain⟨q,hq2,rfl⟩:=List.getElem_of_mem hfm;have:=hc2 q hq2;rwa [z5o hq2]at this
def smB(t:Wt)(most:Nat):Bool:=decide (t.ins.length≤most)&&decide (t.init.length≤40)&&(t.init::t.ins).all fun l=>decide (l.length≤40)&&l.all fun s=>decide (s.length≤200)
theorem zsu{t:Wt}{n:Nat}(h:smB t n=true):SmW t n:=by
 unfold smB at h;simp only [Bool.and_eq_true,decide_eq_true_eq,List.all_eq_true,List.mem_cons]at h;obtain⟨⟨h1,h2⟩,h3⟩:=h;exact⟨h1,h2,(h3 _ (.inl rfl)).2,fun l hl=>h3 l (.inr hl)⟩
theorem SmW.mono{t:Wt}{n m:Nat}(h:SmW t n)(hm:n≤m):SmW t m:=⟨Nat.le_trans h.n hm,h.i,h.r,h.l⟩
theorem zgb(t:Wt)(n:Nat)(hn:n≤1000)(hw:t.ins.length*24+24≤140737488355328):ACall Tryz.prog 10 [.d (eWt t),vI .i64 (n:Int)] [] (fun r o=>r=vB (smB t n)):=by
 refine yN Tryz.func10 fun C hC hCl hDs hGk=>?_;refine yB Tryz.func10 rfl trivial (fun h1=>?_) (fun h1=>?_)
 ·have h1:decide (((t.ins.map eSs).length:Int)>(n:Int))=true:=h1;rw [decide_eq_true_eq,List.length_map]at h1;repeat refine yT Tryz.func10 rfl trivial ?_
  refine yR Tryz.func10 rfl trivial ?_;unfold smB;rw [decide_eq_false (by omega)];rfl
 have h1:decide (((t.ins.map eSs).length:Int)>(n:Int))=false:=h1;rw [decide_eq_false_iff_not,List.length_map]at h1;refine yB Tryz.func10 rfl trivial (fun h2=>?_) (fun h2=>?_)
 ·have h2:decide (((t.init.map dSL).length:Int)>40)=true:=h2;rw [decide_eq_true_eq,List.length_map]at h2;refine yR Tryz.func10 rfl trivial ?_;unfold smB;rw [decide_eq_false (show ¬t.init.length≤40 by omega),Bool.and_false];rfl
 have h2:decide (((t.init.map dSL).length:Int)>40)=false:=h2;rw [decide_eq_false_iff_not,List.length_map]at h2;have hsm:smB t n=(t.init::t.ins).all fun l=>decide (l.length≤40)&&l.all fun s=>decide (s.length≤200):=by
  unfold smB;rw [decide_eq_true (by omega),decide_eq_true (by omega)];rfl
 rw [hsm];refine yX 6 Tryz.func10 rfl trivial ?_;refine zcu _ tabOk rfl rfl rfl rfl rfl trivial rfl ?_;refine yS Tryz.func10 rfl ?_ ?_
 ·show([eSs t.init].length+(t.ins.map eSs).length)*24≤140737488355328∧True;rw [List.length_map];exact⟨by show(1+t.ins.length)*24≤_;omega,trivial⟩
 refine zj 1 rfl ?_;have hLl:(t.init::t.ins).length≤1001:=by simp;omega
 refine zq (env':=[(5,.d (eSss (t.init::t.ins))),(6,vI .i64 ((0:Nat):Int))]) (objs':=[]) ?_ hC hCl ⟨⟨_,rfl,.eL rfl⟩,⟨_,rfl,.refl _⟩,trivial⟩ trivial rfl rfl (Nat.zero_le _);generalize t.init::t.ins=L at *;refine z8 (α:=Nat) (fun i=>[(5,.d (eSss L)),(6,vI .i64 (i:Int))]) (fun _=>[]) (fun i=>i≤L.length∧∀q,q<i→(decide ((L.getD q []).length≤40)&&(L.getD q []).all fun s=>decide (s.length≤200))=true) (fun i=>L.length-i) 0 ⟨Nat.zero_le _,fun q hq=>by omega⟩ ?_ ?_
 ·exact fun h=>yE h (eAl rfl) trivial
 rintro i ⟨hi,hc⟩ ih;refine yB Tryz.func10 rfl trivial (fun hb=>?_) (fun hb=>?_)<;>simp only [decide_eq_true_eq,decide_eq_false_iff_not,List.length_map]at hb
 ·have hlt:i<L.length:=by omega
  have hmem:=z2v (d:=[]) hlt;have no:(decide ((L.getD i []).length≤40)&&(L.getD i []).all fun s=>decide (s.length≤200))=false→vB false=vB (L.all fun l=>decide (l.length≤40)&&l.all fun s=>decide (s.length≤200)):=fun h=>by
   rw [List.all_eq_false.2 ⟨_,hmem,by rw [h];decide⟩]
  refine yB Tryz.func10 rfl (by simp [andP]<;>omega) (fun g=>?_) (fun g=>?_)
  ·have g:decide ((((L.getD (i:Int).toNat []).map dSL).length:Int)>40)=true:=g;rw [decide_eq_true_eq,Int.toNat_natCast,List.length_map]at g;refine yR Tryz.func10 rfl trivial (no ?_);rw [decide_eq_false (by omega),Bool.false_and]
  have g:decide ((((L.getD (i:Int).toNat []).map dSL).length:Int)>40)=false:=g;rw [decide_eq_false_iff_not,Int.toNat_natCast,List.length_map]at g;have g40:decide ((L.getD i []).length≤40)=true:=decide_eq_true (by omega);rw [g40,Bool.true_and]at no;refine yS Tryz.func10 rfl trivial ?_;refine z8 (α:=Nat) (fun j=>[(5,.d (eSss L)),(6,vI .i64 (i:Int)),(7,vI .i64 (j:Int))]) (fun _=>[]) (fun j=>j≤(L.getD i []).length∧∀q,q<j→decide (((L.getD i []).getD q []).length≤200)=true) (fun j=>(L.getD i []).length-j) 0 ⟨Nat.zero_le _,fun q hq=>by omega⟩ ?_ ?_
  ·exact fun h=>yE h (eAl rfl) trivial
  rintro j ⟨hj,hc2⟩ ih2;refine yB Tryz.func10 rfl (by simp [andP]<;>omega) (fun hb3=>?_) (fun hb3=>?_)
  ·have hb3:decide ((j:Int)<(((L.getD (i:Int).toNat []).map dSL).length:Int))=true:=hb3;rw [List.length_map,Int.toNat_natCast,decide_eq_true_eq]at hb3;have hjl:j<(L.getD i []).length:=by omega
   refine yB Tryz.func10 rfl ?_ (fun k=>?_) (fun k=>?_)
   ·show(0≤(j:Int)∧(j:Int)<(((L.getD (i:Int).toNat []).map dSL).length:Int))∧(0≤(i:Int)∧(i:Int)<((L.map eSs).length:Int))∧True;rw [List.length_map,Int.toNat_natCast,List.length_map];exact⟨⟨by omega,by omega⟩,⟨by omega,by omega⟩,trivial⟩
   ·have k:decide ((((⟨((L.getD (i:Int).toNat []).getD (j:Int).toNat []).toArray⟩:ByteArray).size:Nat):Int)>200)=true:=k;rw [zp,Int.toNat_natCast,Int.toNat_natCast,decide_eq_true_eq]at k;refine yR Tryz.func10 rfl trivial (no ?_);exact List.all_eq_false.2 ⟨_,z2v (d:=[]) hjl,by rw [decide_eq_false (by omega)];decide⟩
   ·have k:decide ((((⟨((L.getD (i:Int).toNat []).getD (j:Int).toNat []).toArray⟩:ByteArray).size:Nat):Int)>200)=false:=k;rw [zp,Int.toNat_natCast,Int.toNat_natCast,decide_eq_false_iff_not]at k;refine yS Tryz.func10 rfl trivial ?_;refine yE (ih2 (j+1) ⟨by omega,fun q hq=>?_⟩ (by omega)) ⟨erl rfl,erl rfl,erw rfl,trivial⟩ trivial;rcases Nat.lt_or_ge q j with h|h
    ·exact hc2 q h
    ·obtain rfl:q=j:=by omega
     exact decide_eq_true (by omega)
  ·have hb3:decide ((j:Int)<(((L.getD (i:Int).toNat []).map dSL).length:Int))=false:=hb3;rw [List.length_map,Int.toNat_natCast,decide_eq_false_iff_not]at hb3;obtain rfl:j=(L.getD i []).length:=by omega
   refine yS Tryz.func10 rfl trivial ?_;refine yE (ih (i+1) ⟨by omega,fun q hq=>?_⟩ (by omega)) ⟨erl rfl,erw rfl,trivial⟩ trivial;rcases Nat.lt_or_ge q i with h|h
   ·exact hc q h
   ·obtain rfl:q=i:=by omega
    rw [g40,Bool.true_and,List.all_eq_true];intro s hs;obtain⟨k,hk,rfl⟩:=List.getElem_of_mem hs;have:=hc2 k hk;rwa [z5o hk]at this
 ·obtain rfl:i=L.length:=by omega
  refine yR Tryz.func10 rfl trivial ?_;have:(L.all fun l=>decide (l.length≤40)&&l.all fun s=>decide (s.length≤200))=true:=by
   rw [List.all_eq_true];intro s hs;obtain⟨k,hk,rfl⟩:=List.getElem_of_mem hs;have:=hc k hk;rwa [z5o hk]at this
  rw [this];rfl
end Go.Proofs.YtbodbhpdelgpnaaGreatDoor
namespace Go.Proofs.YtbodbhpdelgpnaaGreatDoor
open Go Ab Go.RowKit Go.Lib
end Go.Proofs.YtbodbhpdelgpnaaGreatDoor
namespace Go.Proofs.YtbodbhpdelgpnaaGreatDoor
open Go Ab Go.RowKit
@[reducible] def Rm(t:Wt):Prop:=t.ins.length*24+24≤140737488355328
end Go.Proofs.YtbodbhpdelgpnaaGreatDoor
namespace Go.Proofs.YtbodbhpdelgpnaaGreatDoor
open Go Ab Go.RowKit
section
variable {l:List Nd}{x:Nd}
end
def cutW(t:Wt)(k:Nat):Wt:=⟨t.bad,t.init,t.ins.take k⟩
theorem zn0{h:Sh}{t:Wt}(hr:z1v h t=true){k:Nat}(h1:1≤k)(h2:k≤t.ins.length):z1v h (cutW t k)=true:=by
 obtain⟨⟨b0,b1,n0,n1⟩,r1,r2,r3⟩:=z1e.1 hr;have hl:(t.ins.take k).length=k:=by rw [List.length_take];omega
 refine z1e.2 ⟨⟨b0,b1,?_,?_⟩,r1,r2,fun l hl=>r3 l (List.mem_of_mem_take hl)⟩
 ·show 1≤(t.ins.take k).length;omega
 ·show(t.ins.take k).length≤200;omega
theorem zcq{t:Wt}:totB t=true↔xL t.init=false∧∀l∈t.ins,xL l=false:=by
 unfold totB;rw [List.any_cons];simp only [Bool.not_or,Bool.and_eq_true,Bool.not_eq_true',List.any_eq_false];constructor
 ·rintro⟨h1,h2⟩;exact⟨h1,fun l hl=>by simpa using h2 l hl⟩
 ·rintro⟨h1,h2⟩;exact⟨h1,fun l hl=>by simpa using h2 l hl⟩
end Go.Proofs.YtbodbhpdelgpnaaGreatDoor
namespace Go.Proofs.YtbodbhpdelgpnaaGreatDoor
open Go Ab Go.RowKit
def selO(e:Nat)(L:List Nat)(o h:Option AObj):Option AObj:=if e∈L then o else h
theorem zeg(e:Nat)(L:List Nat)(o h:Option AObj):selO e (e::L) o h=o:=if_pos (List.mem_cons_self ..)
theorem z8f{e j:Nat}(hne:j≠e)(L:List Nat)(o h:Option AObj):selO e (j::L) o h=selO e L o h:=by
 unfold selO;simp only [List.mem_cons,hne.symm,false_or]
theorem z9y{e:Nat}{L:List Nat}(hn:e∉L)(o h:Option AObj):selO e L o h=h:=if_neg hn
theorem zhk{e:Nat}{L:List Nat}(hn:e∈L)(o h:Option AObj):selO e L o h=o:=if_pos hn
def moreW(t:Wt):Wt:=⟨t.bad,t.init,t.ins++[t.ins.getD (t.ins.length-1) []]⟩
theorem zj5{h:Sh}{t:Wt}(hr:z1v h t=true):z1v h (moreW t)=decide (t.ins.length<200):=by
 obtain⟨⟨b0,b1,n0,n1⟩,r1,r2,r3⟩:=z1e.1 hr;have hl:(moreW t).ins.length=t.ins.length+1:=by simp [moreW]
 rw [Bool.eq_iff_iff,decide_eq_true_eq,z1e];constructor
 ·rintro⟨⟨-,-,-,h4⟩,-⟩;omega
 ·intro h4;refine⟨⟨b0,b1,by omega,by omega⟩,r1,r2,fun l hl=>?_⟩;rcases List.mem_append.1 hl with h5|h5
  ·exact r3 l h5
  ·rw [List.mem_singleton.1 h5];exact r3 _ (z2v (by omega))
theorem zj8{h:Sh}{t:Wt}(hr:z1v h t=true):z1v h (cutW t (t.ins.length-1))=decide (t.ins.length>1):=by
 obtain⟨⟨b0,b1,n0,n1⟩,r1,r2,r3⟩:=z1e.1 hr;rw [Bool.eq_iff_iff,decide_eq_true_eq];constructor
 ·intro h2;obtain⟨⟨-,-,h3,-⟩,-⟩:=z1e.1 h2;have h3:1≤(t.ins.take (t.ins.length-1)).length:=h3;rw [List.length_take]at h3;omega
 ·intro h2;exact zn0 hr (by omega) (by omega)
theorem zgg{h:Sh}{t:Wt}(hr:z1v h t=true)(b:Int):z1v h ⟨b,t.init,t.ins⟩=(decide (0≤b)&&decide (b<h.bads)):=by
 obtain⟨⟨b0,b1,n0,n1⟩,r1,r2,r3⟩:=z1e.1 hr;rw [Bool.eq_iff_iff,Bool.and_eq_true,decide_eq_true_eq,decide_eq_true_eq,z1e];exact⟨fun h2=>⟨h2.1.1,h2.1.2.1⟩,fun h2=>⟨⟨h2.1,h2.2,n0,n1⟩,r1,r2,r3⟩⟩
def lastW(t:Wt):Wt:=⟨0,[],t.ins.drop (t.ins.length-1)⟩
theorem zr0(t:Wt):totB t=(totB (cutW t (t.ins.length-1))&&totB (lastW t)):=by
 rw [Bool.eq_iff_iff,Bool.and_eq_true,zcq,zcq,zcq];constructor
 ·rintro⟨h1,h2⟩;exact⟨⟨h1,fun l hl=>h2 l (List.mem_of_mem_take hl)⟩,rfl,fun l hl=>h2 l (List.mem_of_mem_drop hl)⟩
 ·rintro⟨⟨h1,h2⟩,-,h3⟩;refine⟨h1,fun l hl=>?_⟩;rw [←List.take_append_drop (t.ins.length-1) t.ins]at hl;rcases List.mem_append.1 hl with h4|h4
  ·exact h2 l h4
  ·exact h3 l h4
theorem WwitFrames_law(l:List Nd)(t:Wt)(bad:Int)(hm:MdB l)(hl:l.length<2000000000000)(ht:Rm t):ACall Tryz.prog 7 [.d (eBt l),.d (eWt t),.d (eI bad)] [] (fun r o=>r=vB true):=by
 refine yN Tryz.func7 fun C hC hCl hDs hGk=>?_;have hpl:C.π.length=0:=by rw [hCl,hC];rfl
 refine yV Tryz.func7 rfl trivial zee (.refl _) ?_;refine yC Tryz.func7 rfl trivial (ze3 l hm 40 (by decide) hl) (.refl _) ?_ (hr:=by rintro r o ⟨b,rfl,-⟩;rfl);rintro r o ⟨c,rfl,hc⟩;cases c with
 | false=>
  repeat refine yT Tryz.func7 rfl trivial ?_
  exact yR Tryz.func7 rfl trivial rfl
 | true=>
  obtain⟨l40,ty⟩:=hc rfl;refine yF Tryz.func7 rfl trivial ?_;refine yV Tryz.func7 rfl trivial (zgb t 200 (by decide) ht) (.refl _) ?_;cases h1:smB t 200 with
  | false=>
   repeat refine yT Tryz.func7 rfl trivial ?_
   exact yR Tryz.func7 rfl trivial rfl
  | true=>
   have s0:=zsu h1;have s1:=s0.mono (m:=1000) (by decide);have sn:=s0.n;obtain⟨sr,si⟩:=s1.rows;refine yF Tryz.func7 rfl trivial ?_;have c0:=zd0 l hm ty t s1;cases hr:z1v (shL l) t with
   | false=>
    rw [hr]at c0;refine yV Tryz.func7 rfl trivial c0 (.refl _) ?_;repeat refine yT Tryz.func7 rfl trivial ?_
    exact yR Tryz.func7 rfl trivial rfl
   | true=>
    rw [hr]at c0;refine yV Tryz.func7 rfl trivial c0 (.refl _) ?_;refine yF Tryz.func7 rfl trivial ?_;obtain⟨⟨b0,b1,n0,n1⟩,r1,r2,r3⟩:=z1e.1 hr;have e1:IntKind.i64.wrap ((t.ins.length:Int)-1)=(t.ins.length:Int)-1:=z7 (by omega) (by omega);refine yX 10 Tryz.func7 rfl trivial ?_;refine zq (env':=[(2,.d (eI bad)),(3,.ptr 0 0),(4,.ptr 1 0),(7,vB true),(8,vI .i64 (t.ins.length:Int))]) (objs':=[some (bBt l),some (bWt t)]) ?_ hC hCl ⟨⟨_,rfl,.refl _⟩,⟨_,rfl,.refl _⟩,⟨_,rfl,.refl _⟩,⟨_,rfl,.refl _⟩,⟨_,rfl,.of (by rw [List.length_map])⟩,trivial⟩ ⟨.refl _,.refl _,trivial⟩ rfl rfl (Nat.zero_le _);refine zko 18 2 [(7,some (39,.gs 2)),(15,some (47,.d (.sl 1 (t.ins.map eSs++[eSs (t.ins.getD (IntKind.i64.wrap ((t.ins.length:Int)-1)).toNat [])]) (catRd (t.ins.map eSs).length (fun i=>eSs (t.ins.getD i [])) (litRd [eSs (t.ins.getD (IntKind.i64.wrap ((t.ins.length:Int)-1)).toNat [])]))))),(16,some (48,.d (.ag [eI t.bad,eSs t.init,.sl 1 (t.ins.map eSs++[eSs (t.ins.getD (IntKind.i64.wrap ((t.ins.length:Int)-1)).toNat [])]) (catRd (t.ins.map eSs).length (fun i=>eSs (t.ins.getD i [])) (litRd [eSs (t.ins.getD (IntKind.i64.wrap ((t.ins.length:Int)-1)).toNat [])]))]))),(17,some (9,.ptr 3 0))] [(39,15)]
     (fun L=>[some (bBt l),some (bWt t),selO 15 L none (selO 7 L (some (.grow 25 1 (t.ins.map eSs) (fun i=>eSs (t.ins.getD i [])))) (some HD)),some (sel 17 L zWtO HD)]) _
     (objsF:=[some (bBt l),some (bWt t),none,some zWtO])
     tabOk Tryz.func7 rfl rfl trivial (by kernel_rfl) (by kernel_rfl) ?_ ?_ ?_ rfl (by kernel_rfl) (fun L=>by
      refine ds_ok tabOk rfl rfl rfl rfl rfl ?_;refine ds_ok tabOk rfl rfl rfl rfl rfl ?_;refine ds_ok tabOk rfl rfl rfl rfl rfl ?_;refine ds_ok tabOk rfl rfl rfl rfl rfl ?_;refine z6g tabOk rfl rfl rfl rfl rfl rfl rfl ?_;refine ds_ok tabOk rfl rfl rfl rfl rfl ?_;refine ds_ok tabOk rfl rfl rfl rfl rfl ?_;refine ds_ok tabOk rfl rfl rfl rfl rfl ?_;refine ds_ok tabOk rfl rfl rfl rfl rfl ?_;refine ds_ok tabOk rfl rfl rfl rfl rfl ?_;refine ds_ok tabOk rfl rfl rfl rfl rfl ?_;refine zfh tabOk rfl rfl rfl rfl ⟨by rw [e1];omega,by rw [e1,List.length_map];omega⟩ rfl ?_;refine ds_ok tabOk rfl rfl rfl rfl rfl ?_;refine z6g tabOk rfl rfl rfl rfl rfl rfl rfl ?_;exact yq rfl trivial rfl) ?_ ?_
    ·rfl
    ·intro L hL;simp only [z4q (hL 17 (by decide)),zhk (hL 15 (by decide))]
    ·intro j L hb;simp only [actB,List.any_cons,List.any_nil,Bool.or_false,Bool.or_eq_false_iff]at hb;have n3:=Nat.ne_of_beq_eq_false hb.1;have n6:=Nat.ne_of_beq_eq_false hb.2.1;have n8:=Nat.ne_of_beq_eq_false hb.2.2.2;simp only [z28 (fun e=>n8 e.symm),z8f (fun e=>n6 e.symm),z8f (fun e=>n3 e.symm)]
    ·refine List.forall_mem_cons.2 ⟨⟨_,rfl,rfl,?_⟩,List.forall_mem_cons.2 ⟨⟨_,rfl,rfl,?_⟩,List.forall_mem_cons.2 ⟨⟨_,rfl,rfl,?_⟩,List.forall_mem_cons.2 ⟨⟨_,rfl,rfl,?_⟩,fun x h=>by cases h⟩⟩⟩⟩
     ·refine HeadH.toK _ (zjg (p:=2) (ys:=t.ins.map eSs) (rd2:=fun i=>eSs (t.ins.getD i [])) tabOk rfl (fun _ _ _ h=>h) rfl rfl rfl (fun L=>rfl) rfl rfl rfl rfl rfl rfl ?_ rfl rfl rfl (by omega) ?_ ?_)
      ·rw [List.length_map];show t.ins.length*24≤_;omega
      ·intro L h3 hc;have h6:15∉L:=fun h=>h3 (hc 15 h 7 (by kernel_rfl))
       show some (selO 15 L _ (selO 7 L _ _))=_;rw [z9y h6,z9y h3]
      ·intro L h3 hc;have h6:15∉L:=fun h=>h3 (hc 15 h 7 (by kernel_rfl))
       have h6':15∉7::L:=by simp only [List.mem_cons,not_or];exact⟨by decide,h6⟩
       simp only [z9y h6,z9y h6',zeg,z28 (show(7:Nat)≠17 by decide)];rfl
     ·refine zma (c:=some (((t.ins.map eSs).length+[eSs (t.ins.getD (IntKind.i64.wrap ((t.ins.length:Int)-1)).toNat [])].length)*24≤140737488355328)) (p:=2) (s:=1) (e:=25) (xs:=t.ins.map eSs++[eSs (t.ins.getD (IntKind.i64.wrap ((t.ins.length:Int)-1)).toNat [])]) (rd:=(catRd (t.ins.map eSs).length (fun i=>eSs (t.ins.getD i [])) (litRd [eSs (t.ins.getD (IntKind.i64.wrap ((t.ins.length:Int)-1)).toNat [])]))) (O1:=fun L=>[some (bBt l),some (bWt t),some (.grow 25 1 (t.ins.map eSs++[eSs (t.ins.getD (IntKind.i64.wrap ((t.ins.length:Int)-1)).toNat [])]) (catRd (t.ins.map eSs).length (fun i=>eSs (t.ins.getD i [])) (litRd [eSs (t.ins.getD (IntKind.i64.wrap ((t.ins.length:Int)-1)).toNat [])]))),some (sel 17 L zWtO HD)]) tabOk rfl (fun _ _ _ h=>h) ?_ ?_ (fun L _ _=>rfl) ?_ ?_ rfl rfl rfl
      ·intro L h6 hw;have h3:=hw 7 (by kernel_rfl);simp only [z9y h6,zhk h3];cases h8:decide (17∈L)with
       | true=>simp only [z4q (of_decide_eq_true h8)];rfl
       | false=>simp only [z77 (of_decide_eq_false h8)];rfl
      ·show((t.ins.map eSs).length+1)*24≤_;rw [List.length_map];omega
      ·intro L h6 hw;simp only [zeg,z28 (show(15:Nat)≠17 by decide)];cases h8:decide (17∈L)with
       | true=>simp only [z4q (of_decide_eq_true h8)];rfl
       | false=>simp only [z77 (of_decide_eq_false h8)];rfl
      ·refine zs4 ?_;repeat (refine List.forall_mem_cons.2 ⟨?_,?_⟩;first|exact fun _=>rfl|exact fun h=>(by have h2:true=false:=h;cases h2))
       intro x h;exact absurd h List.not_mem_nil
     ·refine HeadH.toK _ (zjf tabOk rfl (fun _ _ _ h=>h) (fun L=>rfl) (fun L=>?_) rfl rfl rfl);simp only [z28 (show(16:Nat)≠17 by decide),z8f (show(16:Nat)≠15 by decide),z8f (show(16:Nat)≠7 by decide)]
     ·refine HeadH.toK _ (z6e (p:=3) tabOk rfl rfl rfl rfl rfl rfl (by omega) ?_ ?_)
      ·intro L h8 hc;show some (some (sel 17 L _ _))=_;rw [z77 h8]
      ·intro L h8 hc;simp only [z4i,z8f (show(17:Nat)≠15 by decide),z8f (show(17:Nat)≠7 by decide)];rfl
    refine yX 3 Tryz.func7 rfl trivial ?_;have e2:(IntKind.i64.wrap ((t.ins.length:Int)-1)).toNat=t.ins.length-1:=by rw [e1];omega
    have hmo:VLe (.d (.sl 1 (t.ins.map eSs++[eSs (t.ins.getD (IntKind.i64.wrap ((t.ins.length:Int)-1)).toNat [])]) (catRd (t.ins.map eSs).length (fun i=>eSs (t.ins.getD i [])) (litRd [eSs (t.ins.getD (IntKind.i64.wrap ((t.ins.length:Int)-1)).toNat [])])))) (.d (eSss (moreW t).ins)):=
     VLe.eL (by rw [e2];unfold moreW;rw [List.map_append];rfl)
    refine zq (env':=[(2,.d (eI bad)),(3,.ptr 0 0),(4,.ptr 1 0),(7,vB true),(8,vI .i64 (t.ins.length:Int)),(9,.ptr 3 0)]) (objs':=[some (bBt l),some (bWt t),none,some (bWt (moreW t))]) ?_ hC hCl ⟨⟨_,rfl,.refl _⟩,⟨_,rfl,.refl _⟩,⟨_,rfl,.refl _⟩,⟨_,rfl,.refl _⟩,⟨_,rfl,.refl _⟩,⟨_,rfl,.refl _⟩,trivial⟩ ⟨.refl _,.refl _,OLe.cellsV ⟨.refl _,.refl _,hmo,trivial⟩,trivial⟩ rfl rfl (Nat.zero_le _);clear hmo;refine z45 11 1 [(10,some (10,.ptr 4 0))] (fun L=>[some (bBt l),some (bWt t),none,some (bWt (moreW t)),some (sel 10 L zWtO HD)]) _ (objsF:=[some (bBt l),some (bWt t),none,some (bWt (moreW t)),some zWtO]) tabOk Tryz.func7 rfl rfl trivial (by kernel_rfl) (by kernel_rfl) ?_ ?_ ?_ rfl (fun L=>yq rfl (by simp [andP,e1]<;>omega) rfl) ?_ ?_
    ·rfl
    ·intro L hL;simp only [z4q (hL 10 (by decide))]
    ·intro j L hb;simp only [actB,List.any_cons,List.any_nil,Bool.or_false]at hb;have n1:=Nat.ne_of_beq_eq_false hb;simp only [z28 (fun e=>n1 e.symm)]
    ·refine List.forall_mem_cons.2 ⟨⟨_,rfl,rfl,?_⟩,fun x h=>by cases h⟩;refine z5m (p:=4) tabOk rfl rfl rfl rfl rfl rfl (by omega) ?_ ?_
     ·intro L h;show some (some (sel 10 L _ _))=_;rw [z77 h]
     ·intro L;simp only [z4i];rfl
    refine yX 3 Tryz.func7 rfl trivial ?_;have hle:VLe (.d (.sl 1 (List.take ((IntKind.i64.wrap ((t.ins.length:Int)-1))-0).toNat (List.drop (Int.toNat 0) (t.ins.map eSs))) fun j=>(fun i=>eSs (t.ins.getD i [])) (Int.toNat 0+j))) (.d (eSss (cutW t (t.ins.length-1)).ins)):=
     VLe.eL (by rw [Int.sub_zero,e2,Int.toNat_zero,List.drop_zero];exact List.map_take.symm)
    refine zq (env':=[(2,.d (eI bad)),(3,.ptr 0 0),(4,.ptr 1 0),(7,vB true),(8,vI .i64 (t.ins.length:Int)),(9,.ptr 3 0),(10,.ptr 4 0)]) (objs':=[some (bBt l),some (bWt t),none,some (bWt (moreW t)),some (bWt (cutW t (t.ins.length-1)))]) ?_ hC hCl ⟨⟨_,rfl,.refl _⟩,⟨_,rfl,.refl _⟩,⟨_,rfl,.refl _⟩,⟨_,rfl,.refl _⟩,⟨_,rfl,.refl _⟩,⟨_,rfl,.refl _⟩,⟨_,rfl,.refl _⟩,trivial⟩ ⟨.refl _,.refl _,.refl _,OLe.cellsV ⟨.refl _,.refl _,hle,trivial⟩,trivial⟩ rfl rfl (Nat.zero_le _);clear hle;refine yX 22 Tryz.func7 rfl (by simp [andP,e1]<;>omega) ?_;have hla:VLe (.d (.sl 1 (List.take ((((t.ins.map eSs).length:Nat):Int)-IntKind.i64.wrap ((t.ins.length:Int)-1)).toNat (List.drop (IntKind.i64.wrap ((t.ins.length:Int)-1)).toNat (t.ins.map eSs))) fun j=>(fun i=>eSs (t.ins.getD i [])) ((IntKind.i64.wrap ((t.ins.length:Int)-1)).toNat+j))) (.d (eSss (lastW t).ins)):=
     VLe.eL (by
      rw [List.take_of_length_le (by rw [List.length_drop,List.length_map];omega),e2];unfold lastW;rw [List.map_drop])
    refine zq (env':=[(2,.d (eI bad)),(3,.ptr 0 0),(4,.ptr 1 0),(7,vB true),(8,vI .i64 (t.ins.length:Int)),(9,.ptr 3 0),(10,.ptr 4 0),(11,.ptr 5 0),(12,.ptr 6 0)]) (objs':=[some (bBt l),some (bWt t),none,some (bWt (moreW t)),some (bWt (cutW t (t.ins.length-1))),some (bWt (lastW t)),some (bWt ⟨bad,t.init,t.ins⟩)]) ?_ hC hCl ⟨⟨_,rfl,.refl _⟩,⟨_,rfl,.refl _⟩,⟨_,rfl,.refl _⟩,⟨_,rfl,.refl _⟩,⟨_,rfl,.refl _⟩,⟨_,rfl,.refl _⟩,⟨_,rfl,.refl _⟩,⟨_,rfl,.refl _⟩,⟨_,rfl,.refl _⟩,trivial⟩ ⟨.refl _,.refl _,.refl _,.refl _,OLe.cellsV ⟨.refl _,VLe.nil,hla,trivial⟩,.refl _,trivial⟩ rfl rfl (Nat.zero_le _);clear hla;have hle200:(moreW t).ins.length≤1000:=by
     show(t.ins++[t.ins.getD (t.ins.length-1) []]).length≤1000;rw [List.length_append];simp only [List.length_cons,List.length_nil];omega
    have gi:∀f∈(moreW t).ins,∀s∈f,s.length≤1000000000:=fun f hf=>by
     rcases List.mem_append.1 hf with h5|h5
     ·exact(si f h5).2
     ·rw [List.mem_singleton.1 h5];exact(si _ (z2v (by omega))).2
    have d1:=z35 l hm ty (moreW t) sr gi;rw [zj5 hr]at d1;have d2:=z35 l hm ty (cutW t (t.ins.length-1)) sr (fun f hf=>(si f (List.mem_of_mem_take hf)).2);rw [zj8 hr]at d2;have d3:=z35 l hm ty ⟨bad,t.init,t.ins⟩ sr (fun f hf=>(si f hf).2);rw [zgg hr]at d3;have d4:=z40 t (by omega);have d5:=z40 (cutW t (t.ins.length-1)) (by show(t.ins.take _).length≤_;rw [List.length_take];omega);have d6:=z40 (lastW t) (by show(t.ins.drop _).length≤_;rw [List.length_drop];omega);have htc:=zr0 t;have hbl:(shL l).bads=((allL l kBad l.length).length:Int):=rfl;have hl6:l.length<1000000:=by omega
    refine yO 36 Tryz.func7 rfl trivial ?_;refine yb rfl trivial (fun _=>?_) (fun h=>by cases h);refine yQ Tryz.func13 rfl trivial d1 (.refl _) ?_;refine yb rfl trivial (fun _=>?_) (fun h=>by
     have h:(decide (t.ins.length<200)==decide ((t.ins.length:Int)<200))=false:=h;rw [beq_eq_false_iff_ne]at h;exact absurd (decide_eq_decide.2 (by omega)) h)
    refine yQ Tryz.func13 rfl trivial d2 (.refl _) ?_;refine yb rfl trivial (fun _=>?_) (fun h=>by
     have h:(decide (t.ins.length>1)==decide ((t.ins.length:Int)>1))=false:=h;rw [beq_eq_false_iff_ne]at h;exact absurd (decide_eq_decide.2 (by omega)) h)
    refine yQ Tryz.func13 rfl trivial d3 (.refl _) ?_;refine yb rfl trivial (fun h8=>?_) (fun h8=>?_);refine yQ Tryz.func22 rfl trivial (z74 l kBad hl6) (.refl _) ?_;refine yb rfl trivial (fun _=>?_) (fun h=>by
     have h:((decide (0≤bad)&&decide (bad<(shL l).bads))==decide (bad<((((allL l kBad l.length).map eI).length:Nat):Int)))=false:=h;have h8:decide (bad≥0)=true:=h8;rw [decide_eq_true_eq]at h8;rw [List.length_map,decide_eq_true (show 0≤bad by omega),Bool.true_and,hbl,beq_self_eq_true]at h;cases h)
    rotate_left;refine yb rfl trivial (fun _=>?_) (fun h=>by
     have h:((decide (0≤bad)&&decide (bad<(shL l).bads))==false)=false:=h;have h8:decide (bad≥0)=false:=h8;rw [decide_eq_false_iff_not]at h8;rw [decide_eq_false (show ¬0≤bad by omega),Bool.false_and]at h;cases h)
    all_goals
     refine yQ Tryz.func17 rfl trivial d4 (.refl _) ?_;refine yq rfl trivial ?_;refine yV Tryz.func7 rfl trivial d5 (.refl _) ?_;refine yB Tryz.func7 rfl trivial (fun h9=>?_) (fun h9=>?_)
     ·refine yV Tryz.func7 rfl trivial d6 (.refl _) ?_;refine yR Tryz.func7 rfl trivial ?_;show vB (totB t==totB (lastW t))=_;rw [htc,show totB (cutW t (t.ins.length-1))=true from h9,Bool.true_and,beq_self_eq_true]
     ·refine yR Tryz.func7 rfl trivial ?_;show vB (totB t==false)=_;rw [htc,show totB (cutW t (t.ins.length-1))=false from h9];rfl
end Go.Proofs.YtbodbhpdelgpnaaGreatDoor
