/- A part of the proof. -/
import Derived.Test.YtbodbhpdelgpnaaGreatDoorP21
import Derived.Lib.ConvBytes
import Derived.Lib.SlBytesConst
set_option linter.unusedVariables false
set_option linter.unusedSimpArgs false
set_option linter.unusedSectionVars false
set_option maxRecDepth 100000
set_option maxHeartbeats 8000000
namespace Ab
open Go
variable [Draws]
section
variable {P:Program}[Globals P]{T:Tab}{f:FuncId}{n:Nat}{C:Cx}{R:AV→List (Option AObj)→Prop}{env:Env}{objs:List (Option AObj)}{ops:Array Oper}
theorem zps{i:Nat}{r:List Nat}{k:List Item}{o:Oper}{e2:Env}{src dst e:TypeId}{rs rd re:TRow}{xo:Operand}{bs:List UInt8}(hT:TabOk P T)(ho:ops[i]?=some o)(hw:wantE ops env o=.yes)(hop:o.op=.convert src dst xo)(hx:opnd env xo=some (.d (.v (.string ⟨bs.toArray⟩))))
  (hrs:tlook T src=some rs) (hks:rs.kd=.str) (hrd:tlook T dst=some rd) (hkd:rd.kd=.slice e) (hre:tlook T e=some re) (h8:re.kd=.int .u8) (hlen:bs.length≤1000000000)
  (hput:putE n o.dst (.gs objs.length) env=some e2) (h:ASat P f n C (.inRegion ops r::k) e2 (objs++[some (gL e 1 eU8 0 bs)]) R):ASat P f n C (.inRegion ops (i::r)::k) env objs R:=by
 refine zar ⟨none,false,.gs objs.length,none,objs++[some (gL e 1 eU8 0 bs)]⟩ ho hw (fun X π w tmps m he _=>?_) trivial hput h;have hax:=z5z (P:=P) he hx;have hs:=z5t hT hrs hks;have hd:=z1n hT hrd hkd;have heU:=za5 hT hre h8;have hrun:=Go.Lib.run_convert_string_bytes (P:=P) w src dst e ⟨bs.toArray⟩ hs hd heU;have hsize:(⟨bs.toArray⟩:ByteArray).size=bs.length:=by simp [ByteArray.size]
 have hml:maxLen=9223372036854775807:=rfl;rw [hsize]at hrun;have hcell:=Go.Lib.bytesWorld_cell w e ⟨bs.toArray⟩;have hold:∀b,b<w.heap.size→(Go.Lib.bytesWorld w e ⟨bs.toArray⟩).heap[b]?=w.heap[b]?:=fun b hb=>Go.Lib.bytesWorld_at_old w e _ b hb
 have hnew:=Go.Lib.bytesWorld_at_new w e ⟨bs.toArray⟩;have hhs:=Go.Lib.bytesWorld_size w e ⟨bs.toArray⟩;have hout:(Go.Lib.bytesWorld w e ⟨bs.toArray⟩).os=w.os∧(Go.Lib.bytesWorld w e ⟨bs.toArray⟩).tape=w.tape∧(Go.Lib.bytesWorld w e ⟨bs.toArray⟩).output=w.output∧w.drawn≤(Go.Lib.bytesWorld w e ⟨bs.toArray⟩).drawn:=by
  unfold Go.Lib.bytesWorld World.freeze;rw [if_neg (by decide)];exact⟨rfl,rfl,rfl,Nat.le_succ _⟩
 have hc1:=grownCap_ge w bs.length 0 e;have hc2:=grownCap_le_maxLen w bs.length 0 e (by omega);have hclen:(Go.Lib.bytesCells w e ⟨bs.toArray⟩).size=grownCap w bs.length 0 e:=by
  simp only [Go.Lib.bytesCells,hsize,Array.size_append,Array.size_map,List.size_toArray,Array.size_replicate];omega
 generalize grownCap w bs.length 0 e=c at hc1 hc2 hclen hrun;generalize Go.Lib.bytesCells w e ⟨bs.toArray⟩=BC at hnew hclen;generalize Go.Lib.bytesWorld w e ⟨bs.toArray⟩=W at *;obtain⟨BC⟩:=BC;simp only [List.size_toArray]at hclen hnew;have hh':∀b,blk (.slice (some ⟨w.heap.size,0,none⟩) bs.length c)=some b→w.heap.size≤b:=by
  intro b hb;cases c<;>cases hb;exact Nat.le_refl _
 refine⟨.slice (some ⟨w.heap.size,0,none⟩) bs.length c,W,π++[.slice (some ⟨w.heap.size,0,none⟩) bs.length c],?_,z4j m hout.1 hout.2.1 ⟨hout.2.2.1,z18 hout.2.2.2⟩ (by rw [hhs];omega) hold _ (gL e 1 eU8 0 bs) hh' ?_,fun _=>.gs (z5x m.len _)⟩
 ·unfold execOp;rw [hop];simp only [Sem.run_bind,hax,hrun,Result.andThen_ok,Sem.run_pure];rfl
 ·cases c with
  | zero=>
   obtain rfl:bs=[]:=List.eq_nil_of_length_eq_zero (by omega);exact .gnil
  | succ c=>
   have hls:(bs.map fun b=>Value.int .u8 (b.toNat:Int)).length=bs.length:=by simp
   have hk:=z5g (X:=X) (π:=π) (objs:=objs) hold (.slice (some ⟨w.heap.size,0,none⟩) bs.length (c+1)) (gL e 1 eU8 0 bs) m.len hh';have:=RelO.grow (w:=W) (ok:=okOf X (π++[.slice (some ⟨w.heap.size,0,none⟩) bs.length (c+1)]) (objs++[some (gL e 1 eU8 0 bs)])) (π:=π++[.slice (some ⟨w.heap.size,0,none⟩) bs.length (c+1)]) (e:=e) (s:=1) (b:=w.heap.size) (o:=0) (c:=c) (xs:=bs.map eU8) (us:=bs.map fun b=>Value.int .u8 (b.toNat:Int))
    (vs:=BC) (rd:=fun i=>eU8 (bs.getD i 0)) (fz:=(BC.length,BC.length+1)) hnew (fun q hq=>by omega) (zam bs) (fun q hq=>?_) (by rw [List.length_map];exact hc1) hc2 (by omega) (z6b eU8 0 bs)
   ·rw [List.length_map]at this;exact this
   ·rw [hls]at hq;have h1:=hcell q (by rw [hsize];exact hq);have h2:=cell_of_heap (i:=q) hnew;rw [h2]at h1;rw [Nat.zero_add,h1];simp [hq,List.getD_eq_getElem?_getD]
end
end Ab
namespace Go.Proofs.YtbodbhpdelgpnaaGreatDoor
open Go Ab Go.RowKit
def exm:List Nd:=[⟨kSort,0,[],[2],[]⟩,⟨zq,1,[],[],[]⟩,⟨kSort,0,[],[1],[]⟩,⟨z2n,3,[2],[],[]⟩,⟨kBad,0,[4],[],[]⟩]
theorem zc4:Ty exm:=by
 refine⟨by decide,?_,⟨?_,?_⟩⟩
 ·intro j hj
  match j,hj with
  | 0,_=>exact⟨by decide,by decide,by decide,by decide,by decide,by decide,by decide,by decide⟩
  | 1,_=>exact⟨by decide,by decide,by decide,by decide,by decide,by decide,by decide,by decide⟩
  | 2,_=>exact⟨by decide,by decide,by decide,by decide,by decide,by decide,by decide,by decide⟩
  | 3,_=>exact⟨by decide,by decide,by decide,by decide,by decide,by decide,by decide,by decide⟩
  | 4,_=>exact⟨by decide,by decide,by decide,by decide,by decide,by decide,by decide,by decide⟩
  | n+5,h=>exact absurd h (by show ¬n+5<5;omega)
 ·have sr:∀j,j<5→0<(nd exm j).s→SortAt exm (nd exm j):=by
   intro j hj
   match j,hj with
   | 0,_=>exact fun h=>absurd h (by decide)
   | 1,_=>exact fun _=>⟨by decide,by decide,rfl,by decide⟩
   | 2,_=>exact fun h=>absurd h (by decide)
   | 3,_=>exact fun _=>⟨by decide,by decide,rfl,by decide⟩
   | 4,_=>exact fun h=>absurd h (by decide)
   | n+5,h=>exact absurd h (by omega)
  have hd:∀j,j<5→AskOk exm j (nd exm j):=by
   intro j hj
   match j,hj with
   | 0,_=>refine⟨?_,?_,?_,?_,?_,?_,?_,?_,?_,?_,?_⟩<;>first|decide|(unfold sameP;decide)|(intro h;exact absurd h (by decide))
   | 1,_=>refine⟨?_,?_,?_,?_,?_,?_,?_,?_,?_,?_,?_⟩<;>first|decide|(unfold sameP;decide)|(intro h;exact absurd h (by decide))
   | 2,_=>refine⟨?_,?_,?_,?_,?_,?_,?_,?_,?_,?_,?_⟩<;>first|decide|(unfold sameP;decide)|(intro h;exact absurd h (by decide))
   | 3,_=>refine⟨?_,?_,?_,?_,?_,?_,?_,?_,?_,?_,?_⟩<;>first|decide|(unfold sameP;decide)|(intro h;exact absurd h (by decide))
   | 4,_=>refine⟨?_,?_,?_,?_,?_,?_,?_,?_,?_,?_,?_⟩<;>first|decide|(unfold sameP;decide)|(intro h;exact absurd h (by decide))
   | n+5,h=>exact absurd h (by omega)
  intro j hj;have hj:j<5:=hj;refine⟨sr j hj,?_,?_,hd j hj⟩
  ·match j,hj with
   | 0,_=>decide
   | 1,_=>decide
   | 2,_=>decide
   | 3,_=>decide
   | 4,_=>decide
   | n+5,h=>exact absurd h (by omega)
  ·match j,hj with
   | 0,_=>decide
   | 1,_=>decide
   | 2,_=>decide
   | 3,_=>decide
   | 4,_=>decide
   | n+5,h=>exact absurd h (by omega)
 ·intro j hj;have hj:j<5:=hj
  match j,hj with
  | 0,_=>exact fun h=>absurd h (by decide)
  | 1,_=>exact fun h=>absurd h (by decide)
  | 2,_=>exact fun h=>absurd h (by decide)
  | 3,_=>exact fun h=>absurd h (by decide)
  | 4,_=>exact fun h=>absurd h (by decide)
  | n+5,h=>exact absurd h (by omega)
theorem zdj:MdB exm:=by
 refine⟨by decide,?_⟩;intro x hx;simp only [exm,List.mem_cons,List.not_mem_nil,or_false]at hx;rcases hx with rfl|rfl|rfl|rfl|rfl<;>exact⟨by decide,by decide,by decide,by decide⟩
def exT(s:List UInt8):Wt:=⟨0,[],[[s]]⟩
def exR:List UInt8:=[115,97,116,10,98,48,10,35,48,10,64,48,10,48,32,49,120,10,46,10]
theorem ex_sm(s:List UInt8)(h:s.length≤200):SmW (exT s) 1000:=by
 refine⟨by show 1≤1000;decide,by show 0≤40;decide,fun s hs=>(by cases hs),fun l hl=>?_⟩;obtain rfl:=List.mem_singleton.1 hl;refine⟨by show 1≤40;decide,fun x hx=>?_⟩;obtain rfl:=List.mem_singleton.1 hx;exact h
theorem itoa0:tItoa 0=[48]:=by
 rw [show(0:Int)=((0:Nat):Int)from rfl,show tItoa ((0:Nat):Int)=Go.Lib.decDigits 0 from Go.Lib.itoa_nonneg 0,Go.Lib.decDigits];rfl
theorem ex_r:z2k (shL exm) (exT [49,120])=true:=by decide
theorem ex_t:wtT (exT [49,120])=exR:=by
 simp only [wtT,exT,z1b,z1g,z6c,rowT,itoa0,show tItoa ((0:Nat):Int)=[48]from itoa0];rfl
theorem ex_p:prW (shL exm) (exT [49,120])=tupOf [vTx exR,vI .i64 0]:=by
 unfold prW;rw [if_pos ex_r,ex_t]
theorem zqv:wtP (shL exm) exR=.inr (exT [49,120],20):=by
 have:=zpf (sh_in zc4).2 (by decide) ex_r (by rw [ex_t];decide);rw [ex_t]at this;exact this
theorem ex_w1:z8c exm (exT [49,48])=0:=by decide
theorem ex_w2:z8c exm (exT [48,48])=8:=by decide
theorem ex_w3:z8c exm (exT [49,120])=7:=by decide
theorem zs3:totB (exT [49,120])=false∧totB (exT [49,48])=true:=by decide
theorem zum{α:Type}{s:Nat}{e:α→D}{d:α}:DLe (.v (.slice none 0 0)) (eL s e d []):=fun _ _ _ h=>by cases h with|v _=>exact .nil (Nat.zero_le _)
theorem z6e(s:List UInt8):VLe (.d (.ag [.v (.int .i64 0),.v (.slice none 0 0),.sl 1 [.sl 1 [dSL s] (litRd [dSL s])] (litRd [.sl 1 [dSL s] (litRd [dSL s])])])) (.d (eWt (exT s))):=by
 refine VLe.dag ⟨.refl _,zum,dleS (ys:=[[s]].map eSs) ⟨CLe.sl (CLes.refl _) (z6b dSL [] [s]),trivial⟩ (z6b eSs [] [[s]]),trivial⟩
@[reducible] def rdN(op:List UInt8)(s:Int)(a n:D):D:=.ag [dSL op,eI s,a,n,dSL []]
@[reducible] def sl1(x:Int):D:=.sl 1 [eI x] (litRd [eI x])
@[reducible] def exD:List D:=[rdN kSort 0 nilD (sl1 2),rdN zq 1 nilD nilD,rdN kSort 0 nilD (sl1 1),rdN z2n 3 (sl1 2) nilD,rdN kBad 0 (sl1 4) nilD]
theorem z93:VLe (.d (.ag [.sl 5 exD (litRd exD)])) (.d (eBt exm)):=by
 refine VLe.dag ⟨dleS (ys:=exm.map eNd) ?_ (z6b eNd default exm),trivial⟩;exact⟨cleA ⟨.refl _,.refl _,dleN,dleI [2],.refl _,trivial⟩,cleA ⟨.refl _,.refl _,dleN,dleN,.refl _,trivial⟩,cleA ⟨.refl _,.refl _,dleN,dleI [1],.refl _,trivial⟩,cleA ⟨.refl _,.refl _,dleI [2],dleN,.refl _,trivial⟩,cleA ⟨.refl _,.refl _,dleI [4],dleN,.refl _,trivial⟩,trivial⟩
theorem zfk:ACall Tryz.prog 8 [] [] (fun r o=>r=vB true):=by
 refine yN Tryz.func8 fun C hC hCl hDs hGk=>?_;have c1:=zag exm zdj zc4 (exT [49,120]) (ex_sm _ (by decide));rw [ex_p]at c1;have c2:=zgu exm zdj zc4 exR (by decide);rw [zqv]at c2;have c3:=z5q exm zdj zc4 (exT [49,120]) (fun s hs=>by cases hs) (fun f hf s hs=>by obtain rfl:=List.mem_singleton.1 hf;obtain rfl:=List.mem_singleton.1 hs;decide);rw [ex_r]at c3;have c4:=z7p (exT [49,120]) (by decide);rw [zs3.1]at c4;have c5:=z7p (exT [49,48]) (by decide);rw [zs3.2]at c5;have c6:=z7o exm zdj zc4 (exT [49,48]) (ex_sm _ (by decide));rw [ex_w1]at c6;have c7:=z7o exm zdj zc4 (exT [48,48]) (ex_sm _ (by decide));rw [ex_w2]at c7;have c8:=z7o exm zdj zc4 (exT [49,120]) (ex_sm _ (by decide));rw [ex_w3]at c8;refine yV Tryz.func8 rfl trivial c1 ⟨z93,z6e _,trivial⟩ ?_;refine yX 60 Tryz.func8 rfl trivial ?_;refine zps (bs:=exR) tabOk rfl rfl rfl rfl rfl rfl rfl rfl rfl rfl (by decide) rfl ?_;refine za 2 rfl ?_;refine yV Tryz.func8 rfl trivial c2 ⟨z93,VLe.eL rfl,trivial⟩ ?_;refine yT Tryz.func8 rfl trivial ?_;refine yT Tryz.func8 rfl trivial ?_;refine yB Tryz.func8 rfl trivial (fun _=>?_) (fun h=>?_);rotate_left
 ·have h:((⟨exR.toArray⟩:ByteArray).toList==(⟨exR.toArray⟩:ByteArray).toList)=false:=h;rw [strEq,decide_eq_true rfl]at h;cases h
 refine yB Tryz.func8 rfl trivial (fun _=>?_) (fun h=>absurd h (by decide));refine yV Tryz.func8 rfl trivial (zcr (exT [49,120]) (exT [49,120])) ⟨z6e _,.refl _,trivial⟩ ?_;rw [zax.2 rfl];refine yT Tryz.func8 rfl trivial ?_;refine yV Tryz.func8 rfl trivial c3 ⟨z93,z6e _,trivial⟩ ?_;refine yT Tryz.func8 rfl trivial ?_;refine yV Tryz.func8 rfl trivial c4 ⟨z6e _,trivial⟩ ?_;refine yT Tryz.func8 rfl trivial ?_;refine yV Tryz.func8 rfl trivial c5 ⟨z6e _,trivial⟩ ?_;refine yT Tryz.func8 rfl trivial ?_;refine yV Tryz.func8 rfl trivial c6 ⟨z93,z6e _,trivial⟩ ?_;refine yT Tryz.func8 rfl trivial ?_;refine yV Tryz.func8 rfl trivial c7 ⟨z93,z6e _,trivial⟩ ?_;refine yT Tryz.func8 rfl trivial ?_;refine yV Tryz.func8 rfl trivial c8 ⟨z93,z6e _,trivial⟩ ?_;exact yR Tryz.func8 rfl trivial rfl
theorem u8eq(c:UInt8)(n:Nat)(hn:n<256):((c.toNat:Int)==(n:Int))=(c==UInt8.ofNat n):=by
 rw [Bool.eq_iff_iff,beq_iff_eq,beq_iff_eq,←UInt8.toNat_inj,UInt8.toNat_ofNat',Nat.mod_eq_of_lt hn];omega
theorem zrb(c:UInt8):ACall Tryz.prog 95 [.d (eU8 c)] [] (fun r o=>r=vB (isB c)):=by
 refine yN Tryz.func95 fun C hC hCl hDs hGk=>?_;have e1:=u8eq c 48 (by decide);have e2:=u8eq c 49 (by decide);have e3:=u8eq c 120 (by decide);refine yB Tryz.func95 rfl trivial (fun h=>?_) (fun h=>?_)
 ·have h:((c.toNat:Int)==((48:Nat):Int))=true:=h;rw [e1]at h;repeat refine yT Tryz.func95 rfl trivial ?_
  refine yR Tryz.func95 rfl trivial ?_;unfold isB;rw [show(c==48)=true from h];rfl
 have h:((c.toNat:Int)==((48:Nat):Int))=false:=h;rw [e1]at h;refine yB Tryz.func95 rfl trivial (fun h2=>?_) (fun h2=>?_)
 ·have h2:((c.toNat:Int)==((49:Nat):Int))=true:=h2;rw [e2]at h2;refine yR Tryz.func95 rfl trivial ?_;unfold isB;rw [show(c==49)=true from h2,Bool.or_true];rfl
 have h2:((c.toNat:Int)==((49:Nat):Int))=false:=h2;rw [e2]at h2;refine yR Tryz.func95 rfl trivial ?_;show vB ((c.toNat:Int)==((120:Nat):Int))=_;rw [e3];unfold isB;rw [show(c==48)=false from h,show(c==49)=false from h2];rfl
theorem zmc(s:List UInt8)(w:Int)(hl:s.length≤1000000000):ACall Tryz.prog 67 [vSL s,vI .i64 w] [] (fun r o=>r=vB (rowB s w)):=by
 refine yN Tryz.func67 fun C hC hCl hDs hGk=>?_;refine yS Tryz.func67 rfl trivial ?_;refine z8 (α:=Nat) (fun i=>[(0,vSL s),(1,vI .i64 w),(5,vI .i64 (i:Int))]) (fun _=>[]) (fun i=>i≤s.length∧∀q,q<i→isB (s.getD q 0)=true) (fun i=>s.length-i) 0 ⟨Nat.zero_le _,fun q hq=>by omega⟩ ?_ ?_
 ·exact fun h=>yE h (eAl rfl) trivial
 rintro i ⟨hi,hc⟩ ih;refine yB Tryz.func67 rfl trivial (fun hb=>?_) (fun hb=>?_)
 ·have hb:decide ((i:Int)<(((⟨s.toArray⟩:ByteArray).size:Nat):Int))=true:=hb;rw [zj,decide_eq_true_eq]at hb;have hlt:i<s.length:=by omega
  refine yV Tryz.func67 rfl ?_ (zrb (s.getD i 0)) ⟨.of ?_,trivial⟩ ?_
  ·show(0≤(i:Int)∧(i:Int)<(((⟨s.toArray⟩:ByteArray).size:Nat):Int))∧True;rw [zj];exact⟨⟨by omega,by omega⟩,trivial⟩
  ·show vI .u8 (bt ⟨s.toArray⟩ (i:Int).toNat)=_;rw [Int.toNat_natCast,zm];rfl
  cases hbit:isB (s.getD i 0)with
  | false=>
   refine yT Tryz.func67 rfl trivial ?_;refine yR Tryz.func67 rfl trivial ?_;have:s.all isB=false:=List.all_eq_false.2 ⟨_,z2g hlt,by rw [hbit];decide⟩;unfold rowB;rw [this,Bool.and_false];rfl
  | true=>
   refine yF Tryz.func67 rfl trivial ?_;refine yS Tryz.func67 rfl trivial ?_;refine yE (ih (i+1) ⟨by omega,fun q hq=>?_⟩ (by omega)) ⟨erl rfl,erl rfl,erw rfl,trivial⟩ trivial;rcases Nat.lt_or_ge q i with h|h
   ·exact hc q h
   ·obtain rfl:q=i:=by omega
    exact hbit
 ·have hb:decide ((i:Int)<(((⟨s.toArray⟩:ByteArray).size:Nat):Int))=false:=hb;rw [zj,decide_eq_false_iff_not]at hb;obtain rfl:i=s.length:=by omega
  refine yR Tryz.func67 rfl trivial ?_;show vB ((((⟨s.toArray⟩:ByteArray).size:Nat):Int)==w)=_;have:s.all isB=true:=by
   rw [List.all_eq_true];intro c hcm;obtain⟨q,hq,rfl⟩:=List.getElem_of_mem hcm;have:=hc q hq;rwa [z4p hq]at this
  unfold rowB;rw [zj,this,Bool.and_true];congr 3
theorem zd2(l:List Nd)(hm:MdB l)(ty:Ty l)(op:List UInt8)(ho:isVal op=true)(f:List (List UInt8))(hs:∀s∈f,s.length≤1000000000)(hfl:f.length≤1000000000)(ws:List (Int×List UInt8))(hw:ws.map (·.1)=(allL l op l.length).map fun s=>wdN l (ln l s)):ACall Tryz.prog 34 [.d (eBt l),vSL op,.d (eSs f)] [] (fun r o=>r=vB (rowsB f ws)):=by
 refine yN Tryz.func34 fun C hC hCl hDs hGk=>?_;have hl:=ty.small;have hall:=@zf3 l ty op ho;have hq:=@z5d f ws;have hwl:ws.length=(allL l op l.length).length:=by
  have:=congrArg List.length hw;simpa using this
 rw [hw,hwl]at hq;refine yV Tryz.func34 rfl trivial (z5n l op hl) (.refl _) ?_;have hal:=z1f l op l.length;generalize allL l op l.length=al at *;generalize rowsB f ws=res at *;have no:¬(f.length=al.length∧∀j,j<f.length→rowB (f.getD j []) ((al.map fun s=>wdN l (ln l s)).getD j 0)=true)→vB false=vB res:=fun h=>by
  cases res with
  | false=>rfl
  | true=>exact absurd (hq.1 rfl) h
 refine yB Tryz.func34 rfl trivial (fun h=>?_) (fun h=>?_)
 ·have h:(((al.map eI).length:Int) !=((f.map dSL).length:Int))=true:=h;refine yR Tryz.func34 rfl trivial (no fun hh=>?_);simp [hh.1]at h
 have h:(((al.map eI).length:Int) !=((f.map dSL).length:Int))=false:=h;have hlen:f.length=al.length:=by simp at h;omega
 refine yS Tryz.func34 rfl trivial ?_;refine z8 (α:=Nat) (fun i=>[(2,.d (eSs f)),(3,.ptr 0 0),(7,.d (eIs al)),(8,vI .i64 (i:Int))]) (fun i=>[some (bBt l)]) (fun i=>i≤f.length∧∀j,j<i→rowB (f.getD j []) ((al.map fun s=>wdN l (ln l s)).getD j 0)=true) (fun i=>f.length-i) 0 ⟨Nat.zero_le _,fun q hq=>by omega⟩ ?_ ?_
 ·exact fun h=>yE h (eAl rfl) (oAl rfl)
 rintro i ⟨hi,hc⟩ ih;refine yB Tryz.func34 rfl trivial (fun hb=>?_) (fun hb=>?_)<;>simp only [List.length_map,decide_eq_true_eq,decide_eq_false_iff_not]at hb
 ·have hlt:i<f.length:=by omega
  have hlt2:i<al.length:=by omega
  have ha:=hall hlt2;have e1:IntKind.i64.wrap (al.getD i 0-1)=al.getD i 0-1:=z6 (by omega) (by omega);have hS:=(val_s ty (j:=(al.getD i 0-1).toNat) (by omega) ha.2.2).2;have eg:(al.map fun s=>wdN l (ln l s)).getD i 0=wdN l (ln l (al.getD i 0)):=by simp [hlt2]
  refine yO 15 Tryz.func34 rfl trivial ?_;refine yQ Tryz.func68 rfl ?_ (z71 l (ln l (al.getD i 0)) hS.lo hS.hi hS.n (Nat.le_of_lt ty.lt)) ⟨.refl _,.of ?_,trivial⟩ ?_
  ·simp only [Int.toNat_natCast,e1,List.length_map];exact⟨⟨by omega,by omega⟩,⟨by omega,by omega⟩,⟨by omega,by omega⟩,trivial⟩
  ·show AV.d (eNd (l.getD (IntKind.i64.wrap (al.getD i 0-1)).toNat default))=_;rw [e1]
  refine yq rfl trivial ?_;refine yV Tryz.func34 rfl trivial (zmc (f.getD i []) (wdN l (ln l (al.getD i 0))) (hs _ (z2g hlt))) (.refl _) ?_;cases hr:rowB (f.getD i []) (wdN l (ln l (al.getD i 0)))with
  | false=>
   refine yT Tryz.func34 rfl trivial ?_;refine yR Tryz.func34 rfl trivial (no fun hh=>?_);have:=hh.2 i hlt;rw [eg,hr]at this;cases this
  | true=>
   refine yF Tryz.func34 rfl trivial ?_;refine yS Tryz.func34 rfl trivial ?_;refine yE (ih (i+1) ⟨by omega,fun j hj=>?_⟩ (by omega)) ⟨erl rfl,erl rfl,erl rfl,erw rfl,trivial⟩ (oAl rfl);rcases Nat.lt_or_ge j i with h|h
   ·exact hc j h
   ·obtain rfl:j=i:=by omega
    rw [eg];exact hr
 ·obtain rfl:i=f.length:=by omega
  refine yR Tryz.func34 rfl trivial ?_;rw [hq.2 ⟨hlen,hc⟩];rfl
theorem zhh(l:List Nd)(hm:MdB l)(ty:Ty l)(s:Int):ACall Tryz.prog 35 [.d (eBt l),vI .i64 s] [] (fun r o=>r=vSL (z1x l s)):=by
 refine yN Tryz.func35 fun C hC hCl hDs hGk=>?_;refine yV Tryz.func35 rfl trivial (zg5 l kInit s ty.small (ziz ty (.inl rfl))) (.refl _) ?_;unfold z1x;cases hj:ofJ l kInit s with
 | none=>
  refine yT Tryz.func35 rfl trivial ?_;exact yR Tryz.func35 rfl trivial rfl
 | some j=>
  refine yF Tryz.func35 rfl trivial ?_;obtain⟨o1,o2,o3,o4,o5⟩:=zeh ty (.inl rfl) hj;have hl:=ty.small;have ew:IntKind.i64.wrap (ofV l kInit s-1)=ofV l kInit s-1:=z6 (by omega) (by omega);refine yR Tryz.func35 rfl ?_ ?_
  ·rw [ew,List.length_map];exact⟨⟨by omega,by omega⟩,trivial⟩
  ·show vSL (l.getD (IntKind.i64.wrap (ofV l kInit s-1)).toNat default).t=vSL (l.getD (ofV l kInit s-1).toNat default).t;rw [ew]
theorem zln(l:List Nd):(shL l).st.map (·.1)=(allL l ze l.length).map fun s=>wdN l (ln l s):=by
 unfold shL;rw [List.map_map];rfl
theorem zsk(l:List Nd):(shL l).st.map (·.2)=(allL l ze l.length).map (z1x l):=by
 unfold shL;rw [List.map_map];rfl
theorem znk(l:List Nd):(shL l).inw.map (·.1)=(allL l zq l.length).map fun s=>wdN l (ln l s):=by
 unfold shL;rw [List.map_map];rfl
theorem SmW.rows{t:Wt}{n:Nat}(sm:SmW t n):(∀s∈t.init,s.length≤1000000000)∧∀f∈t.ins,f.length≤1000000000∧∀s∈f,s.length≤1000000000:=
 ⟨fun s hs=>by have:=sm.r s hs;omega,fun f hf=>⟨by have:=(sm.l f hf).1;omega,fun s hs=>by have:=(sm.l f hf).2 s hs;omega⟩⟩
theorem z5w(l:List Nd)(hm:MdB l)(ty:Ty l)(t:Wt)(sm:SmW t 1000):ACall Tryz.prog 14 [.d (eBt l),.d (eWt t)] [] (fun r o=>r=vB (z2k (shL l) t)):=by
 refine yN Tryz.func14 fun C hC hCl hDs hGk=>?_;have hl:=ty.small;obtain⟨sr,si⟩:=sm.rows;have sn:=sm.n;refine yV Tryz.func14 rfl trivial (zd2 l hm ty ze rfl t.init sr (by have:=sm.i;omega) (shL l).st (zln l)) (.refl _) ?_;have hq:=@z3i (shL l) t;have hbd:(shL l).bads=((allL l kBad l.length).length:Int):=rfl;have no:¬((0≤t.bad∧t.bad<(shL l).bads∧1≤t.ins.length∧t.ins.length≤200)∧rowsB t.init (shL l).st=true∧z4y t.init (shL l).st=true∧∀f∈t.ins,rowsB f (shL l).inw=true)→vB false=vB (z2k (shL l) t):=fun hn=>by
  cases hr:z2k (shL l) t with
  | false=>rfl
  | true=>exact absurd (hq.1 hr) hn
 cases hr:rowsB t.init (shL l).st with
 | false=>
  rw [hr]at no;refine yO 13 Tryz.func14 rfl trivial ?_;refine yb rfl trivial (fun _=>?_) (fun hx=>by cases hx);refine yb rfl trivial (fun _=>?_) (fun hx=>by cases hx);refine yq rfl trivial ?_;repeat refine yT Tryz.func14 rfl trivial ?_
  exact yR Tryz.func14 rfl trivial (no fun hh=>by cases hh.2.1)
 | true=>
  refine yO 13 Tryz.func14 rfl trivial ?_;refine yb rfl trivial (fun hx=>by cases hx) (fun _=>?_);refine yb rfl trivial (fun h1=>?_) (fun h1=>?_)
  ·have h1:decide (t.bad<0)=true:=h1;rw [decide_eq_true_eq]at h1;refine yq rfl trivial ?_;repeat refine yT Tryz.func14 rfl trivial ?_
   exact yR Tryz.func14 rfl trivial (no fun hh=>by omega)
  have h1:decide (t.bad<0)=false:=h1;rw [decide_eq_false_iff_not]at h1;refine yQ Tryz.func22 rfl trivial (z5n l kBad hl) (.refl _) ?_;refine yq rfl trivial ?_;refine yB Tryz.func14 rfl trivial (fun h2=>?_) (fun h2=>?_)
  ·have h2:decide (t.bad≥((((allL l kBad l.length).map eI).length:Nat):Int))=true:=h2;rw [decide_eq_true_eq,List.length_map]at h2;repeat refine yT Tryz.func14 rfl trivial ?_
   exact yR Tryz.func14 rfl trivial (no fun hh=>by rw [hbd]at hh;omega)
  have h2:decide (t.bad≥((((allL l kBad l.length).map eI).length:Nat):Int))=false:=h2;rw [decide_eq_false_iff_not,List.length_map]at h2;refine yB Tryz.func14 rfl trivial (fun h3=>?_) (fun h3=>?_)
  ·have h3:decide (((t.ins.map eSs).length:Int)<1)=true:=h3;rw [decide_eq_true_eq,List.length_map]at h3;repeat refine yT Tryz.func14 rfl trivial ?_
   exact yR Tryz.func14 rfl trivial (no fun hh=>by omega)
  have h3:decide (((t.ins.map eSs).length:Int)<1)=false:=h3;rw [decide_eq_false_iff_not,List.length_map]at h3;refine yB Tryz.func14 rfl trivial (fun h4=>?_) (fun h4=>?_)
  ·have h4:decide (((t.ins.map eSs).length:Int)>200)=true:=h4;rw [decide_eq_true_eq,List.length_map]at h4;exact yR Tryz.func14 rfl trivial (no fun hh=>by omega)
  have h4:decide (((t.ins.map eSs).length:Int)>200)=false:=h4;rw [decide_eq_false_iff_not,List.length_map]at h4;refine yV Tryz.func14 rfl trivial (z5n l ze hl) (.refl _) ?_;have hlen:=(z5d.1 hr).1;have hstl:(shL l).st.length=(allL l ze l.length).length:=by
   unfold shL;rw [List.length_map]
  have hf:=z9b hlen;rw [zsk,hstl]at hf;rw [hstl]at hlen;have hal:=z1f l ze l.length;generalize hA:allL l ze l.length=al at *;refine yS Tryz.func14 rfl trivial ?_;refine z8 (α:=Nat) (fun i=>[(2,.ptr 0 0),(3,.ptr 1 0),(6,.d (eIs al)),(7,vI .i64 (i:Int))]) (fun i=>[some (bBt l),some (bWt t)]) (fun i=>i≤al.length∧∀j,j<i→(al.map (z1x l)).getD j []=[]∨t.init.getD j []=(al.map (z1x l)).getD j []) (fun i=>al.length-i) 0 ⟨Nat.zero_le _,fun j hj=>by omega⟩ ?_ ?_
  ·exact fun hh=>yE hh (eAl rfl) (oAl rfl)
  rintro i ⟨hi2,hc⟩ ih;refine yB Tryz.func14 rfl trivial (fun hb=>?_) (fun hb=>?_)<;>simp only [List.length_map,decide_eq_true_eq,decide_eq_false_iff_not]at hb
  ·have hlt:i<al.length:=by omega
   have ih:=ih (i+1);have eg:(al.map (z1x l)).getD i []=z1x l (al.getD i 0):=by simp [hlt]
   rw [←hA]at hlt;refine yO 5 Tryz.func14 rfl trivial ?_;refine yq rfl ?_ ?_
   ·rw [hA]at hlt;exact(by simp [andP]<;>omega)
   rw [hA]at hlt;refine yV Tryz.func14 rfl trivial (zhh l hm ty (al.getD i 0)) (.refl _) ?_;have hnx:((al.map (z1x l)).getD i []=[]∨t.init.getD i []=(al.map (z1x l)).getD i [])→∀j,j<i+1→(al.map (z1x l)).getD j []=[]∨t.init.getD j []=(al.map (z1x l)).getD j []:=fun hh j hj=>by
    rcases Nat.lt_or_ge j i with h5|h5
    ·exact hc j h5
    ·obtain rfl:j=i:=by omega
     exact hh
   refine yB Tryz.func14 rfl trivial (fun hb2=>?_) (fun hb2=>?_)
   ·have hb2:(!((⟨(z1x l (al.getD i 0)).toArray⟩:ByteArray).toList==(⟨([]:List UInt8).toArray⟩:ByteArray).toList))=true:=hb2;rw [strEq,Bool.not_eq_true',decide_eq_false_iff_not]at hb2;refine yB Tryz.func14 rfl (by simp [andP]<;>omega) (fun hb3=>?_) (fun hb3=>?_)
    ·have hb3:(!((⟨(z1x l (al.getD i 0)).toArray⟩:ByteArray).toList==(⟨(t.init.getD (i:Int).toNat []).toArray⟩:ByteArray).toList))=true:=hb3;rw [strEq,Int.toNat_natCast,Bool.not_eq_true',decide_eq_false_iff_not]at hb3;refine yR Tryz.func14 rfl trivial (no fun hh=>?_);rcases(hf.1 hh.2.2.1) i hlt with h5|h5
     ·exact hb2 (by rw [←eg];exact h5)
     ·exact hb3 (by rw [←eg];exact h5.symm)
    ·have hb3:(!((⟨(z1x l (al.getD i 0)).toArray⟩:ByteArray).toList==(⟨(t.init.getD (i:Int).toNat []).toArray⟩:ByteArray).toList))=false:=hb3;rw [strEq,Int.toNat_natCast,Bool.not_eq_false',decide_eq_true_eq]at hb3;refine yS Tryz.func14 rfl trivial ?_;exact yE (ih ⟨by omega,hnx (.inr (by rw [eg];exact hb3.symm))⟩ (by omega)) ⟨erl rfl,erl rfl,erl rfl,erw rfl,trivial⟩ (oAl rfl)
   ·have hb2:(!((⟨(z1x l (al.getD i 0)).toArray⟩:ByteArray).toList==(⟨([]:List UInt8).toArray⟩:ByteArray).toList))=false:=hb2;rw [strEq,Bool.not_eq_false',decide_eq_true_eq]at hb2;refine yF Tryz.func14 rfl trivial ?_;refine yS Tryz.func14 rfl trivial ?_;exact yE (ih ⟨by omega,hnx (.inl (by rw [eg];exact hb2))⟩ (by omega)) ⟨erl rfl,erl rfl,erl rfl,erw rfl,trivial⟩ (oAl rfl)
  ·obtain rfl:i=al.length:=by omega
   have hfb:=hf.2 hc;refine yS Tryz.func14 rfl trivial ?_;refine z8 (α:=Nat) (fun i=>[(2,.ptr 0 0),(3,.ptr 1 0),(9,vI .i64 (i:Int))]) (fun i=>[some (bBt l),some (bWt t)]) (fun i=>i≤t.ins.length∧∀j,j<i→rowsB (t.ins.getD j []) (shL l).inw=true) (fun i=>t.ins.length-i) 0 ⟨Nat.zero_le _,fun j hj=>by omega⟩ ?_ ?_
   ·exact fun hh=>yE hh (eAl rfl) (oAl rfl)
   rintro i ⟨hi3,hc2⟩ ih2;refine yB Tryz.func14 rfl trivial (fun hb=>?_) (fun hb=>?_)<;>simp only [List.length_map,decide_eq_true_eq,decide_eq_false_iff_not]at hb
   ·have hlt:i<t.ins.length:=by omega
    have hmem:=z2g (d:=[]) hlt;refine yO 6 Tryz.func14 rfl trivial ?_;refine yq rfl ?_ ?_
    ·exact(by simp [andP]<;>omega)
    refine yV Tryz.func14 rfl trivial (zd2 l hm ty zq rfl (t.ins.getD i []) (si _ hmem).2 (si _ hmem).1 (shL l).inw (znk l)) (.refl _) ?_;cases hro:rowsB (t.ins.getD i []) (shL l).inw with
    | false=>
     refine yT Tryz.func14 rfl trivial ?_;refine yR Tryz.func14 rfl trivial (no fun hh=>?_);rw [hh.2.2.2 _ hmem]at hro;cases hro
    | true=>
     refine yF Tryz.func14 rfl trivial ?_;refine yS Tryz.func14 rfl trivial ?_;refine yE (ih2 (i+1) ⟨by omega,fun j hj=>?_⟩ (by omega)) ⟨erl rfl,erl rfl,erw rfl,trivial⟩ (oAl rfl);rcases Nat.lt_or_ge j i with h5|h5
     ·exact hc2 j h5
     ·obtain rfl:j=i:=by omega
      exact hro
   ·obtain rfl:i=t.ins.length:=by omega
    refine yR Tryz.func14 rfl trivial ?_;rw [hq.2 ⟨⟨by omega,by rw [hbd];omega,by omega,by omega⟩,hr,hfb,fun f hfm=>?_⟩]
    ·rfl
    ·obtain⟨q,hq2,rfl⟩:=List.getElem_of_mem hfm;have:=hc2 q hq2;rwa [z4p hq2]at this
theorem zb5(a b:List (List UInt8)):ACall Tryz.prog 39 [.d (eSs a),.d (eSs b)] [] (fun r o=>r=vB (decide (a=b))):=by
 refine yN Tryz.func39 fun C hC hCl hDs hGk=>?_;refine z6i (t:=0) rfl fun hlen=>?_;rw [List.length_map]at hlen;refine yB Tryz.func39 rfl trivial (fun h=>?_) (fun h=>?_)
 ·refine yR Tryz.func39 rfl trivial ?_;show vB false=vB _;have:a≠b:=by rintro rfl;simp at h
  simp [this]
 have hl:a.length=b.length:=by simp at h;omega
 refine yS Tryz.func39 rfl trivial ?_;refine z8 (α:=Nat) (fun i=>[(0,.d (eSs a)),(1,.d (eSs b)),(5,vI .i64 i)]) (fun _=>[]) (fun i=>i≤a.length∧a.take i=b.take i) (fun i=>a.length-i) 0 ⟨Nat.zero_le _,rfl⟩ ?_ ?_
 ·exact fun h=>yE h (eAl rfl) trivial
 rintro i ⟨hi,hc⟩ ih;refine yB Tryz.func39 rfl trivial (fun hb=>?_) (fun hb=>?_)<;>simp only [decide_eq_true_eq,decide_eq_false_iff_not,List.length_map]at hb
 ·have hlt:i<a.length:=by omega
  have hlb:i<b.length:=by omega
  have ea:a.getD i []=a[i]:=by simp [hlt]
  have eb:b.getD i []=b[i]:=by simp [hlb]
  refine yO 8 Tryz.func39 rfl trivial ?_;refine yq rfl ?_ ?_
  ·exact(by simp [andP]<;>omega)
  refine yB Tryz.func39 rfl trivial (fun hb2=>?_) (fun hb2=>?_)
  ·have hb2:(!((⟨(a.getD (i:Int).toNat []).toArray⟩:ByteArray).toList==(⟨(b.getD (i:Int).toNat []).toArray⟩:ByteArray).toList))=true:=hb2;rw [strEq,Int.toNat_natCast,Bool.not_eq_true',decide_eq_false_iff_not]at hb2;refine yR Tryz.func39 rfl trivial ?_;show vB false=vB _;have:a≠b:=by rintro rfl;exact hb2 rfl
   simp [this]
  ·have hb2:(!((⟨(a.getD (i:Int).toNat []).toArray⟩:ByteArray).toList==(⟨(b.getD (i:Int).toNat []).toArray⟩:ByteArray).toList))=false:=hb2;rw [strEq,Int.toNat_natCast,Bool.not_eq_false',decide_eq_true_eq,ea,eb]at hb2;refine yS Tryz.func39 rfl trivial ?_;refine yE (ih (i+1) ⟨by omega,?_⟩ (by omega)) ⟨erl rfl,erl rfl,erw rfl,trivial⟩ trivial;rw [List.take_add_one,List.take_add_one,hc,List.getElem?_eq_getElem hlt,List.getElem?_eq_getElem hlb,hb2]
 ·obtain rfl:i=a.length:=by omega
  rw [List.take_length,hl,List.take_length]at hc;refine yR Tryz.func39 rfl trivial ?_;show vB true=vB _;simp [hc]
theorem zg3(s t:Wt)(hsl:s.ins.length≤1000000):ACall Tryz.prog 16 [.d (eWt s),.d (eWt t)] [] (fun r o=>r=vB (sameW s t)):=by
 refine yN Tryz.func16 fun C hC hCl hDs hGk=>?_;have no:¬(s=t)→vB false=vB (sameW s t):=fun hn=>by
  cases hr:sameW s t with
  | false=>rfl
  | true=>exact absurd (zax.1 hr) hn
 refine yV Tryz.func16 rfl trivial (zb5 s.init t.init) (.refl _) ?_;by_cases h1:s.init=t.init
 rotate_left
 ·rw [decide_eq_false h1];repeat refine yT Tryz.func16 rfl trivial ?_
  exact yR Tryz.func16 rfl trivial (no fun e=>h1 (by rw [e]))
 rw [decide_eq_true h1];refine yF Tryz.func16 rfl trivial ?_;refine yB Tryz.func16 rfl trivial (fun h2=>?_) (fun h2=>?_)
 ·have h2:(!(s.bad==t.bad))=true:=h2;rw [Bool.not_eq_true',beq_eq_false_iff_ne]at h2;repeat refine yT Tryz.func16 rfl trivial ?_
  exact yR Tryz.func16 rfl trivial (no fun e=>h2 (by rw [e]))
 have h2:(!(s.bad==t.bad))=false:=h2;rw [Bool.not_eq_false',beq_iff_eq]at h2;refine yB Tryz.func16 rfl trivial (fun h3=>?_) (fun h3=>?_)
 ·have h3:(!((((s.ins.map eSs).length:Nat):Int)==(((t.ins.map eSs).length:Nat):Int)))=true:=h3;rw [Bool.not_eq_true',beq_eq_false_iff_ne,List.length_map,List.length_map]at h3;exact yR Tryz.func16 rfl trivial (no fun e=>h3 (by rw [e]))
 have h3:(!((((s.ins.map eSs).length:Nat):Int)==(((t.ins.map eSs).length:Nat):Int)))=false:=h3;rw [Bool.not_eq_false',beq_iff_eq,List.length_map,List.length_map]at h3;have hl:s.ins.length=t.ins.length:=by omega
 refine yS Tryz.func16 rfl trivial ?_;refine z8 (α:=Nat) (fun i=>[(2,.ptr 0 0),(3,.ptr 1 0),(6,vI .i64 i)]) (fun _=>[some (bWt s),some (bWt t)]) (fun i=>i≤s.ins.length∧s.ins.take i=t.ins.take i) (fun i=>s.ins.length-i) 0 ⟨Nat.zero_le _,rfl⟩ ?_ ?_
 ·exact fun h=>yE h (eAl rfl) (oAl rfl)
 rintro i ⟨hi,hc⟩ ih;refine yB Tryz.func16 rfl trivial (fun hb=>?_) (fun hb=>?_)<;>simp only [decide_eq_true_eq,decide_eq_false_iff_not,List.length_map]at hb
 ·have hlt:i<s.ins.length:=by omega
  have hlb:i<t.ins.length:=by omega
  have ea:s.ins.getD i []=s.ins[i]:=by simp [hlt]
  have eb:t.ins.getD i []=t.ins[i]:=by simp [hlb]
  refine yO 10 Tryz.func16 rfl trivial ?_;refine yq rfl ?_ ?_
  ·exact(by simp [andP]<;>omega)
  refine yV Tryz.func16 rfl trivial (zb5 (s.ins.getD i []) (t.ins.getD i [])) (.refl _) ?_;by_cases h4:s.ins.getD i []=t.ins.getD i []
  ·rw [decide_eq_true h4];refine yF Tryz.func16 rfl trivial ?_;refine yS Tryz.func16 rfl trivial ?_;rw [ea,eb]at h4;refine yE (ih (i+1) ⟨by omega,?_⟩ (by omega)) ⟨erl rfl,erl rfl,erw rfl,trivial⟩ (oAl rfl);rw [List.take_add_one,List.take_add_one,hc,List.getElem?_eq_getElem hlt,List.getElem?_eq_getElem hlb,h4]
  ·rw [decide_eq_false h4];refine yT Tryz.func16 rfl trivial ?_;exact yR Tryz.func16 rfl trivial (no fun e=>h4 (by rw [e]))
 ·obtain rfl:i=s.ins.length:=by omega
  rw [List.take_length,hl,List.take_length]at hc;refine yR Tryz.func16 rfl trivial ?_;have:sameW s t=true:=by
   rw [zax];cases s;cases t;simp only at h1 h2 hc;rw [h1,h2,hc]
  rw [this];rfl
theorem zma(l:List (List UInt8))(hs:∀s∈l,s.length≤1000000000):ACall Tryz.prog 44 [.d (eSs l)] [] (fun r o=>r=vB (xL l)):=by
 refine yN Tryz.func44 fun C hC hCl hDs hGk=>?_;refine z6i (t:=0) rfl fun hlen=>?_;rw [List.length_map]at hlen;refine yS Tryz.func44 rfl trivial ?_;refine z8 (α:=Nat) (fun i=>[(0,.d (eSs l)),(3,vI .i64 (i:Int))]) (fun _=>[]) (fun i=>i≤l.length∧∀q,q<i→xS (l.getD q [])=false) (fun i=>l.length-i) 0 ⟨Nat.zero_le _,fun q hq=>by omega⟩ ?_ ?_
 ·exact fun h=>yE h (eAl rfl) trivial
 rintro i ⟨hi,hc⟩ ih;refine yB Tryz.func44 rfl trivial (fun hb=>?_) (fun hb=>?_)<;>simp only [decide_eq_true_eq,decide_eq_false_iff_not,List.length_map]at hb
 ·have hlt:i<l.length:=by omega
  have hmem:=z2g (d:=[]) hlt;have hs1:=hs _ hmem;refine yS Tryz.func44 rfl trivial ?_;refine z8 (α:=Nat) (fun j=>[(0,.d (eSs l)),(3,vI .i64 (i:Int)),(4,vI .i64 (j:Int))]) (fun _=>[]) (fun j=>j≤(l.getD i []).length∧∀q,q<j→((l.getD i []).getD q 0==120)=false) (fun j=>(l.getD i []).length-j) 0 ⟨Nat.zero_le _,fun q hq=>by omega⟩ ?_ ?_
  ·exact fun h=>yE h (eAl rfl) trivial
  rintro j ⟨hj,hc2⟩ ih2;refine yB Tryz.func44 rfl (by simp [andP]<;>omega) (fun hb3=>?_) (fun hb3=>?_)
  ·have hb3:decide ((j:Int)<(((⟨(l.getD (i:Int).toNat []).toArray⟩:ByteArray).size:Nat):Int))=true:=hb3;rw [zj,Int.toNat_natCast,decide_eq_true_eq]at hb3;have hjl:j<(l.getD i []).length:=by omega
   have hu:=u8eq ((l.getD i []).getD j 0) 120 (by decide);refine yB Tryz.func44 rfl ?_ (fun g=>?_) (fun g=>?_)
   ·show(0≤(j:Int)∧(j:Int)<(((⟨(l.getD (i:Int).toNat []).toArray⟩:ByteArray).size:Nat):Int))∧(0≤(i:Int)∧(i:Int)<((l.map dSL).length:Int))∧True;rw [zj,Int.toNat_natCast,List.length_map];exact⟨⟨by omega,by omega⟩,⟨by omega,by omega⟩,trivial⟩
   ·have g:(bt ⟨(l.getD (i:Int).toNat []).toArray⟩ (j:Int).toNat==((120:Nat):Int))=true:=g;rw [zm,Int.toNat_natCast,Int.toNat_natCast,hu]at g;refine yR Tryz.func44 rfl trivial ?_;have:xL l=true:=List.any_eq_true.2 ⟨_,hmem,List.any_eq_true.2 ⟨_,z2g hjl,g⟩⟩;rw [this];rfl
   ·have g:(bt ⟨(l.getD (i:Int).toNat []).toArray⟩ (j:Int).toNat==((120:Nat):Int))=false:=g;rw [zm,Int.toNat_natCast,Int.toNat_natCast,hu]at g;refine yS Tryz.func44 rfl trivial ?_;refine yE (ih2 (j+1) ⟨by omega,fun q hq=>?_⟩ (by omega)) ⟨erl rfl,erl rfl,erw rfl,trivial⟩ trivial;rcases Nat.lt_or_ge q j with h|h
    ·exact hc2 q h
    ·obtain rfl:q=j:=by omega
     exact g
  ·have hb3:decide ((j:Int)<(((⟨(l.getD (i:Int).toNat []).toArray⟩:ByteArray).size:Nat):Int))=false:=hb3;rw [zj,Int.toNat_natCast,decide_eq_false_iff_not]at hb3;obtain rfl:j=(l.getD i []).length:=by omega
   refine yS Tryz.func44 rfl trivial ?_;refine yE (ih (i+1) ⟨by omega,fun q hq=>?_⟩ (by omega)) ⟨erl rfl,erw rfl,trivial⟩ trivial;rcases Nat.lt_or_ge q i with h|h
   ·exact hc q h
   ·obtain rfl:q=i:=by omega
    exact zcc (d:=0) hc2
 ·obtain rfl:i=l.length:=by omega
  refine yR Tryz.func44 rfl trivial ?_;rw [xL,zcc hc];rfl
theorem zb4(t:Wt)(hi:∀s∈t.init,s.length≤1000000000)(hs:∀f∈t.ins,∀s∈f,s.length≤1000000000)(hl:t.ins.length≤1000000):ACall Tryz.prog 18 [.d (eWt t)] [] (fun r o=>r=vB (totB t)):=by
 refine yN Tryz.func18 fun C hC hCl hDs hGk=>?_;refine yV Tryz.func18 rfl trivial (zma t.init hi) (.refl _) ?_;cases h1:xL t.init with
 | true=>
  refine yT Tryz.func18 rfl trivial ?_;refine yR Tryz.func18 rfl trivial ?_;unfold totB;rw [List.any_cons,h1];rfl
 | false=>
  refine yF Tryz.func18 rfl trivial ?_;refine yS Tryz.func18 rfl trivial ?_;refine z8 (α:=Nat) (fun i=>[(1,.ptr 0 0),(4,vI .i64 (i:Int))]) (fun _=>[some (bWt t)]) (fun i=>i≤t.ins.length∧∀q,q<i→xL (t.ins.getD q [])=false) (fun i=>t.ins.length-i) 0 ⟨Nat.zero_le _,fun q hq=>by omega⟩ ?_ ?_
  ·exact fun h=>yE h (eAl rfl) (oAl rfl)
  rintro i ⟨hi2,hc⟩ ih;refine yB Tryz.func18 rfl trivial (fun hb=>?_) (fun hb=>?_)<;>simp only [decide_eq_true_eq,decide_eq_false_iff_not,List.length_map]at hb
  ·have hlt:i<t.ins.length:=by omega
   have hmem:=z2g (d:=[]) hlt;refine yV Tryz.func18 rfl (by simp [andP]<;>omega) (zma (t.ins.getD i []) (hs _ hmem)) (.refl _) ?_;cases h2:xL (t.ins.getD i [])with
   | true=>
    refine yT Tryz.func18 rfl trivial ?_;refine yR Tryz.func18 rfl trivial ?_;unfold totB;rw [List.any_cons,List.any_eq_true.2 ⟨_,hmem,h2⟩,Bool.or_true];rfl
   | false=>
    refine yF Tryz.func18 rfl trivial ?_;refine yS Tryz.func18 rfl trivial ?_;refine yE (ih (i+1) ⟨by omega,fun q hq=>?_⟩ (by omega)) ⟨erl rfl,erw rfl,trivial⟩ (oAl rfl);rcases Nat.lt_or_ge q i with h|h
    ·exact hc q h
    ·obtain rfl:q=i:=by omega
     exact h2
  ·obtain rfl:i=t.ins.length:=by omega
   refine yR Tryz.func18 rfl trivial ?_;unfold totB;rw [List.any_cons,h1,zcc hc];rfl
def smB(t:Wt)(most:Nat):Bool:=decide (t.ins.length≤most)&&decide (t.init.length≤40)&&(t.init::t.ins).all fun l=>decide (l.length≤40)&&l.all fun s=>decide (s.length≤200)
theorem zrr{t:Wt}{n:Nat}(h:smB t n=true):SmW t n:=by
 unfold smB at h;simp only [Bool.and_eq_true,decide_eq_true_eq,List.all_eq_true,List.mem_cons]at h;obtain⟨⟨h1,h2⟩,h3⟩:=h;exact⟨h1,h2,(h3 _ (.inl rfl)).2,fun l hl=>h3 l (.inr hl)⟩
theorem SmW.mono{t:Wt}{n m:Nat}(h:SmW t n)(hm:n≤m):SmW t m:=⟨Nat.le_trans h.n hm,h.i,h.r,h.l⟩
theorem zb7(t:Wt)(n:Nat)(hn:n≤1000)(hw:t.ins.length*24+24≤140737488355328):ACall Tryz.prog 10 [.d (eWt t),vI .i64 (n:Int)] [] (fun r o=>r=vB (smB t n)):=by
 refine yN Tryz.func10 fun C hC hCl hDs hGk=>?_;refine yB Tryz.func10 rfl trivial (fun h1=>?_) (fun h1=>?_)
 ·have h1:decide (((t.ins.map eSs).length:Int)>(n:Int))=true:=h1;rw [decide_eq_true_eq,List.length_map]at h1;repeat refine yT Tryz.func10 rfl trivial ?_
  refine yR Tryz.func10 rfl trivial ?_;unfold smB;rw [decide_eq_false (by omega)];rfl
 have h1:decide (((t.ins.map eSs).length:Int)>(n:Int))=false:=h1;rw [decide_eq_false_iff_not,List.length_map]at h1;refine yB Tryz.func10 rfl trivial (fun h2=>?_) (fun h2=>?_)
 ·have h2:decide (((t.init.map dSL).length:Int)>40)=true:=h2;rw [decide_eq_true_eq,List.length_map]at h2;refine yR Tryz.func10 rfl trivial ?_;unfold smB;rw [decide_eq_false (show ¬t.init.length≤40 by omega),Bool.and_false];rfl
 have h2:decide (((t.init.map dSL).length:Int)>40)=false:=h2;rw [decide_eq_false_iff_not,List.length_map]at h2;have hsm:smB t n=(t.init::t.ins).all fun l=>decide (l.length≤40)&&l.all fun s=>decide (s.length≤200):=by
  unfold smB;rw [decide_eq_true (by omega),decide_eq_true (by omega)];rfl
 rw [hsm];refine yX 6 Tryz.func10 rfl trivial ?_;refine ze3 _ tabOk rfl rfl rfl rfl rfl trivial rfl ?_;refine yS Tryz.func10 rfl ?_ ?_
 ·show([eSs t.init].length+(t.ins.map eSs).length)*24≤140737488355328∧True;rw [List.length_map];exact⟨by show(1+t.ins.length)*24≤_;omega,trivial⟩
 refine za 1 rfl ?_;have hLl:(t.init::t.ins).length≤1001:=by simp;omega
 refine zv (env':=[(5,.d (eSss (t.init::t.ins))),(6,vI .i64 ((0:Nat):Int))]) (objs':=[]) ?_ hC hCl ⟨⟨_,rfl,.eL rfl⟩,⟨_,rfl,.refl _⟩,trivial⟩ trivial rfl rfl (Nat.zero_le _);generalize t.init::t.ins=L at *;refine z8 (α:=Nat) (fun i=>[(5,.d (eSss L)),(6,vI .i64 (i:Int))]) (fun _=>[]) (fun i=>i≤L.length∧∀q,q<i→(decide ((L.getD q []).length≤40)&&(L.getD q []).all fun s=>decide (s.length≤200))=true) (fun i=>L.length-i) 0 ⟨Nat.zero_le _,fun q hq=>by omega⟩ ?_ ?_
 ·exact fun h=>yE h (eAl rfl) trivial
 rintro i ⟨hi,hc⟩ ih;refine yB Tryz.func10 rfl trivial (fun hb=>?_) (fun hb=>?_)<;>simp only [decide_eq_true_eq,decide_eq_false_iff_not,List.length_map]at hb
 ·have hlt:i<L.length:=by omega
  have hmem:=z2g (d:=[]) hlt;have no:(decide ((L.getD i []).length≤40)&&(L.getD i []).all fun s=>decide (s.length≤200))=false→vB false=vB (L.all fun l=>decide (l.length≤40)&&l.all fun s=>decide (s.length≤200)):=fun h=>by
   rw [List.all_eq_false.2 ⟨_,hmem,by rw [h];decide⟩]
  refine yB Tryz.func10 rfl (by simp [andP]<;>omega) (fun g=>?_) (fun g=>?_)
  ·have g:decide ((((L.getD (i:Int).toNat []).map dSL).length:Int)>40)=true:=g;rw [decide_eq_true_eq,Int.toNat_natCast,List.length_map]at g;refine yR Tryz.func10 rfl trivial (no ?_);rw [decide_eq_false (by omega),Bool.false_and]
  have g:decide ((((L.getD (i:Int).toNat []).map dSL).length:Int)>40)=false:=g;rw [decide_eq_false_iff_not,Int.toNat_natCast,List.length_map]at g;have g40:decide ((L.getD i []).length≤40)=true:=decide_eq_true (by omega);rw [g40,Bool.true_and]at no;refine yS Tryz.func10 rfl trivial ?_;refine z8 (α:=Nat) (fun j=>[(5,.d (eSss L)),(6,vI .i64 (i:Int)),(7,vI .i64 (j:Int))]) (fun _=>[]) (fun j=>j≤(L.getD i []).length∧∀q,q<j→decide (((L.getD i []).getD q []).length≤200)=true) (fun j=>(L.getD i []).length-j) 0 ⟨Nat.zero_le _,fun q hq=>by omega⟩ ?_ ?_
  ·exact fun h=>yE h (eAl rfl) trivial
  rintro j ⟨hj,hc2⟩ ih2;refine yB Tryz.func10 rfl (by simp [andP]<;>omega) (fun hb3=>?_) (fun hb3=>?_)
  ·have hb3:decide ((j:Int)<(((L.getD (i:Int).toNat []).map dSL).length:Int))=true:=hb3;rw [List.length_map,Int.toNat_natCast,decide_eq_true_eq]at hb3;have hjl:j<(L.getD i []).length:=by omega
   refine yB Tryz.func10 rfl ?_ (fun k=>?_) (fun k=>?_)
   ·show(0≤(j:Int)∧(j:Int)<(((L.getD (i:Int).toNat []).map dSL).length:Int))∧(0≤(i:Int)∧(i:Int)<((L.map eSs).length:Int))∧True;rw [List.length_map,Int.toNat_natCast,List.length_map];exact⟨⟨by omega,by omega⟩,⟨by omega,by omega⟩,trivial⟩
   ·have k:decide ((((⟨((L.getD (i:Int).toNat []).getD (j:Int).toNat []).toArray⟩:ByteArray).size:Nat):Int)>200)=true:=k;rw [zj,Int.toNat_natCast,Int.toNat_natCast,decide_eq_true_eq]at k;refine yR Tryz.func10 rfl trivial (no ?_);exact List.all_eq_false.2 ⟨_,z2g (d:=[]) hjl,by rw [decide_eq_false (by omega)];decide⟩
   ·have k:decide ((((⟨((L.getD (i:Int).toNat []).getD (j:Int).toNat []).toArray⟩:ByteArray).size:Nat):Int)>200)=false:=k;rw [zj,Int.toNat_natCast,Int.toNat_natCast,decide_eq_false_iff_not]at k;refine yS Tryz.func10 rfl trivial ?_;refine yE (ih2 (j+1) ⟨by omega,fun q hq=>?_⟩ (by omega)) ⟨erl rfl,erl rfl,erw rfl,trivial⟩ trivial;rcases Nat.lt_or_ge q j with h|h
    ·exact hc2 q h
    ·obtain rfl:q=j:=by omega
     exact decide_eq_true (by omega)
  ·have hb3:decide ((j:Int)<(((L.getD (i:Int).toNat []).map dSL).length:Int))=false:=hb3;rw [List.length_map,Int.toNat_natCast,decide_eq_false_iff_not]at hb3;obtain rfl:j=(L.getD i []).length:=by omega
   refine yS Tryz.func10 rfl trivial ?_;refine yE (ih (i+1) ⟨by omega,fun q hq=>?_⟩ (by omega)) ⟨erl rfl,erw rfl,trivial⟩ trivial;rcases Nat.lt_or_ge q i with h|h
   ·exact hc q h
   ·obtain rfl:q=i:=by omega
    rw [g40,Bool.true_and,List.all_eq_true];intro s hs;obtain⟨k,hk,rfl⟩:=List.getElem_of_mem hs;have:=hc2 k hk;rwa [z4p hk]at this
 ·obtain rfl:i=L.length:=by omega
  refine yR Tryz.func10 rfl trivial ?_;have:(L.all fun l=>decide (l.length≤40)&&l.all fun s=>decide (s.length≤200))=true:=by
   rw [List.all_eq_true];intro s hs;obtain⟨k,hk,rfl⟩:=List.getElem_of_mem hs;have:=hc k hk;rwa [z4p hk]at this
  rw [this];rfl
end Go.Proofs.YtbodbhpdelgpnaaGreatDoor
namespace Go.Proofs.YtbodbhpdelgpnaaGreatDoor
open Go Ab Go.RowKit Go.Lib
theorem zgm(u:Nat):(decDigits u).length≤u+1:=by
 induction u using Nat.strongRecOn with
 | _ u ih=>
  rw [decDigits];split
  ·simp
  ·have:=ih (u / 10) (by omega);simp only [List.length_append,List.length_cons,List.length_nil];omega
theorem zgt(u:Nat)(hu:u≤1000000000):ACall Tryz.prog 29 [vI .i64 (u:Int)] [] (fun r o=>r=vTx (decDigits u)):=by
 induction u using Nat.strongRecOn with
 | _ u ih=>
  refine yN Tryz.func29 fun C hC hCl hDs hGk=>?_;refine yB Tryz.func29 rfl trivial (fun h=>?_) (fun h=>?_)
  ·have h:decide ((u:Int)<0)=true:=h;rw [decide_eq_true_eq]at h;omega
  have hm:((u:Int)).tmod 10=((u%10:Nat):Int):=by
   rw [Int.tmod_eq_emod_of_nonneg (by omega)];omega
  have hq:((u:Int)).tdiv 10=((u / 10:Nat):Int):=by
   rw [Int.tdiv_eq_ediv_of_nonneg (by omega)];omega
  have hw:IntKind.i64.wrap (48+((u:Int)).tmod 10)=((48+u%10:Nat):Int):=by
   rw [hm,z6 (by omega) (by omega)];omega
  have hd:IntKind.u8.wrap (IntKind.i64.wrap (48+((u:Int)).tmod 10))=(((UInt8.ofNat (48+u%10)).toNat:Nat):Int):=by
   rw [hw,UInt8.toNat_ofNat',Nat.mod_eq_of_lt (show 48+u%10<2^8 by omega)];simp [IntKind.wrap,IntKind.bits,IntKind.signed];omega
  have hs:strD [D.v (Value.int .u8 (IntKind.u8.wrap (IntKind.i64.wrap (48+((u:Int)).tmod 10))))]=⟨[UInt8.ofNat (48+u%10)].toArray⟩:=by
   rw [hd];exact zh2 [UInt8.ofNat (48+u%10)]
  refine yB Tryz.func29 rfl ⟨fun x hx=>by rw [List.mem_singleton.1 hx];rfl,by decide,trivial⟩ (fun h2=>?_) (fun h2=>?_)
  ·have h2:decide ((u:Int)<10)=true:=h2;rw [decide_eq_true_eq]at h2;refine yR Tryz.func29 rfl trivial ?_;rw [hs,decDigits,dif_pos (by omega),show u%10=u by omega];rfl
  ·have h2:decide ((u:Int)<10)=false:=h2;rw [decide_eq_false_iff_not]at h2;refine yC Tryz.func29 rfl ⟨by decide,trivial⟩ (ih (u / 10) (by omega) (by omega)) ⟨.of ?a0,trivial⟩ ?_;case a0=>
    rw [hq,z6 (by omega) (by omega)]
   rintro _ o rfl;have hl:=zgm (u / 10);refine yR Tryz.func29 rfl ?nd3 ?_;case nd3=>
    rw [hs,z6h,z6h];refine⟨?_,trivial⟩;simp only [List.length_cons,List.length_nil];omega
   rw [hs,z3f]
   conv=>rhs;rw [decDigits]
   rw [dif_neg (by omega)];rfl
theorem zb9(n:Int)(h0:0≤n)(h1:n≤1000000000):ACall Tryz.prog 29 [vI .i64 n] [] (fun r o=>r=vTx (tItoa n)):=by
 obtain⟨u,rfl⟩:∃u:Nat,n=u:=⟨n.toNat,by omega⟩
 have h:=zgt u (by omega);rwa [show decDigits u=tItoa (u:Int)from(itoa_nonneg u).symm]at h
theorem zb8(S:List UInt8)(l:List (List UInt8))(hA:∀s∈l,s.length≤200)(hl:l.length≤1000)(hS:S.length≤100000000):ACall Tryz.prog 28 [vTx S,.d (eSs l)] [] (fun r o=>r=vTx (S++z1b 0 l)):=by
 refine yN Tryz.func28 fun C hC hCl hDs hGk=>?_;refine yS Tryz.func28 rfl trivial ?_;have hlim:=z84 l hA hl;refine z8 (α:=Nat) (fun i=>[(0,vTx (S++z1b 0 (l.take i))),(1,.d (eSs l)),(5,vI .i64 (i:Int))]) (fun i=>[]) (fun i=>i≤l.length) (fun i=>l.length-i) 0 (Nat.zero_le _) ?_ ?_
 ·refine fun h=>yE h ⟨⟨_,rfl,.of ?_⟩,erl rfl,erl rfl,trivial⟩ trivial;rw [List.take_zero,z1b,List.append_nil]
 rintro i hi ih;refine yB Tryz.func28 rfl trivial (fun hb=>?_) (fun hb=>?_)<;>simp only [decide_eq_true_eq,decide_eq_false_iff_not,List.length_map]at hb
 ·have hlt:i<l.length:=by omega
  have eg:l.getD i []=l[i]:=by simp [hlt]
  have hs:=hA _ (List.getElem_mem hlt);have hT0:=hlim i;have hi10:=z54 (l:=(i:Int)) (by omega) (by omega);have hnext:z1b 0 (l.take (i+1))=z1b 0 (l.take i)++rowT i (l.getD i []):=by
   rw [List.take_succ_eq_append_getElem hlt,z85,←eg,Nat.zero_add,List.length_take,Nat.min_eq_left (by omega)]
  rw [zm3]at hnext;rw [←eg]at hs;have ih:=ih (i+1) (by omega) (by omega);rw [hnext]at ih;generalize z1b 0 (l.take i)=T0 at *;generalize hsi:l.getD i []=s at *;refine yO 9 Tryz.func28 rfl trivial ?_;refine yQ Tryz.func29 rfl trivial (zb9 (i:Int) (by omega) (by omega)) (.refl _) ?_;generalize tItoa (i:Int)=n at *;refine yq rfl ?_ ?_
  ·simp only [z3f,sizeL,List.length_append,List.length_cons,List.length_nil,List.length_map];exact⟨⟨by omega,by omega⟩,by omega,by omega,trivial⟩
  refine yS Tryz.func28 rfl ?_ ?_
  ·rw [Int.toNat_natCast,hsi];simp only [z3f,sizeL,List.length_append,List.length_cons,List.length_nil];exact⟨by omega,by omega,trivial⟩
  refine yE ih ⟨⟨_,rfl,.of ?_⟩,erl rfl,erw rfl,trivial⟩ trivial;rw [Int.toNat_natCast,hsi];simp only [z3f,List.append_assoc]
 ·obtain rfl:i=l.length:=by omega
  rw [List.take_length];exact yR Tryz.func28 rfl trivial rfl
theorem z9p:∀(r:List (List (List UInt8))) (k:Nat) (l:List (List UInt8)),z1g k (r++[l])=z1g k r++z6c (k+r.length) l
 | [],k,l=>by simp [z1g]
 | x::r,k,l=>by
  rw [List.cons_append,z1g,z1g,z9p r (k+1) l,List.append_assoc,List.length_cons,show k+1+r.length=k+(r.length+1)by omega]
theorem ze9(l:List Nd)(hm:MdB l)(ty:Ty l)(t:Wt)(sm:SmW t 1000):ACall Tryz.prog 12 [.d (eBt l),.d (eWt t)] [] (fun r o=>r=prW (shL l) t):=by
 refine yN Tryz.func12 fun C hC hCl hDs hGk=>?_;refine yV Tryz.func12 rfl trivial (z5w l hm ty t sm) (.refl _) ?_;unfold prW;cases hr:z2k (shL l) t with
 | false=>
  refine yT Tryz.func12 rfl trivial ?_;exact yR Tryz.func12 rfl trivial rfl
 | true=>
  refine yF Tryz.func12 rfl trivial ?_;obtain⟨⟨b0,b1,n0,n1⟩,r1,r2,r3⟩:=z3i.1 hr;have hbl:(shL l).bads≤1000000:=by
   have:=z1f l kBad l.length;have:=ty.small;show(((allL l kBad l.length).length:Nat):Int)≤1000000;omega
  generalize shL l=h at *;have hbt:=z54 (l:=t.bad) (by omega) (by omega);have hlin:=z84 t.init sm.r (by have:=sm.i;omega) t.init.length;rw [List.take_length]at hlin;refine yO 7 Tryz.func12 rfl trivial ?_;refine yQ Tryz.func29 rfl trivial (zb9 t.bad b0 (by omega)) (.refl _) ?_;refine yq rfl ?_ ?_
  ·simp only [z3f,sizeL,List.length_append,List.length_cons,List.length_nil];exact⟨by omega,by omega,trivial⟩
  refine yV Tryz.func12 rfl trivial (zb8 (kSat++tItoa t.bad++z3e) t.init sm.r (by have:=sm.i;omega) (by simp only [kSat,z3e,List.length_append,List.length_cons,List.length_nil];omega)) ⟨.of ?_,.refl _,trivial⟩ ?_
  ·show AV.d (.v (.string _))=vTx _;simp only [z3f];rfl
  refine yS Tryz.func12 rfl trivial ?_;have hfl:=fun i=>z87 (t.ins.take i) 0 (fun x hx=>sm.l x (List.mem_of_mem_take hx)) (by rw [List.length_take];omega)
  have hhd:(kSat++tItoa t.bad++z3e++z1b 0 t.init).length≤300000:=by
   simp only [kSat,z3e,List.length_append,List.length_cons,List.length_nil];omega
  have hw:wtT t=kSat++tItoa t.bad++z3e++z1b 0 t.init++z1g 0 t.ins++kEnd:=rfl;generalize kSat++tItoa t.bad++z3e++z1b 0 t.init=H at *;refine z8 (α:=Nat) (fun i=>[(2,.ptr 0 0),(3,.ptr 1 0),(7,vTx (H++z1g 0 (t.ins.take i))),(8,vI .i64 (i:Int))]) (fun i=>[some (bBt l),some (bWt t)]) (fun i=>i≤t.ins.length) (fun i=>t.ins.length-i) 0 (Nat.zero_le _) ?_ ?_
  ·refine fun hh=>yE hh ⟨erl rfl,erl rfl,⟨_,rfl,.of ?_⟩,erl rfl,trivial⟩ (oAl rfl);rw [List.take_zero,z1g,List.append_nil]
  rintro i hi ih;refine yB Tryz.func12 rfl trivial (fun hb=>?_) (fun hb=>?_)<;>simp only [decide_eq_true_eq,decide_eq_false_iff_not,List.length_map]at hb
  ·have hlt:i<t.ins.length:=by omega
   have eg:t.ins.getD i []=t.ins[i]:=by simp [hlt]
   obtain⟨s1,s2⟩:=sm.l _ (List.getElem_mem hlt);have ih:=ih (i+1) (by omega) (by omega);have hfi:=hfl i;rw [List.take_succ_eq_append_getElem hlt,z9p,←eg,Nat.zero_add,List.length_take,Nat.min_eq_left hi]at ih;rw [List.length_take]at hfi;rw [←eg]at s1 s2;generalize z1g 0 (t.ins.take i)=F at *;unfold z6c at ih;have hi10:=z54 (l:=(i:Int)) (by omega) (by omega);have hF:F.length≤200*8943:=by omega
   refine yO 11 Tryz.func12 rfl trivial ?_;refine yQ Tryz.func29 rfl ?_ (zb9 (i:Int) (by omega) (by omega)) (.refl _) ?_
   ·simp only [z3f,sizeL,List.length_append,List.length_cons,List.length_nil];exact⟨by omega,trivial⟩
   generalize tItoa (i:Int)=n at *;refine yq rfl ?_ ?_
   ·simp only [z3f,sizeL,List.length_append,List.length_cons,List.length_nil,List.length_map];exact⟨⟨by omega,by omega⟩,by omega,by omega,trivial⟩
   refine yV Tryz.func12 rfl trivial (zb8 (H++F++[64]++n++[10]) (t.ins.getD i []) s2 (by omega) (by simp only [List.length_append,List.length_cons,List.length_nil];omega)) ⟨.of ?_,.refl _,trivial⟩ ?_
   ·show AV.d (.v (.string _))=vTx _;simp only [z3f]
   refine yS Tryz.func12 rfl trivial ?_;refine yE ih ⟨erl rfl,erl rfl,⟨_,rfl,.of ?_⟩,erw rfl,trivial⟩ (oAl rfl);simp only [List.append_assoc]
  ·obtain rfl:i=t.ins.length:=by omega
   rw [List.take_length];have hfi:=hfl t.ins.length;rw [List.take_length]at hfi;refine yR Tryz.func12 rfl ?_ ?_
   ·simp only [z3f,sizeL,List.length_append,List.length_cons,List.length_nil];exact⟨by omega,trivial⟩
   ·show tupOf [.d (.v (.string _)),_]=_;simp only [z3f];rw [hw];rfl
theorem z9k(l:List (List UInt8))(h:∀s∈l,mkok s=true)(hl:l.length≤1000000):ACall Tryz.prog 48 [.d (eSs l)] [] (fun r o=>r=.d (eNums (vecsL l))):=by
 refine yN Tryz.func48 fun C hC hCl hDs hGk=>?_;refine yS Tryz.func48 rfl trivial ?_;refine z1j (s:=2) (e:=118) (t:=3) (.inl rfl) (fun i=>vN (nm [] i).1 (nm [] i).2) ?_;refine z8 (α:=Nat) (fun i=>[(0,.d (eSs l)),(3,.gs 0),(4,vI .i64 (i:Int))]) (fun i=>[some (gNums (vecsL (l.take i)))]) (fun i=>i≤l.length) (fun i=>l.length-i) 0 (Nat.zero_le _) ?_ ?_
 ·exact fun h=>yE h (eAl rfl) ⟨.gL rfl,trivial⟩
 rintro i hi ih;have ih:=ih (i+1);refine yB Tryz.func48 rfl trivial (fun hb=>?_) (fun hb=>?_)<;>simp only [decide_eq_true_eq,decide_eq_false_iff_not,List.length_map]at hb
 ·have hlt:i<l.length:=by omega
  have eg:l.getD i []=l[i]:=by simp [hlt]
  have hm:=h _ (List.getElem_mem hlt);have hvl:((vecsL (l.take i)).map fun p:Nat×Nat=>vN p.1 p.2).length=i:=by
   unfold vecsL;rw [List.length_map,List.length_map,List.length_take,Nat.min_eq_left hi]
  rw [←eg]at hm;refine yV Tryz.func48 rfl (by simp [andP]<;>omega) ((zd3 (l.getD i []) (by have:=zbn hm;omega)).mono fun r o hr=>hr.trans (zry hm)) (.refl _) ?_;refine yS Tryz.func48 rfl ?_ ?_
  ·rw [hvl];exact⟨by show(i+1)*32≤_;omega,trivial⟩
  refine yE (ih (by omega) (by omega)) ⟨erl rfl,erl rfl,erw rfl,trivial⟩ ⟨.gL ?_,trivial⟩;unfold vecsL;rw [List.take_succ_eq_append_getElem hlt,List.map_append,List.map_append,←eg];rfl
 ·obtain rfl:i=l.length:=by omega
  refine za 0 rfl ?_;rw [List.take_length];exact yR Tryz.func48 rfl trivial rfl
end Go.Proofs.YtbodbhpdelgpnaaGreatDoor
namespace Go.Proofs.YtbodbhpdelgpnaaGreatDoor
open Go Ab Go.RowKit
theorem zhf(l:List Nd)(hm:MdB l)(ty:Ty l)(t:Wt)(sm:SmW t 1000):ACall Tryz.prog 20 [.d (eBt l),.d (eWt t)] [] (fun r o=>r=vI .i64 (z8c l t)):=by
 refine yN Tryz.func20 fun C hC hCl hDs hGk=>?_;obtain⟨sr,si⟩:=sm.rows;refine yV Tryz.func20 rfl trivial (z5w l hm ty t sm) (.refl _) ?_;refine yV Tryz.func20 rfl trivial (zb4 t sr (fun f hf=>(si f hf).2) (by have:=sm.n;omega)) (.refl _) ?_;unfold z8c;cases hr:z2k (shL l) t with
 | false=>
  rw [if_neg (by rintro⟨h,-⟩;cases h)];repeat refine yT Tryz.func20 rfl trivial ?_
  exact yR Tryz.func20 rfl trivial rfl
 | true=>
  refine yF Tryz.func20 rfl trivial ?_;cases ht:totB t with
  | false=>
   rw [if_neg (by rintro⟨-,h⟩;cases h)];refine yT Tryz.func20 rfl trivial ?_;exact yR Tryz.func20 rfl trivial rfl
  | true=>
   rw [if_pos ⟨rfl,rfl⟩];refine yF Tryz.func20 rfl trivial ?_;obtain⟨⟨b0,b1,n0,n1⟩,r1,r2,r3⟩:=z3i.1 hr;unfold totB at ht;rw [Bool.not_eq_true',List.any_eq_false]at ht;have hxi:xL t.init=false:=by simpa using ht t.init (by simp)
   have hxf:∀f∈t.ins,xL f=false:=fun f hf=>by simpa using ht f (by simp [hf])
   obtain⟨k1,k2⟩:=za0 ty rfl (zln l) r1 hxi;have hkf:=fun f (hf:f∈t.ins)=>za0 ty rfl (znk l) (r3 f hf) (hxf f hf)
   have hbb:t.bad.toNat<(allL l kBad l.length).length:=by
    have:t.bad<(((allL l kBad l.length).length:Nat):Int):=b1;omega
   refine yV Tryz.func20 rfl trivial (z9k t.init k1 (by have:=sm.i;omega)) (.refl _) ?_;refine yS Tryz.func20 rfl trivial ?_;refine z8 (α:=Nat×List (Nat×Nat)×Bool) (fun s=>[(2,.ptr 0 0),(3,.ptr 1 0),(7,.d (eNums s.2.1)),(8,vB s.2.2),(9,vI .i64 (s.1:Int))]) (fun s=>[some (bBt l),some (bWt t)])
    (fun s=>s.1≤t.ins.length∧Fit l ze s.2.1∧goW l t.bad.toNat (t.ins.drop s.1) s.2.1 s.2.2=goW l t.bad.toNat t.ins (vecsL t.init) false) (fun s=>t.ins.length-s.1) (0,vecsL t.init,false) ⟨Nat.zero_le _,k2,rfl⟩ ?_ ?_
   ·exact fun h=>yE h (eAl rfl) (oAl rfl)
   rintro⟨i,s,last⟩ ⟨hi,hfit,hgo⟩ ih;simp only at hi hfit hgo ih ⊢;rw [←hgo];rw [←hgo]at ih;refine yB Tryz.func20 rfl trivial (fun hb=>?_) (fun hb=>?_)
   ·have hb:decide ((i:Int)<(((t.ins.map eSs).length:Nat):Int))=true:=hb;rw [decide_eq_true_eq,List.length_map]at hb;have hlt:i<t.ins.length:=by omega
    have eg:t.ins.getD i []=t.ins[i]:=by simp [hlt]
    have hmem:=List.getElem_mem hlt;obtain⟨f1,f2⟩:=hkf _ hmem;have s1:=(sm.l _ hmem).1;rw [←eg]at f1 f2 s1;have hvo:=z7r ty hfit f2 l.length (Nat.le_refl _);have hdr:goW l t.bad.toNat (t.ins.drop i) s last=goW l t.bad.toNat (t.ins.getD i []::t.ins.drop (i+1)) s last:=by rw [List.drop_eq_getElem_cons hlt,eg]
    rw [goW]at hdr;rw [hdr];rw [hdr]at ih;have hcl:=z9k (t.ins.getD i []) f1 (by omega);rw [show i=(i:Int).toNat from(Int.toNat_natCast i).symm]at hcl;have hVi:vecsL (t.ins.getD (i:Int).toNat [])=vecsL (t.ins.getD i []):=by rw [Int.toNat_natCast]
    rw [hVi]at hcl;generalize hvv:vecsL (t.ins.getD i [])=vv at *;refine z2d 16 13 15 (c:=none) (a:=.dead) (o2:=o2B (flagL l kBad (valL l s vv l.length) l.length) (flagL l zg (valL l s vv l.length) l.length)) tabOk Tryz.func20 rfl rfl trivial (by kernel_rfl) (by kernel_rfl) rfl rfl rfl (by kernel_rfl) (by rw [hCl,hC];exact Nat.zero_le _) rfl rfl rfl rfl rfl rfl
     (fun _=>yQ Tryz.func48 rfl (by simp [andP]<;>omega) hcl (.refl _) (yQ Tryz.func49 rfl trivial (zq0 l hm ty s vv hfit f2) (.refl _) (yq rfl trivial rfl)))
     (by rfl) (by rfl) (by rfl) (by rfl) trivial ?_
    generalize hV:valL l s vv l.length=V at *;have hflen:=zc2 l kBad V;generalize hc3:flagL l zg V l.length=cs at *;have hcl2:cs.length≤1000000:=by
     rw [←hc3,zc2];have:=z1f l zg l.length;have:=ty.small;omega
    refine yS Tryz.func20 rfl trivial ?_;refine z8 (α:=Nat) (fun k=>[(2,.ptr 0 0),(3,.ptr 1 0),(10,.d (eNums (nextL l V))),(11,.ptr 2 0),(9,vI .i64 (i:Int)),(13,vI .i64 (k:Int))]) (fun k=>[some (bBt l),some (bWt t),some (o2B (flagL l kBad V l.length) cs)]) (fun k=>k≤cs.length∧∀q,q<k→(false==cs.getD q false)=false) (fun k=>cs.length-k) 0 ⟨Nat.zero_le _,fun q hq=>by omega⟩ ?_ ?_
    ·exact fun h=>yE h (eAl rfl) (oAl rfl)
    rintro k ⟨hk,hck⟩ ih2;refine yB Tryz.func20 rfl trivial (fun hb2=>?_) (fun hb2=>?_)<;>simp only [decide_eq_true_eq,decide_eq_false_iff_not,List.length_map]at hb2
    ·have hkl:k<cs.length:=by omega
     refine yB Tryz.func20 rfl (by simp [andP]<;>omega) (fun g=>?_) (fun g=>?_)
     ·have g:(!(cs.getD (k:Int).toNat false))=true:=g;rw [Int.toNat_natCast,Bool.not_eq_true']at g;have:cs.contains false=true:=List.contains_iff_mem.2 (by rw [←g];exact z2g hkl);rw [this,if_pos rfl];exact yR Tryz.func20 rfl trivial rfl
     ·have g:(!(cs.getD (k:Int).toNat false))=false:=g;rw [Int.toNat_natCast,Bool.not_eq_false']at g;refine yS Tryz.func20 rfl trivial ?_;refine yE (ih2 (k+1) ⟨by omega,fun q hq=>?_⟩ (by omega)) ⟨erl rfl,erl rfl,erl rfl,erl rfl,erl rfl,erw rfl,trivial⟩ (oAl rfl);rcases Nat.lt_or_ge q k with h5|h5
      ·exact hck q h5
      ·obtain rfl:q=k:=by omega
       rw [g];rfl
    ·obtain rfl:k=cs.length:=by omega
     have hcn:cs.contains false=false:=by
      rw [List.contains_eq_any_beq,zcc (p:=fun x=>false==x) hck]
     rw [hcn,if_neg (by decide)]at ih ⊢;refine yS Tryz.func20 rfl ?_ ?_
     ·rw [List.length_map,hflen];exact⟨⟨by omega,by omega⟩,trivial⟩
     exact yE (ih (i+1,nextL l V,(flagL l kBad V l.length).getD t.bad.toNat false) ⟨by simp only;omega,zj3 ty hvo,rfl⟩ (by simp only;omega)) ⟨erl rfl,erl rfl,erl rfl,erl rfl,erw rfl,trivial⟩ (oAl rfl)
   ·have hb:decide ((i:Int)<(((t.ins.map eSs).length:Nat):Int))=false:=hb;rw [decide_eq_false_iff_not,List.length_map]at hb;obtain rfl:i=t.ins.length:=by omega
    rw [List.drop_length,goW];cases last with
    | false=>
     refine yF Tryz.func20 rfl trivial ?_;exact yR Tryz.func20 rfl trivial rfl
    | true=>
     refine yT Tryz.func20 rfl trivial ?_;exact yR Tryz.func20 rfl trivial rfl
theorem zst(h:Sh)(t:Wt):∃X E,prW h t=tupOf [vTx X,vI .i64 E]:=by
 unfold prW;split
 ·exact⟨_,_,rfl⟩
 ·exact⟨_,_,rfl⟩
@[reducible] def Rm(t:Wt):Prop:=t.ins.length*24+24≤140737488355328
theorem WwitTells_law(l:List Nd)(s t:Wt)(hm:MdB l)(hl:l.length<2000000000000)(hs:Rm s)(ht:Rm t):ACall Tryz.prog 3 [.d (eBt l),.d (eWt s),.d (eWt t)] [] (fun r o=>r=vB true):=by
 refine yN Tryz.func3 fun C hC hCl hDs hGk=>?_;refine yV Tryz.func3 rfl trivial zfk (.refl _) ?_;refine yC Tryz.func3 rfl trivial (zfa l hm 40 (by decide) hl) (.refl _) ?_ (hr:=by rintro r o ⟨b,rfl,-⟩;rfl);rintro r o ⟨b,rfl,hb⟩;cases b with
 | false=>
  repeat refine yT Tryz.func3 rfl trivial ?_
  exact yR Tryz.func3 rfl trivial rfl
 | true=>
  have ty:=(hb rfl).2;refine yF Tryz.func3 rfl trivial ?_;refine yV Tryz.func3 rfl trivial (zb7 s 210 (by decide) hs) (.refl _) ?_;cases h1:smB s 210 with
  | false=>
   repeat refine yT Tryz.func3 rfl trivial ?_
   exact yR Tryz.func3 rfl trivial rfl
  | true=>
   have s1:=(zrr h1).mono (m:=1000) (by decide);obtain⟨sr,si⟩:=s1.rows;refine yF Tryz.func3 rfl trivial ?_;refine yV Tryz.func3 rfl trivial (zb7 t 20 (by decide) ht) (.refl _) ?_;cases h2:smB t 20 with
   | false=>
    refine yT Tryz.func3 rfl trivial ?_;exact yR Tryz.func3 rfl trivial rfl
   | true=>
    have s2:=(zrr h2).mono (m:=1000) (by decide);refine yF Tryz.func3 rfl trivial ?_;have c1:=zag l hm ty s s1;have c2:=ze9 l hm ty s s1;obtain⟨X,E,hX⟩:=zst (shL l) s;rw [hX]at c1 c2;refine yV Tryz.func3 rfl trivial c1 (.refl _) ?_;refine yV Tryz.func3 rfl trivial c2 (.refl _) ?_;have sn:=s1.n;refine yO 42 Tryz.func3 rfl trivial ?_;refine yb rfl trivial (fun _=>?_) (fun h=>by cases h);refine yQ Tryz.func13 rfl trivial (z5q l hm ty s sr (fun f hf=>(si f hf).2)) (.refl _) ?_;refine yQ Tryz.func14 rfl trivial (z5w l hm ty s s1) (.refl _) ?_;refine yb rfl trivial (fun _=>?_) (fun h=>by have h:(z2k (shL l) s==z2k (shL l) s)=false:=h;rw [beq_self_eq_true]at h;cases h);refine yQ Tryz.func15 rfl trivial (zcr s t) (.refl _) ?_;refine yQ Tryz.func16 rfl trivial (zg3 s t (by omega)) (.refl _) ?_;refine yb rfl trivial (fun _=>?_) (fun h=>by have h:(sameW s t==sameW s t)=false:=h;rw [beq_self_eq_true]at h;cases h);refine yQ Tryz.func17 rfl trivial (z7p s (by omega)) (.refl _) ?_;refine yQ Tryz.func18 rfl trivial (zb4 s sr (fun f hf=>(si f hf).2) (by omega)) (.refl _) ?_;refine yb rfl trivial (fun _=>?_) (fun h=>by have h:(totB s==totB s)=false:=h;rw [beq_self_eq_true]at h;cases h);refine yb rfl trivial (fun _=>?_) (fun h=>by
     have h:((⟨X.toArray⟩:ByteArray).toList==(⟨X.toArray⟩:ByteArray).toList)=false:=h;rw [strEq,decide_eq_true rfl]at h;cases h)
    refine yb rfl trivial (fun _=>?_) (fun h=>by have h:(E==E)=false:=h;rw [beq_self_eq_true]at h;cases h);refine yQ Tryz.func19 rfl trivial (z7o l hm ty s s1) (.refl _) ?_;refine yq rfl trivial ?_;refine yV Tryz.func3 rfl trivial (zhf l hm ty s s1) (.refl _) ?_;refine yR Tryz.func3 rfl trivial ?_;show vB (z8c l s==z8c l s)=_;rw [beq_self_eq_true]
end Go.Proofs.YtbodbhpdelgpnaaGreatDoor
