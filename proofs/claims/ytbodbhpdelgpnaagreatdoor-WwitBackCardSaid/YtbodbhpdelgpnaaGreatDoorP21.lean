/- A part of the proof. -/
import Derived.Test.YtbodbhpdelgpnaaGreatDoorP20
import Derived.Lib.ConvBytes
import Derived.Lib.SlBytesConst
set_option linter.unusedVariables false
set_option linter.unusedSimpArgs false
set_option linter.unusedSectionVars false
set_option maxRecDepth 100000
set_option maxHeartbeats 8000000
namespace Ab
open Go
variable [Draws]
section
variable {P:Program}[Globals P]{T:Tab}{f:FuncId}{n:Nat}{C:Cx}{R:AV→List (Option AObj)→Prop}{env:Env}{objs:List (Option AObj)}{ops:Array Oper}
theorem zcw{i:Nat}{r:List Nat}{k:List Item}{o:Oper}{e2:Env}{src dst e:TypeId}{rs rd re:TRow}{xo:Operand}{bs:List UInt8}(hT:TabOk P T)(ho:ops[i]?=some o)(hw:wantE ops env o=.yes)(hop:o.op=.convert src dst xo)(hx:opnd env xo=some (.d (.v (.string ⟨bs.toArray⟩))))
  (hrs:tlook T src=some rs) (hks:rs.kd=.str) (hrd:tlook T dst=some rd) (hkd:rd.kd=.slice e) (hre:tlook T e=some re) (h8:re.kd=.int .u8) (hlen:bs.length≤1000000000)
  (hput:putE n o.dst (.gs objs.length) env=some e2) (h:ASat P f n C (.inRegion ops r::k) e2 (objs++[some (gL e 1 eU8 0 bs)]) R):ASat P f n C (.inRegion ops (i::r)::k) env objs R:=by
 refine z9y ⟨none,false,.gs objs.length,none,objs++[some (gL e 1 eU8 0 bs)]⟩ ho hw (fun X π w tmps m he _=>?_) trivial hput h;have hax:=z5h (P:=P) he hx;have hs:=z5b hT hrs hks;have hd:=z1h hT hrd hkd;have heU:=z9j hT hre h8;have hrun:=Go.Lib.run_convert_string_bytes (P:=P) w src dst e ⟨bs.toArray⟩ hs hd heU;have hsize:(⟨bs.toArray⟩:ByteArray).size=bs.length:=by simp [ByteArray.size]
 have hml:maxLen=9223372036854775807:=rfl;rw [hsize]at hrun;have hcell:=Go.Lib.bytesWorld_cell w e ⟨bs.toArray⟩;have hold:∀b,b<w.heap.size→(Go.Lib.bytesWorld w e ⟨bs.toArray⟩).heap[b]?=w.heap[b]?:=fun b hb=>Go.Lib.bytesWorld_at_old w e _ b hb
 have hnew:=Go.Lib.bytesWorld_at_new w e ⟨bs.toArray⟩;have hhs:=Go.Lib.bytesWorld_size w e ⟨bs.toArray⟩;have hout:(Go.Lib.bytesWorld w e ⟨bs.toArray⟩).os=w.os∧(Go.Lib.bytesWorld w e ⟨bs.toArray⟩).tape=w.tape∧(Go.Lib.bytesWorld w e ⟨bs.toArray⟩).output=w.output∧w.drawn≤(Go.Lib.bytesWorld w e ⟨bs.toArray⟩).drawn:=by
  unfold Go.Lib.bytesWorld World.freeze;rw [if_neg (by decide)];exact⟨rfl,rfl,rfl,Nat.le_succ _⟩
 have hc1:=grownCap_ge w bs.length 0 e;have hc2:=grownCap_le_maxLen w bs.length 0 e (by omega);have hclen:(Go.Lib.bytesCells w e ⟨bs.toArray⟩).size=grownCap w bs.length 0 e:=by
  simp only [Go.Lib.bytesCells,hsize,Array.size_append,Array.size_map,List.size_toArray,Array.size_replicate];omega
 generalize grownCap w bs.length 0 e=c at hc1 hc2 hclen hrun;generalize Go.Lib.bytesCells w e ⟨bs.toArray⟩=BC at hnew hclen;generalize Go.Lib.bytesWorld w e ⟨bs.toArray⟩=W at *;obtain⟨BC⟩:=BC;simp only [List.size_toArray]at hclen hnew;have hh':∀b,blk (.slice (some ⟨w.heap.size,0,none⟩) bs.length c)=some b→w.heap.size≤b:=by
  intro b hb;cases c<;>cases hb;exact Nat.le_refl _
 refine⟨.slice (some ⟨w.heap.size,0,none⟩) bs.length c,W,π++[.slice (some ⟨w.heap.size,0,none⟩) bs.length c],?_,z4k m hout.1 hout.2.1 ⟨hout.2.2.1,z17 hout.2.2.2⟩ (by rw [hhs];omega) hold _ (gL e 1 eU8 0 bs) hh' ?_,fun _=>.gs (z5f m.len _)⟩
 ·unfold execOp;rw [hop];simp only [Sem.run_bind,hax,hrun,Result.andThen_ok,Sem.run_pure];rfl
 ·cases c with
  | zero=>
   obtain rfl:bs=[]:=List.eq_nil_of_length_eq_zero (by omega);exact .gnil
  | succ c=>
   have hls:(bs.map fun b=>Value.int .u8 (b.toNat:Int)).length=bs.length:=by simp
   have hk:=z6n (X:=X) (π:=π) (objs:=objs) hold (.slice (some ⟨w.heap.size,0,none⟩) bs.length (c+1)) (gL e 1 eU8 0 bs) m.len hh';have:=RelO.grow (w:=W) (ok:=okOf X (π++[.slice (some ⟨w.heap.size,0,none⟩) bs.length (c+1)]) (objs++[some (gL e 1 eU8 0 bs)])) (π:=π++[.slice (some ⟨w.heap.size,0,none⟩) bs.length (c+1)]) (e:=e) (s:=1) (b:=w.heap.size) (o:=0) (c:=c) (xs:=bs.map eU8) (us:=bs.map fun b=>Value.int .u8 (b.toNat:Int))
    (vs:=BC) (rd:=fun i=>eU8 (bs.getD i 0)) (fz:=(BC.length,BC.length+1)) hnew (fun q hq=>by omega) (z9u bs) (fun q hq=>?_) (by rw [List.length_map];exact hc1) hc2 (by omega) (z5p eU8 0 bs)
   ·rw [List.length_map]at this;exact this
   ·rw [hls]at hq;have h1:=hcell q (by rw [hsize];exact hq);have h2:=cell_of_heap (i:=q) hnew;rw [h2]at h1;rw [Nat.zero_add,h1];simp [hq,List.getD_eq_getElem?_getD]
end
end Ab
namespace Go.Proofs.YtbodbhpdelgpnaaGreatDoor
open Go Ab Go.RowKit
def exm:List Nd:=[⟨kSort,0,[],[2],[]⟩,⟨zv,1,[],[],[]⟩,⟨kSort,0,[],[1],[]⟩,⟨z2e,3,[2],[],[]⟩,⟨kBad,0,[4],[],[]⟩]
theorem zb1:Ty exm:=by
 refine⟨by decide,?_,⟨?_,?_⟩⟩
 ·intro j hj
  match j,hj with
  | 0,_=>exact⟨by decide,by decide,by decide,by decide,by decide,by decide,by decide,by decide⟩
  | 1,_=>exact⟨by decide,by decide,by decide,by decide,by decide,by decide,by decide,by decide⟩
  | 2,_=>exact⟨by decide,by decide,by decide,by decide,by decide,by decide,by decide,by decide⟩
  | 3,_=>exact⟨by decide,by decide,by decide,by decide,by decide,by decide,by decide,by decide⟩
  | 4,_=>exact⟨by decide,by decide,by decide,by decide,by decide,by decide,by decide,by decide⟩
  | n+5,h=>exact absurd h (by show ¬n+5<5;omega)
 ·have sr:∀j,j<5→0<(nd exm j).s→SortAt exm (nd exm j):=by
   intro j hj
   match j,hj with
   | 0,_=>exact fun h=>absurd h (by decide)
   | 1,_=>exact fun _=>⟨by decide,by decide,rfl,by decide⟩
   | 2,_=>exact fun h=>absurd h (by decide)
   | 3,_=>exact fun _=>⟨by decide,by decide,rfl,by decide⟩
   | 4,_=>exact fun h=>absurd h (by decide)
   | n+5,h=>exact absurd h (by omega)
  have hd:∀j,j<5→AskOk exm j (nd exm j):=by
   intro j hj
   match j,hj with
   | 0,_=>refine⟨?_,?_,?_,?_,?_,?_,?_,?_,?_,?_,?_⟩<;>first|decide|(unfold sameP;decide)|(intro h;exact absurd h (by decide))
   | 1,_=>refine⟨?_,?_,?_,?_,?_,?_,?_,?_,?_,?_,?_⟩<;>first|decide|(unfold sameP;decide)|(intro h;exact absurd h (by decide))
   | 2,_=>refine⟨?_,?_,?_,?_,?_,?_,?_,?_,?_,?_,?_⟩<;>first|decide|(unfold sameP;decide)|(intro h;exact absurd h (by decide))
   | 3,_=>refine⟨?_,?_,?_,?_,?_,?_,?_,?_,?_,?_,?_⟩<;>first|decide|(unfold sameP;decide)|(intro h;exact absurd h (by decide))
   | 4,_=>refine⟨?_,?_,?_,?_,?_,?_,?_,?_,?_,?_,?_⟩<;>first|decide|(unfold sameP;decide)|(intro h;exact absurd h (by decide))
   | n+5,h=>exact absurd h (by omega)
  intro j hj;have hj:j<5:=hj;refine⟨sr j hj,?_,?_,hd j hj⟩
  ·match j,hj with
   | 0,_=>decide
   | 1,_=>decide
   | 2,_=>decide
   | 3,_=>decide
   | 4,_=>decide
   | n+5,h=>exact absurd h (by omega)
  ·match j,hj with
   | 0,_=>decide
   | 1,_=>decide
   | 2,_=>decide
   | 3,_=>decide
   | 4,_=>decide
   | n+5,h=>exact absurd h (by omega)
 ·intro j hj;have hj:j<5:=hj
  match j,hj with
  | 0,_=>exact fun h=>absurd h (by decide)
  | 1,_=>exact fun h=>absurd h (by decide)
  | 2,_=>exact fun h=>absurd h (by decide)
  | 3,_=>exact fun h=>absurd h (by decide)
  | 4,_=>exact fun h=>absurd h (by decide)
  | n+5,h=>exact absurd h (by omega)
theorem zcd:MdB exm:=by
 refine⟨by decide,?_⟩;intro x hx;simp only [exm,List.mem_cons,List.not_mem_nil,or_false]at hx;rcases hx with rfl|rfl|rfl|rfl|rfl<;>exact⟨by decide,by decide,by decide,by decide⟩
def exT(s:List UInt8):Wt:=⟨0,[],[[s]]⟩
def exR:List UInt8:=[115,97,116,10,98,48,10,35,48,10,64,48,10,48,32,49,120,10,46,10]
theorem ex_sm(s:List UInt8)(h:s.length≤200):SmW (exT s) 1000:=by
 refine⟨by show 1≤1000;decide,by show 0≤40;decide,fun s hs=>(by cases hs),fun l hl=>?_⟩;obtain rfl:=List.mem_singleton.1 hl;refine⟨by show 1≤40;decide,fun x hx=>?_⟩;obtain rfl:=List.mem_singleton.1 hx;exact h
theorem itoa0:tItoa 0=[48]:=by
 rw [show(0:Int)=((0:Nat):Int)from rfl,show tItoa ((0:Nat):Int)=Go.Lib.decDigits 0 from Go.Lib.itoa_nonneg 0,Go.Lib.decDigits];rfl
theorem ex_r:z2a (shL exm) (exT [49,120])=true:=by decide
theorem ex_t:wtT (exT [49,120])=exR:=by
 simp only [wtT,exT,z1g,z28,z6z,rowT,itoa0,show tItoa ((0:Nat):Int)=[48]from itoa0];rfl
theorem ex_p:prW (shL exm) (exT [49,120])=tupOf [vTx exR,vI .i64 0]:=by
 unfold prW;rw [if_pos ex_r,ex_t]
theorem zp4:wtP (shL exm) exR=.inr (exT [49,120],20):=by
 have:=zh6 (sh_in zb1).2 (by decide) ex_r (by rw [ex_t];decide);rw [ex_t]at this;exact this
theorem ex_w1:ze2 exm (exT [49,48])=0:=by decide
theorem ex_w2:ze2 exm (exT [48,48])=8:=by decide
theorem ex_w3:ze2 exm (exT [49,120])=7:=by decide
theorem zqc:totB (exT [49,120])=false∧totB (exT [49,48])=true:=by decide
theorem zfg{α:Type}{s:Nat}{e:α→D}{d:α}:DLe (.v (.slice none 0 0)) (eL s e d []):=fun _ _ _ h=>by cases h with|v _=>exact .nil (Nat.zero_le _)
theorem z5r(s:List UInt8):VLe (.d (.ag [.v (.int .i64 0),.v (.slice none 0 0),.sl 1 [.sl 1 [dSL s] (litRd [dSL s])] (litRd [.sl 1 [dSL s] (litRd [dSL s])])])) (.d (eWt (exT s))):=by
 refine VLe.dag ⟨.refl _,zfg,dleS (ys:=[[s]].map eSs) ⟨CLe.sl (CLes.refl _) (z5p dSL [] [s]),trivial⟩ (z5p eSs [] [[s]]),trivial⟩
@[reducible] def rdN(op:List UInt8)(s:Int)(a n:D):D:=.ag [dSL op,eI s,a,n,dSL []]
@[reducible] def sl1(x:Int):D:=.sl 1 [eI x] (litRd [eI x])
@[reducible] def exD:List D:=[rdN kSort 0 nilD (sl1 2),rdN zv 1 nilD nilD,rdN kSort 0 nilD (sl1 1),rdN z2e 3 (sl1 2) nilD,rdN kBad 0 (sl1 4) nilD]
theorem z8f:VLe (.d (.ag [.sl 5 exD (litRd exD)])) (.d (eBt exm)):=by
 refine VLe.dag ⟨dleS (ys:=exm.map eNd) ?_ (z5p eNd default exm),trivial⟩;exact⟨cleA ⟨.refl _,.refl _,dleN,dleI [2],.refl _,trivial⟩,cleA ⟨.refl _,.refl _,dleN,dleN,.refl _,trivial⟩,cleA ⟨.refl _,.refl _,dleN,dleI [1],.refl _,trivial⟩,cleA ⟨.refl _,.refl _,dleI [2],dleN,.refl _,trivial⟩,cleA ⟨.refl _,.refl _,dleI [4],dleN,.refl _,trivial⟩,trivial⟩
theorem zeg:ACall Tryz.prog 8 [] [] (fun r o=>r=vB true):=by
 refine yN Tryz.func8 fun C hC hCl hDs hGk=>?_;have c1:=z73 exm zcd zb1 (exT [49,120]) (ex_sm _ (by decide));rw [ex_p]at c1;have c2:=z59 exm zcd zb1 exR (by decide);rw [zp4]at c2;have c3:=z71 exm zcd zb1 (exT [49,120]) (fun s hs=>by cases hs) (fun f hf s hs=>by obtain rfl:=List.mem_singleton.1 hf;obtain rfl:=List.mem_singleton.1 hs;decide);rw [ex_r]at c3;have c4:=z8s (exT [49,120]) (by decide);rw [zqc.1]at c4;have c5:=z8s (exT [49,48]) (by decide);rw [zqc.2]at c5;have c6:=z8r exm zcd zb1 (exT [49,48]) (ex_sm _ (by decide));rw [ex_w1]at c6;have c7:=z8r exm zcd zb1 (exT [48,48]) (ex_sm _ (by decide));rw [ex_w2]at c7;have c8:=z8r exm zcd zb1 (exT [49,120]) (ex_sm _ (by decide));rw [ex_w3]at c8;refine yV Tryz.func8 rfl trivial c1 ⟨z8f,z5r _,trivial⟩ ?_;refine yX 60 Tryz.func8 rfl trivial ?_;refine zcw (bs:=exR) tabOk rfl rfl rfl rfl rfl rfl rfl rfl rfl rfl (by decide) rfl ?_;refine zh 2 rfl ?_;refine yV Tryz.func8 rfl trivial c2 ⟨z8f,VLe.eL rfl,trivial⟩ ?_;refine yT Tryz.func8 rfl trivial ?_;refine yT Tryz.func8 rfl trivial ?_;refine yB Tryz.func8 rfl trivial (fun _=>?_) (fun h=>?_);rotate_left
 ·have h:((⟨exR.toArray⟩:ByteArray).toList==(⟨exR.toArray⟩:ByteArray).toList)=false:=h;rw [strEq,decide_eq_true rfl]at h;cases h
 refine yB Tryz.func8 rfl trivial (fun _=>?_) (fun h=>absurd h (by decide));refine yV Tryz.func8 rfl trivial (zim (exT [49,120]) (exT [49,120])) ⟨z5r _,.refl _,trivial⟩ ?_;rw [z5t.2 rfl];refine yT Tryz.func8 rfl trivial ?_;refine yV Tryz.func8 rfl trivial c3 ⟨z8f,z5r _,trivial⟩ ?_;refine yT Tryz.func8 rfl trivial ?_;refine yV Tryz.func8 rfl trivial c4 ⟨z5r _,trivial⟩ ?_;refine yT Tryz.func8 rfl trivial ?_;refine yV Tryz.func8 rfl trivial c5 ⟨z5r _,trivial⟩ ?_;refine yT Tryz.func8 rfl trivial ?_;refine yV Tryz.func8 rfl trivial c6 ⟨z8f,z5r _,trivial⟩ ?_;refine yT Tryz.func8 rfl trivial ?_;refine yV Tryz.func8 rfl trivial c7 ⟨z8f,z5r _,trivial⟩ ?_;refine yT Tryz.func8 rfl trivial ?_;refine yV Tryz.func8 rfl trivial c8 ⟨z8f,z5r _,trivial⟩ ?_;exact yR Tryz.func8 rfl trivial rfl
theorem u8eq(c:UInt8)(n:Nat)(hn:n<256):((c.toNat:Int)==(n:Int))=(c==UInt8.ofNat n):=by
 rw [Bool.eq_iff_iff,beq_iff_eq,beq_iff_eq,←UInt8.toNat_inj,UInt8.toNat_ofNat',Nat.mod_eq_of_lt hn];omega
theorem zpn(c:UInt8):ACall Tryz.prog 95 [.d (eU8 c)] [] (fun r o=>r=vB (isB c)):=by
 refine yN Tryz.func95 fun C hC hCl hDs hGk=>?_;have e1:=u8eq c 48 (by decide);have e2:=u8eq c 49 (by decide);have e3:=u8eq c 120 (by decide);refine yB Tryz.func95 rfl trivial (fun h=>?_) (fun h=>?_)
 ·have h:((c.toNat:Int)==((48:Nat):Int))=true:=h;rw [e1]at h;repeat refine yT Tryz.func95 rfl trivial ?_
  refine yR Tryz.func95 rfl trivial ?_;unfold isB;rw [show(c==48)=true from h];rfl
 have h:((c.toNat:Int)==((48:Nat):Int))=false:=h;rw [e1]at h;refine yB Tryz.func95 rfl trivial (fun h2=>?_) (fun h2=>?_)
 ·have h2:((c.toNat:Int)==((49:Nat):Int))=true:=h2;rw [e2]at h2;refine yR Tryz.func95 rfl trivial ?_;unfold isB;rw [show(c==49)=true from h2,Bool.or_true];rfl
 have h2:((c.toNat:Int)==((49:Nat):Int))=false:=h2;rw [e2]at h2;refine yR Tryz.func95 rfl trivial ?_;show vB ((c.toNat:Int)==((120:Nat):Int))=_;rw [e3];unfold isB;rw [show(c==48)=false from h,show(c==49)=false from h2];rfl
theorem zkr(s:List UInt8)(w:Int)(hl:s.length≤1000000000):ACall Tryz.prog 67 [vSL s,vI .i64 w] [] (fun r o=>r=vB (rowB s w)):=by
 refine yN Tryz.func67 fun C hC hCl hDs hGk=>?_;refine yS Tryz.func67 rfl trivial ?_;refine z8 (α:=Nat) (fun i=>[(0,vSL s),(1,vI .i64 w),(5,vI .i64 (i:Int))]) (fun _=>[]) (fun i=>i≤s.length∧∀q,q<i→isB (s.getD q 0)=true) (fun i=>s.length-i) 0 ⟨Nat.zero_le _,fun q hq=>by omega⟩ ?_ ?_
 ·exact fun h=>yE h (eAl rfl) trivial
 rintro i ⟨hi,hc⟩ ih;refine yB Tryz.func67 rfl trivial (fun hb=>?_) (fun hb=>?_)
 ·have hb:decide ((i:Int)<(((⟨s.toArray⟩:ByteArray).size:Nat):Int))=true:=hb;rw [zo,decide_eq_true_eq]at hb;have hlt:i<s.length:=by omega
  refine yV Tryz.func67 rfl ?_ (zpn (s.getD i 0)) ⟨.of ?_,trivial⟩ ?_
  ·show(0≤(i:Int)∧(i:Int)<(((⟨s.toArray⟩:ByteArray).size:Nat):Int))∧True;rw [zo];exact⟨⟨by omega,by omega⟩,trivial⟩
  ·show vI .u8 (bt ⟨s.toArray⟩ (i:Int).toNat)=_;rw [Int.toNat_natCast,zn];rfl
  cases hbit:isB (s.getD i 0)with
  | false=>
   refine yT Tryz.func67 rfl trivial ?_;refine yR Tryz.func67 rfl trivial ?_;have:s.all isB=false:=List.all_eq_false.2 ⟨_,z3q hlt,by rw [hbit];decide⟩;unfold rowB;rw [this,Bool.and_false];rfl
  | true=>
   refine yF Tryz.func67 rfl trivial ?_;refine yS Tryz.func67 rfl trivial ?_;refine yE (ih (i+1) ⟨by omega,fun q hq=>?_⟩ (by omega)) ⟨erl rfl,erl rfl,erw rfl,trivial⟩ trivial;rcases Nat.lt_or_ge q i with h|h
   ·exact hc q h
   ·obtain rfl:q=i:=by omega
    exact hbit
 ·have hb:decide ((i:Int)<(((⟨s.toArray⟩:ByteArray).size:Nat):Int))=false:=hb;rw [zo,decide_eq_false_iff_not]at hb;obtain rfl:i=s.length:=by omega
  refine yR Tryz.func67 rfl trivial ?_;show vB ((((⟨s.toArray⟩:ByteArray).size:Nat):Int)==w)=_;have:s.all isB=true:=by
   rw [List.all_eq_true];intro c hcm;obtain⟨q,hq,rfl⟩:=List.getElem_of_mem hcm;have:=hc q hq;rwa [z5k hq]at this
  unfold rowB;rw [zo,this,Bool.and_true];congr 3
theorem zby(l:List Nd)(hm:MdB l)(ty:Ty l)(op:List UInt8)(ho:isVal op=true)(f:List (List UInt8))(hs:∀s∈f,s.length≤1000000000)(hfl:f.length≤1000000000)(ws:List (Int×List UInt8))(hw:ws.map (·.1)=(allL l op l.length).map fun s=>wdN l (ln l s)):ACall Tryz.prog 34 [.d (eBt l),vSL op,.d (eSs f)] [] (fun r o=>r=vB (rowsB f ws)):=by
 refine yN Tryz.func34 fun C hC hCl hDs hGk=>?_;have hl:=ty.small;have hall:=@zij l ty op ho;have hq:=@z4w f ws;have hwl:ws.length=(allL l op l.length).length:=by
  have:=congrArg List.length hw;simpa using this
 rw [hw,hwl]at hq;refine yV Tryz.func34 rfl trivial (z8q l op hl) (.refl _) ?_;have hal:=z1j l op l.length;generalize allL l op l.length=al at *;generalize rowsB f ws=res at *;have no:¬(f.length=al.length∧∀j,j<f.length→rowB (f.getD j []) ((al.map fun s=>wdN l (ln l s)).getD j 0)=true)→vB false=vB res:=fun h=>by
  cases res with
  | false=>rfl
  | true=>exact absurd (hq.1 rfl) h
 refine yB Tryz.func34 rfl trivial (fun h=>?_) (fun h=>?_)
 ·have h:(((al.map eI).length:Int) !=((f.map dSL).length:Int))=true:=h;refine yR Tryz.func34 rfl trivial (no fun hh=>?_);simp [hh.1]at h
 have h:(((al.map eI).length:Int) !=((f.map dSL).length:Int))=false:=h;have hlen:f.length=al.length:=by simp at h;omega
 refine yS Tryz.func34 rfl trivial ?_;refine z8 (α:=Nat) (fun i=>[(2,.d (eSs f)),(3,.ptr 0 0),(7,.d (eIs al)),(8,vI .i64 (i:Int))]) (fun i=>[some (bBt l)]) (fun i=>i≤f.length∧∀j,j<i→rowB (f.getD j []) ((al.map fun s=>wdN l (ln l s)).getD j 0)=true) (fun i=>f.length-i) 0 ⟨Nat.zero_le _,fun q hq=>by omega⟩ ?_ ?_
 ·exact fun h=>yE h (eAl rfl) (oAl rfl)
 rintro i ⟨hi,hc⟩ ih;refine yB Tryz.func34 rfl trivial (fun hb=>?_) (fun hb=>?_)<;>simp only [List.length_map,decide_eq_true_eq,decide_eq_false_iff_not]at hb
 ·have hlt:i<f.length:=by omega
  have hlt2:i<al.length:=by omega
  have ha:=hall hlt2;have e1:IntKind.i64.wrap (al.getD i 0-1)=al.getD i 0-1:=z7 (by omega) (by omega);have hS:=(val_s ty (j:=(al.getD i 0-1).toNat) (by omega) ha.2.2).2;have eg:(al.map fun s=>wdN l (ln l s)).getD i 0=wdN l (ln l (al.getD i 0)):=by simp [hlt2]
  refine yO 15 Tryz.func34 rfl trivial ?_;refine yQ Tryz.func68 rfl ?_ (z8e l (ln l (al.getD i 0)) hS.lo hS.hi hS.n (Nat.le_of_lt ty.lt)) ⟨.refl _,.of ?_,trivial⟩ ?_
  ·simp only [Int.toNat_natCast,e1,List.length_map];exact⟨⟨by omega,by omega⟩,⟨by omega,by omega⟩,⟨by omega,by omega⟩,trivial⟩
  ·show AV.d (eNd (l.getD (IntKind.i64.wrap (al.getD i 0-1)).toNat default))=_;rw [e1]
  refine yq rfl trivial ?_;refine yV Tryz.func34 rfl trivial (zkr (f.getD i []) (wdN l (ln l (al.getD i 0))) (hs _ (z3q hlt))) (.refl _) ?_;cases hr:rowB (f.getD i []) (wdN l (ln l (al.getD i 0)))with
  | false=>
   refine yT Tryz.func34 rfl trivial ?_;refine yR Tryz.func34 rfl trivial (no fun hh=>?_);have:=hh.2 i hlt;rw [eg,hr]at this;cases this
  | true=>
   refine yF Tryz.func34 rfl trivial ?_;refine yS Tryz.func34 rfl trivial ?_;refine yE (ih (i+1) ⟨by omega,fun j hj=>?_⟩ (by omega)) ⟨erl rfl,erl rfl,erl rfl,erw rfl,trivial⟩ (oAl rfl);rcases Nat.lt_or_ge j i with h|h
   ·exact hc j h
   ·obtain rfl:j=i:=by omega
    rw [eg];exact hr
 ·obtain rfl:i=f.length:=by omega
  refine yR Tryz.func34 rfl trivial ?_;rw [hq.2 ⟨hlen,hc⟩];rfl
theorem zg6(l:List Nd)(hm:MdB l)(ty:Ty l)(s:Int):ACall Tryz.prog 35 [.d (eBt l),vI .i64 s] [] (fun r o=>r=vSL (z1s l s)):=by
 refine yN Tryz.func35 fun C hC hCl hDs hGk=>?_;refine yV Tryz.func35 rfl trivial (zld l kInit s ty.small (zla ty (.inl rfl))) (.refl _) ?_;unfold z1s;cases hj:ofJ l kInit s with
 | none=>
  refine yT Tryz.func35 rfl trivial ?_;exact yR Tryz.func35 rfl trivial rfl
 | some j=>
  refine yF Tryz.func35 rfl trivial ?_;obtain⟨o1,o2,o3,o4,o5⟩:=zdb ty (.inl rfl) hj;have hl:=ty.small;have ew:IntKind.i64.wrap (ofV l kInit s-1)=ofV l kInit s-1:=z7 (by omega) (by omega);refine yR Tryz.func35 rfl ?_ ?_
  ·rw [ew,List.length_map];exact⟨⟨by omega,by omega⟩,trivial⟩
  ·show vSL (l.getD (IntKind.i64.wrap (ofV l kInit s-1)).toNat default).t=vSL (l.getD (ofV l kInit s-1).toNat default).t;rw [ew]
theorem zqw(l:List Nd):(shL l).st.map (·.1)=(allL l zb l.length).map fun s=>wdN l (ln l s):=by
 unfold shL;rw [List.map_map];rfl
theorem zqv(l:List Nd):(shL l).st.map (·.2)=(allL l zb l.length).map (z1s l):=by
 unfold shL;rw [List.map_map];rfl
theorem zrt(l:List Nd):(shL l).inw.map (·.1)=(allL l zv l.length).map fun s=>wdN l (ln l s):=by
 unfold shL;rw [List.map_map];rfl
theorem SmW.rows{t:Wt}{n:Nat}(sm:SmW t n):(∀s∈t.init,s.length≤1000000000)∧∀f∈t.ins,f.length≤1000000000∧∀s∈f,s.length≤1000000000:=
 ⟨fun s hs=>by have:=sm.r s hs;omega,fun f hf=>⟨by have:=(sm.l f hf).1;omega,fun s hs=>by have:=(sm.l f hf).2 s hs;omega⟩⟩
theorem z7u(l:List Nd)(hm:MdB l)(ty:Ty l)(t:Wt)(sm:SmW t 1000):ACall Tryz.prog 14 [.d (eBt l),.d (eWt t)] [] (fun r o=>r=vB (z2a (shL l) t)):=by
 refine yN Tryz.func14 fun C hC hCl hDs hGk=>?_;have hl:=ty.small;obtain⟨sr,si⟩:=sm.rows;have sn:=sm.n;refine yV Tryz.func14 rfl trivial (zby l hm ty zb rfl t.init sr (by have:=sm.i;omega) (shL l).st (zqw l)) (.refl _) ?_;have hq:=@z2o (shL l) t;have hbd:(shL l).bads=((allL l kBad l.length).length:Int):=rfl;have no:¬((0≤t.bad∧t.bad<(shL l).bads∧1≤t.ins.length∧t.ins.length≤200)∧rowsB t.init (shL l).st=true∧z4g t.init (shL l).st=true∧∀f∈t.ins,rowsB f (shL l).inw=true)→vB false=vB (z2a (shL l) t):=fun hn=>by
  cases hr:z2a (shL l) t with
  | false=>rfl
  | true=>exact absurd (hq.1 hr) hn
 cases hr:rowsB t.init (shL l).st with
 | false=>
  rw [hr]at no;refine yO 13 Tryz.func14 rfl trivial ?_;refine yb rfl trivial (fun _=>?_) (fun hx=>by cases hx);refine yb rfl trivial (fun _=>?_) (fun hx=>by cases hx);refine yq rfl trivial ?_;repeat refine yT Tryz.func14 rfl trivial ?_
  exact yR Tryz.func14 rfl trivial (no fun hh=>by cases hh.2.1)
 | true=>
  refine yO 13 Tryz.func14 rfl trivial ?_;refine yb rfl trivial (fun hx=>by cases hx) (fun _=>?_);refine yb rfl trivial (fun h1=>?_) (fun h1=>?_)
  ·have h1:decide (t.bad<0)=true:=h1;rw [decide_eq_true_eq]at h1;refine yq rfl trivial ?_;repeat refine yT Tryz.func14 rfl trivial ?_
   exact yR Tryz.func14 rfl trivial (no fun hh=>by omega)
  have h1:decide (t.bad<0)=false:=h1;rw [decide_eq_false_iff_not]at h1;refine yQ Tryz.func22 rfl trivial (z8q l kBad hl) (.refl _) ?_;refine yq rfl trivial ?_;refine yB Tryz.func14 rfl trivial (fun h2=>?_) (fun h2=>?_)
  ·have h2:decide (t.bad≥((((allL l kBad l.length).map eI).length:Nat):Int))=true:=h2;rw [decide_eq_true_eq,List.length_map]at h2;repeat refine yT Tryz.func14 rfl trivial ?_
   exact yR Tryz.func14 rfl trivial (no fun hh=>by rw [hbd]at hh;omega)
  have h2:decide (t.bad≥((((allL l kBad l.length).map eI).length:Nat):Int))=false:=h2;rw [decide_eq_false_iff_not,List.length_map]at h2;refine yB Tryz.func14 rfl trivial (fun h3=>?_) (fun h3=>?_)
  ·have h3:decide (((t.ins.map eSs).length:Int)<1)=true:=h3;rw [decide_eq_true_eq,List.length_map]at h3;repeat refine yT Tryz.func14 rfl trivial ?_
   exact yR Tryz.func14 rfl trivial (no fun hh=>by omega)
  have h3:decide (((t.ins.map eSs).length:Int)<1)=false:=h3;rw [decide_eq_false_iff_not,List.length_map]at h3;refine yB Tryz.func14 rfl trivial (fun h4=>?_) (fun h4=>?_)
  ·have h4:decide (((t.ins.map eSs).length:Int)>200)=true:=h4;rw [decide_eq_true_eq,List.length_map]at h4;exact yR Tryz.func14 rfl trivial (no fun hh=>by omega)
  have h4:decide (((t.ins.map eSs).length:Int)>200)=false:=h4;rw [decide_eq_false_iff_not,List.length_map]at h4;refine yV Tryz.func14 rfl trivial (z8q l zb hl) (.refl _) ?_;have hlen:=(z4w.1 hr).1;have hstl:(shL l).st.length=(allL l zb l.length).length:=by
   unfold shL;rw [List.length_map]
  have hf:=z8n hlen;rw [zqv,hstl]at hf;rw [hstl]at hlen;have hal:=z1j l zb l.length;generalize hA:allL l zb l.length=al at *;refine yS Tryz.func14 rfl trivial ?_;refine z8 (α:=Nat) (fun i=>[(2,.ptr 0 0),(3,.ptr 1 0),(6,.d (eIs al)),(7,vI .i64 (i:Int))]) (fun i=>[some (bBt l),some (bWt t)]) (fun i=>i≤al.length∧∀j,j<i→(al.map (z1s l)).getD j []=[]∨t.init.getD j []=(al.map (z1s l)).getD j []) (fun i=>al.length-i) 0 ⟨Nat.zero_le _,fun j hj=>by omega⟩ ?_ ?_
  ·exact fun hh=>yE hh (eAl rfl) (oAl rfl)
  rintro i ⟨hi2,hc⟩ ih;refine yB Tryz.func14 rfl trivial (fun hb=>?_) (fun hb=>?_)<;>simp only [List.length_map,decide_eq_true_eq,decide_eq_false_iff_not]at hb
  ·have hlt:i<al.length:=by omega
   have ih:=ih (i+1);have eg:(al.map (z1s l)).getD i []=z1s l (al.getD i 0):=by simp [hlt]
   rw [←hA]at hlt;refine yO 5 Tryz.func14 rfl trivial ?_;refine yq rfl ?_ ?_
   ·rw [hA]at hlt;exact(by simp [andP]<;>omega)
   rw [hA]at hlt;refine yV Tryz.func14 rfl trivial (zg6 l hm ty (al.getD i 0)) (.refl _) ?_;have hnx:((al.map (z1s l)).getD i []=[]∨t.init.getD i []=(al.map (z1s l)).getD i [])→∀j,j<i+1→(al.map (z1s l)).getD j []=[]∨t.init.getD j []=(al.map (z1s l)).getD j []:=fun hh j hj=>by
    rcases Nat.lt_or_ge j i with h5|h5
    ·exact hc j h5
    ·obtain rfl:j=i:=by omega
     exact hh
   refine yB Tryz.func14 rfl trivial (fun hb2=>?_) (fun hb2=>?_)
   ·have hb2:(!((⟨(z1s l (al.getD i 0)).toArray⟩:ByteArray).toList==(⟨([]:List UInt8).toArray⟩:ByteArray).toList))=true:=hb2;rw [strEq,Bool.not_eq_true',decide_eq_false_iff_not]at hb2;refine yB Tryz.func14 rfl (by simp [andP]<;>omega) (fun hb3=>?_) (fun hb3=>?_)
    ·have hb3:(!((⟨(z1s l (al.getD i 0)).toArray⟩:ByteArray).toList==(⟨(t.init.getD (i:Int).toNat []).toArray⟩:ByteArray).toList))=true:=hb3;rw [strEq,Int.toNat_natCast,Bool.not_eq_true',decide_eq_false_iff_not]at hb3;refine yR Tryz.func14 rfl trivial (no fun hh=>?_);rcases(hf.1 hh.2.2.1) i hlt with h5|h5
     ·exact hb2 (by rw [←eg];exact h5)
     ·exact hb3 (by rw [←eg];exact h5.symm)
    ·have hb3:(!((⟨(z1s l (al.getD i 0)).toArray⟩:ByteArray).toList==(⟨(t.init.getD (i:Int).toNat []).toArray⟩:ByteArray).toList))=false:=hb3;rw [strEq,Int.toNat_natCast,Bool.not_eq_false',decide_eq_true_eq]at hb3;refine yS Tryz.func14 rfl trivial ?_;exact yE (ih ⟨by omega,hnx (.inr (by rw [eg];exact hb3.symm))⟩ (by omega)) ⟨erl rfl,erl rfl,erl rfl,erw rfl,trivial⟩ (oAl rfl)
   ·have hb2:(!((⟨(z1s l (al.getD i 0)).toArray⟩:ByteArray).toList==(⟨([]:List UInt8).toArray⟩:ByteArray).toList))=false:=hb2;rw [strEq,Bool.not_eq_false',decide_eq_true_eq]at hb2;refine yF Tryz.func14 rfl trivial ?_;refine yS Tryz.func14 rfl trivial ?_;exact yE (ih ⟨by omega,hnx (.inl (by rw [eg];exact hb2))⟩ (by omega)) ⟨erl rfl,erl rfl,erl rfl,erw rfl,trivial⟩ (oAl rfl)
  ·obtain rfl:i=al.length:=by omega
   have hfb:=hf.2 hc;refine yS Tryz.func14 rfl trivial ?_;refine z8 (α:=Nat) (fun i=>[(2,.ptr 0 0),(3,.ptr 1 0),(9,vI .i64 (i:Int))]) (fun i=>[some (bBt l),some (bWt t)]) (fun i=>i≤t.ins.length∧∀j,j<i→rowsB (t.ins.getD j []) (shL l).inw=true) (fun i=>t.ins.length-i) 0 ⟨Nat.zero_le _,fun j hj=>by omega⟩ ?_ ?_
   ·exact fun hh=>yE hh (eAl rfl) (oAl rfl)
   rintro i ⟨hi3,hc2⟩ ih2;refine yB Tryz.func14 rfl trivial (fun hb=>?_) (fun hb=>?_)<;>simp only [List.length_map,decide_eq_true_eq,decide_eq_false_iff_not]at hb
   ·have hlt:i<t.ins.length:=by omega
    have hmem:=z3q (d:=[]) hlt;refine yO 6 Tryz.func14 rfl trivial ?_;refine yq rfl ?_ ?_
    ·exact(by simp [andP]<;>omega)
    refine yV Tryz.func14 rfl trivial (zby l hm ty zv rfl (t.ins.getD i []) (si _ hmem).2 (si _ hmem).1 (shL l).inw (zrt l)) (.refl _) ?_;cases hro:rowsB (t.ins.getD i []) (shL l).inw with
    | false=>
     refine yT Tryz.func14 rfl trivial ?_;refine yR Tryz.func14 rfl trivial (no fun hh=>?_);rw [hh.2.2.2 _ hmem]at hro;cases hro
    | true=>
     refine yF Tryz.func14 rfl trivial ?_;refine yS Tryz.func14 rfl trivial ?_;refine yE (ih2 (i+1) ⟨by omega,fun j hj=>?_⟩ (by omega)) ⟨erl rfl,erl rfl,erw rfl,trivial⟩ (oAl rfl);rcases Nat.lt_or_ge j i with h5|h5
     ·exact hc2 j h5
     ·obtain rfl:j=i:=by omega
      exact hro
   ·obtain rfl:i=t.ins.length:=by omega
    refine yR Tryz.func14 rfl trivial ?_;rw [hq.2 ⟨⟨by omega,by rw [hbd];omega,by omega,by omega⟩,hr,hfb,fun f hfm=>?_⟩]
    ·rfl
    ·obtain⟨q,hq2,rfl⟩:=List.getElem_of_mem hfm;have:=hc2 q hq2;rwa [z5k hq2]at this
theorem zab(a b:List (List UInt8)):ACall Tryz.prog 39 [.d (eSs a),.d (eSs b)] [] (fun r o=>r=vB (decide (a=b))):=by
 refine yN Tryz.func39 fun C hC hCl hDs hGk=>?_;refine z7a (t:=0) rfl fun hlen=>?_;rw [List.length_map]at hlen;refine yB Tryz.func39 rfl trivial (fun h=>?_) (fun h=>?_)
 ·refine yR Tryz.func39 rfl trivial ?_;show vB false=vB _;have:a≠b:=by rintro rfl;simp at h
  simp [this]
 have hl:a.length=b.length:=by simp at h;omega
 refine yS Tryz.func39 rfl trivial ?_;refine z8 (α:=Nat) (fun i=>[(0,.d (eSs a)),(1,.d (eSs b)),(5,vI .i64 i)]) (fun _=>[]) (fun i=>i≤a.length∧a.take i=b.take i) (fun i=>a.length-i) 0 ⟨Nat.zero_le _,rfl⟩ ?_ ?_
 ·exact fun h=>yE h (eAl rfl) trivial
 rintro i ⟨hi,hc⟩ ih;refine yB Tryz.func39 rfl trivial (fun hb=>?_) (fun hb=>?_)<;>simp only [decide_eq_true_eq,decide_eq_false_iff_not,List.length_map]at hb
 ·have hlt:i<a.length:=by omega
  have hlb:i<b.length:=by omega
  have ea:a.getD i []=a[i]:=by simp [hlt]
  have eb:b.getD i []=b[i]:=by simp [hlb]
  refine yO 8 Tryz.func39 rfl trivial ?_;refine yq rfl ?_ ?_
  ·exact(by simp [andP]<;>omega)
  refine yB Tryz.func39 rfl trivial (fun hb2=>?_) (fun hb2=>?_)
  ·have hb2:(!((⟨(a.getD (i:Int).toNat []).toArray⟩:ByteArray).toList==(⟨(b.getD (i:Int).toNat []).toArray⟩:ByteArray).toList))=true:=hb2;rw [strEq,Int.toNat_natCast,Bool.not_eq_true',decide_eq_false_iff_not]at hb2;refine yR Tryz.func39 rfl trivial ?_;show vB false=vB _;have:a≠b:=by rintro rfl;exact hb2 rfl
   simp [this]
  ·have hb2:(!((⟨(a.getD (i:Int).toNat []).toArray⟩:ByteArray).toList==(⟨(b.getD (i:Int).toNat []).toArray⟩:ByteArray).toList))=false:=hb2;rw [strEq,Int.toNat_natCast,Bool.not_eq_false',decide_eq_true_eq,ea,eb]at hb2;refine yS Tryz.func39 rfl trivial ?_;refine yE (ih (i+1) ⟨by omega,?_⟩ (by omega)) ⟨erl rfl,erl rfl,erw rfl,trivial⟩ trivial;rw [List.take_add_one,List.take_add_one,hc,List.getElem?_eq_getElem hlt,List.getElem?_eq_getElem hlb,hb2]
 ·obtain rfl:i=a.length:=by omega
  rw [List.take_length,hl,List.take_length]at hc;refine yR Tryz.func39 rfl trivial ?_;show vB true=vB _;simp [hc]
theorem z90(s t:Wt)(hsl:s.ins.length≤1000000):ACall Tryz.prog 16 [.d (eWt s),.d (eWt t)] [] (fun r o=>r=vB (sameW s t)):=by
 refine yN Tryz.func16 fun C hC hCl hDs hGk=>?_;have no:¬(s=t)→vB false=vB (sameW s t):=fun hn=>by
  cases hr:sameW s t with
  | false=>rfl
  | true=>exact absurd (z5t.1 hr) hn
 refine yV Tryz.func16 rfl trivial (zab s.init t.init) (.refl _) ?_;by_cases h1:s.init=t.init
 rotate_left
 ·rw [decide_eq_false h1];repeat refine yT Tryz.func16 rfl trivial ?_
  exact yR Tryz.func16 rfl trivial (no fun e=>h1 (by rw [e]))
 rw [decide_eq_true h1];refine yF Tryz.func16 rfl trivial ?_;refine yB Tryz.func16 rfl trivial (fun h2=>?_) (fun h2=>?_)
 ·have h2:(!(s.bad==t.bad))=true:=h2;rw [Bool.not_eq_true',beq_eq_false_iff_ne]at h2;repeat refine yT Tryz.func16 rfl trivial ?_
  exact yR Tryz.func16 rfl trivial (no fun e=>h2 (by rw [e]))
 have h2:(!(s.bad==t.bad))=false:=h2;rw [Bool.not_eq_false',beq_iff_eq]at h2;refine yB Tryz.func16 rfl trivial (fun h3=>?_) (fun h3=>?_)
 ·have h3:(!((((s.ins.map eSs).length:Nat):Int)==(((t.ins.map eSs).length:Nat):Int)))=true:=h3;rw [Bool.not_eq_true',beq_eq_false_iff_ne,List.length_map,List.length_map]at h3;exact yR Tryz.func16 rfl trivial (no fun e=>h3 (by rw [e]))
 have h3:(!((((s.ins.map eSs).length:Nat):Int)==(((t.ins.map eSs).length:Nat):Int)))=false:=h3;rw [Bool.not_eq_false',beq_iff_eq,List.length_map,List.length_map]at h3;have hl:s.ins.length=t.ins.length:=by omega
 refine yS Tryz.func16 rfl trivial ?_;refine z8 (α:=Nat) (fun i=>[(2,.ptr 0 0),(3,.ptr 1 0),(6,vI .i64 i)]) (fun _=>[some (bWt s),some (bWt t)]) (fun i=>i≤s.ins.length∧s.ins.take i=t.ins.take i) (fun i=>s.ins.length-i) 0 ⟨Nat.zero_le _,rfl⟩ ?_ ?_
 ·exact fun h=>yE h (eAl rfl) (oAl rfl)
 rintro i ⟨hi,hc⟩ ih;refine yB Tryz.func16 rfl trivial (fun hb=>?_) (fun hb=>?_)<;>simp only [decide_eq_true_eq,decide_eq_false_iff_not,List.length_map]at hb
 ·have hlt:i<s.ins.length:=by omega
  have hlb:i<t.ins.length:=by omega
  have ea:s.ins.getD i []=s.ins[i]:=by simp [hlt]
  have eb:t.ins.getD i []=t.ins[i]:=by simp [hlb]
  refine yO 10 Tryz.func16 rfl trivial ?_;refine yq rfl ?_ ?_
  ·exact(by simp [andP]<;>omega)
  refine yV Tryz.func16 rfl trivial (zab (s.ins.getD i []) (t.ins.getD i [])) (.refl _) ?_;by_cases h4:s.ins.getD i []=t.ins.getD i []
  ·rw [decide_eq_true h4];refine yF Tryz.func16 rfl trivial ?_;refine yS Tryz.func16 rfl trivial ?_;rw [ea,eb]at h4;refine yE (ih (i+1) ⟨by omega,?_⟩ (by omega)) ⟨erl rfl,erl rfl,erw rfl,trivial⟩ (oAl rfl);rw [List.take_add_one,List.take_add_one,hc,List.getElem?_eq_getElem hlt,List.getElem?_eq_getElem hlb,h4]
  ·rw [decide_eq_false h4];refine yT Tryz.func16 rfl trivial ?_;exact yR Tryz.func16 rfl trivial (no fun e=>h4 (by rw [e]))
 ·obtain rfl:i=s.ins.length:=by omega
  rw [List.take_length,hl,List.take_length]at hc;refine yR Tryz.func16 rfl trivial ?_;have:sameW s t=true:=by
   rw [z5t];cases s;cases t;simp only at h1 h2 hc;rw [h1,h2,hc]
  rw [this];rfl
def smB(t:Wt)(most:Nat):Bool:=decide (t.ins.length≤most)&&decide (t.init.length≤40)&&(t.init::t.ins).all fun l=>decide (l.length≤40)&&l.all fun s=>decide (s.length≤200)
theorem zsj{t:Wt}{n:Nat}(h:smB t n=true):SmW t n:=by
 unfold smB at h;simp only [Bool.and_eq_true,decide_eq_true_eq,List.all_eq_true,List.mem_cons]at h;obtain⟨⟨h1,h2⟩,h3⟩:=h;exact⟨h1,h2,(h3 _ (.inl rfl)).2,fun l hl=>h3 l (.inr hl)⟩
theorem SmW.mono{t:Wt}{n m:Nat}(h:SmW t n)(hm:n≤m):SmW t m:=⟨Nat.le_trans h.n hm,h.i,h.r,h.l⟩
theorem zg5(t:Wt)(n:Nat)(hn:n≤1000)(hw:t.ins.length*24+24≤140737488355328):ACall Tryz.prog 10 [.d (eWt t),vI .i64 (n:Int)] [] (fun r o=>r=vB (smB t n)):=by
 refine yN Tryz.func10 fun C hC hCl hDs hGk=>?_;refine yB Tryz.func10 rfl trivial (fun h1=>?_) (fun h1=>?_)
 ·have h1:decide (((t.ins.map eSs).length:Int)>(n:Int))=true:=h1;rw [decide_eq_true_eq,List.length_map]at h1;repeat refine yT Tryz.func10 rfl trivial ?_
  refine yR Tryz.func10 rfl trivial ?_;unfold smB;rw [decide_eq_false (by omega)];rfl
 have h1:decide (((t.ins.map eSs).length:Int)>(n:Int))=false:=h1;rw [decide_eq_false_iff_not,List.length_map]at h1;refine yB Tryz.func10 rfl trivial (fun h2=>?_) (fun h2=>?_)
 ·have h2:decide (((t.init.map dSL).length:Int)>40)=true:=h2;rw [decide_eq_true_eq,List.length_map]at h2;refine yR Tryz.func10 rfl trivial ?_;unfold smB;rw [decide_eq_false (show ¬t.init.length≤40 by omega),Bool.and_false];rfl
 have h2:decide (((t.init.map dSL).length:Int)>40)=false:=h2;rw [decide_eq_false_iff_not,List.length_map]at h2;have hsm:smB t n=(t.init::t.ins).all fun l=>decide (l.length≤40)&&l.all fun s=>decide (s.length≤200):=by
  unfold smB;rw [decide_eq_true (by omega),decide_eq_true (by omega)];rfl
 rw [hsm];refine yX 6 Tryz.func10 rfl trivial ?_;refine zcx _ tabOk rfl rfl rfl rfl rfl trivial rfl ?_;refine yS Tryz.func10 rfl ?_ ?_
 ·show([eSs t.init].length+(t.ins.map eSs).length)*24≤140737488355328∧True;rw [List.length_map];exact⟨by show(1+t.ins.length)*24≤_;omega,trivial⟩
 refine zh 1 rfl ?_;have hLl:(t.init::t.ins).length≤1001:=by simp;omega
 refine zt (env':=[(5,.d (eSss (t.init::t.ins))),(6,vI .i64 ((0:Nat):Int))]) (objs':=[]) ?_ hC hCl ⟨⟨_,rfl,.eL rfl⟩,⟨_,rfl,.refl _⟩,trivial⟩ trivial rfl rfl (Nat.zero_le _);generalize t.init::t.ins=L at *;refine z8 (α:=Nat) (fun i=>[(5,.d (eSss L)),(6,vI .i64 (i:Int))]) (fun _=>[]) (fun i=>i≤L.length∧∀q,q<i→(decide ((L.getD q []).length≤40)&&(L.getD q []).all fun s=>decide (s.length≤200))=true) (fun i=>L.length-i) 0 ⟨Nat.zero_le _,fun q hq=>by omega⟩ ?_ ?_
 ·exact fun h=>yE h (eAl rfl) trivial
 rintro i ⟨hi,hc⟩ ih;refine yB Tryz.func10 rfl trivial (fun hb=>?_) (fun hb=>?_)<;>simp only [decide_eq_true_eq,decide_eq_false_iff_not,List.length_map]at hb
 ·have hlt:i<L.length:=by omega
  have hmem:=z3q (d:=[]) hlt;have no:(decide ((L.getD i []).length≤40)&&(L.getD i []).all fun s=>decide (s.length≤200))=false→vB false=vB (L.all fun l=>decide (l.length≤40)&&l.all fun s=>decide (s.length≤200)):=fun h=>by
   rw [List.all_eq_false.2 ⟨_,hmem,by rw [h];decide⟩]
  refine yB Tryz.func10 rfl (by simp [andP]<;>omega) (fun g=>?_) (fun g=>?_)
  ·have g:decide ((((L.getD (i:Int).toNat []).map dSL).length:Int)>40)=true:=g;rw [decide_eq_true_eq,Int.toNat_natCast,List.length_map]at g;refine yR Tryz.func10 rfl trivial (no ?_);rw [decide_eq_false (by omega),Bool.false_and]
  have g:decide ((((L.getD (i:Int).toNat []).map dSL).length:Int)>40)=false:=g;rw [decide_eq_false_iff_not,Int.toNat_natCast,List.length_map]at g;have g40:decide ((L.getD i []).length≤40)=true:=decide_eq_true (by omega);rw [g40,Bool.true_and]at no;refine yS Tryz.func10 rfl trivial ?_;refine z8 (α:=Nat) (fun j=>[(5,.d (eSss L)),(6,vI .i64 (i:Int)),(7,vI .i64 (j:Int))]) (fun _=>[]) (fun j=>j≤(L.getD i []).length∧∀q,q<j→decide (((L.getD i []).getD q []).length≤200)=true) (fun j=>(L.getD i []).length-j) 0 ⟨Nat.zero_le _,fun q hq=>by omega⟩ ?_ ?_
  ·exact fun h=>yE h (eAl rfl) trivial
  rintro j ⟨hj,hc2⟩ ih2;refine yB Tryz.func10 rfl (by simp [andP]<;>omega) (fun hb3=>?_) (fun hb3=>?_)
  ·have hb3:decide ((j:Int)<(((L.getD (i:Int).toNat []).map dSL).length:Int))=true:=hb3;rw [List.length_map,Int.toNat_natCast,decide_eq_true_eq]at hb3;have hjl:j<(L.getD i []).length:=by omega
   refine yB Tryz.func10 rfl ?_ (fun k=>?_) (fun k=>?_)
   ·show(0≤(j:Int)∧(j:Int)<(((L.getD (i:Int).toNat []).map dSL).length:Int))∧(0≤(i:Int)∧(i:Int)<((L.map eSs).length:Int))∧True;rw [List.length_map,Int.toNat_natCast,List.length_map];exact⟨⟨by omega,by omega⟩,⟨by omega,by omega⟩,trivial⟩
   ·have k:decide ((((⟨((L.getD (i:Int).toNat []).getD (j:Int).toNat []).toArray⟩:ByteArray).size:Nat):Int)>200)=true:=k;rw [zo,Int.toNat_natCast,Int.toNat_natCast,decide_eq_true_eq]at k;refine yR Tryz.func10 rfl trivial (no ?_);exact List.all_eq_false.2 ⟨_,z3q (d:=[]) hjl,by rw [decide_eq_false (by omega)];decide⟩
   ·have k:decide ((((⟨((L.getD (i:Int).toNat []).getD (j:Int).toNat []).toArray⟩:ByteArray).size:Nat):Int)>200)=false:=k;rw [zo,Int.toNat_natCast,Int.toNat_natCast,decide_eq_false_iff_not]at k;refine yS Tryz.func10 rfl trivial ?_;refine yE (ih2 (j+1) ⟨by omega,fun q hq=>?_⟩ (by omega)) ⟨erl rfl,erl rfl,erw rfl,trivial⟩ trivial;rcases Nat.lt_or_ge q j with h|h
    ·exact hc2 q h
    ·obtain rfl:q=j:=by omega
     exact decide_eq_true (by omega)
  ·have hb3:decide ((j:Int)<(((L.getD (i:Int).toNat []).map dSL).length:Int))=false:=hb3;rw [List.length_map,Int.toNat_natCast,decide_eq_false_iff_not]at hb3;obtain rfl:j=(L.getD i []).length:=by omega
   refine yS Tryz.func10 rfl trivial ?_;refine yE (ih (i+1) ⟨by omega,fun q hq=>?_⟩ (by omega)) ⟨erl rfl,erw rfl,trivial⟩ trivial;rcases Nat.lt_or_ge q i with h|h
   ·exact hc q h
   ·obtain rfl:q=i:=by omega
    rw [g40,Bool.true_and,List.all_eq_true];intro s hs;obtain⟨k,hk,rfl⟩:=List.getElem_of_mem hs;have:=hc2 k hk;rwa [z5k hk]at this
 ·obtain rfl:i=L.length:=by omega
  refine yR Tryz.func10 rfl trivial ?_;have:(L.all fun l=>decide (l.length≤40)&&l.all fun s=>decide (s.length≤200))=true:=by
   rw [List.all_eq_true];intro s hs;obtain⟨k,hk,rfl⟩:=List.getElem_of_mem hs;have:=hc k hk;rwa [z5k hk]at this
  rw [this];rfl
end Go.Proofs.YtbodbhpdelgpnaaGreatDoor
namespace Go.Proofs.YtbodbhpdelgpnaaGreatDoor
open Go Ab Go.RowKit Go.Lib
end Go.Proofs.YtbodbhpdelgpnaaGreatDoor
namespace Go.Proofs.YtbodbhpdelgpnaaGreatDoor
open Go Ab Go.RowKit
@[reducible] def Rm(t:Wt):Prop:=t.ins.length*24+24≤140737488355328
theorem za7:∀{f:List (List UInt8)} {ws:List (Int×List UInt8)} {m:Int},rowsB f ws=true→(∀w∈ws,w.1≤m)→f.length=ws.length∧∀s∈f,(s.length:Int)≤m
 | [],[],_,_,_=>⟨rfl,fun s hs=>by cases hs⟩
 | [],_::_,_,h,_=>by cases h
 | _::_,[],_,h,_=>by cases h
 | s::f,w::ws,m,h,hw=>by
  rw [rowsB,Bool.and_eq_true]at h;obtain⟨h1,h2⟩:=za7 h.2 (fun x hx=>hw x (List.mem_cons_of_mem _ hx));refine⟨by rw [List.length_cons,List.length_cons,h1],fun x hx=>?_⟩;rcases List.mem_cons.1 hx with rfl|hx
  ·have h3:=h.1;unfold rowB at h3;rw [Bool.and_eq_true,decide_eq_true_eq]at h3;rw [h3.1];exact hw w List.mem_cons_self
  ·exact h2 x hx
theorem zo8{l:List Nd}(ty:Ty l)(hl:l.length≤40){t:Wt}(h:z2a (shL l) t=true):SmW t 1000:=by
 obtain⟨⟨b0,b1,n0,n1⟩,r1,r2,r3⟩:=z2o.1 h;have wid:∀op,isVal op=true→∀s∈allL l op l.length,wdN l (ln l s)≤128:=fun op ho s hs=>(z2n ty ho hs).2.2.2.2
 have w1:∀w∈(shL l).st,w.1≤128:=fun w hw=>by
  obtain⟨s,hs,rfl⟩:=List.mem_map.1 hw;exact wid zb rfl s hs
 have w2:∀w∈(shL l).inw,w.1≤128:=fun w hw=>by
  obtain⟨s,hs,rfl⟩:=List.mem_map.1 hw;exact wid zv rfl s hs
 have n2:(shL l).st.length≤40:=by
  have:=z1j l zb l.length;show((allL l zb l.length).map (stL l)).length≤40;rw [List.length_map];omega
 have n3:(shL l).inw.length≤40:=by
  have:=z1j l zv l.length;show((allL l zv l.length).map (inL l)).length≤40;rw [List.length_map];omega
 obtain⟨e1,e2⟩:=za7 r1 w1;refine⟨by omega,by omega,fun s hs=>by have:=e2 s hs;omega,fun f hf=>?_⟩;obtain⟨e3,e4⟩:=za7 (r3 f hf) w2;exact⟨by omega,fun s hs=>by have:=e4 s hs;omega⟩
theorem zkb(l:List Nd)(ty:Ty l):(shL l).bads≤1000000:=by
 have:=z1j l kBad l.length;have:=ty.small;show(((allL l kBad l.length).length:Nat):Int)≤1000000;omega
theorem zno{l:List Nd}(ty:Ty l){t:Wt}(hr:z2a (shL l) t=true){n:Nat}(sm:SmW t n)(hn:n≤10):(wtT t).length≤100000:=by
 have h1:=zkb l ty;obtain⟨⟨b0,b1,-,-⟩,-⟩:=z2o.1 hr;have:=zk0 (n:=10) ⟨by have:=sm.n;omega,sm.i,sm.r,sm.l⟩ (by decide) ⟨b0,by omega⟩;omega
theorem zo9(x:PR Wt):∃U V W a e,parW x=tupOf [.d (.ag [U,V,W]),vI .i64 a,vI .i64 e]:=by
 rcases x with⟨a,e⟩|⟨t,e⟩
 ·exact⟨_,_,_,_,_,rfl⟩
 ·exact⟨_,_,_,_,_,rfl⟩
theorem WwitBack_law(l:List Nd)(t:Wt)(b:List UInt8)(hm:MdB l)(hl:l.length<2000000000000)(ht:Rm t)(hb:b.length≤9223372036854775807):ACall Tryz.prog 4 [.d (eBt l),.d (eWt t),.d (eBy b)] [] (fun r o=>r=vB true):=by
 refine yN Tryz.func4 fun C hC hCl hDs hGk=>?_;refine yV Tryz.func4 rfl trivial zeg (.refl _) ?_;refine yC Tryz.func4 rfl trivial (ze5 l hm 40 (by decide) hl) (.refl _) ?_ (hr:=by rintro r o ⟨b,rfl,-⟩;rfl);rintro r o ⟨c,rfl,hc⟩;cases c with
 | false=>
  repeat refine yT Tryz.func4 rfl trivial ?_
  exact yR Tryz.func4 rfl trivial rfl
 | true=>
  obtain⟨l40,ty⟩:=hc rfl;refine yF Tryz.func4 rfl trivial ?_;refine yV Tryz.func4 rfl trivial (zg5 t 10 (by decide) ht) (.refl _) ?_;cases h1:smB t 10 with
  | false=>
   repeat refine yT Tryz.func4 rfl trivial ?_
   exact yR Tryz.func4 rfl trivial rfl
  | true=>
   have s0:=zsj h1;have s1:=s0.mono (m:=1000) (by decide);refine yF Tryz.func4 rfl trivial ?_;refine yB Tryz.func4 rfl trivial (fun h2=>?_) (fun h2=>?_)
   ·exact yR Tryz.func4 rfl trivial rfl
   have h2:b.length≤2000:=by
    have h2:decide ((((b.map eU8).length:Nat):Int)>2000)=false:=h2;rw [decide_eq_false_iff_not,List.length_map]at h2;omega
   have c1:=z73 l hm ty t s1;have c2:=z7u l hm ty t s1;have in2:=(sh_in ty).2;have hbd:=zkb l ty;have c3:=z59 l hm ty b hb;obtain⟨gd1,gd2⟩:=zqn (sh_st ty) (sh_in ty).1 b;cases hR:z2a (shL l) t;unfold prW at c1;rw [if_neg (by rw [hR];decide)]at c1;rw [hR]at c2;have c4:=z59 l hm ty [] (by decide);obtain⟨U,V,W,a,e,hU⟩:=zo9 (wtP (shL l) []);rw [hU]at c4;refine yV Tryz.func4 rfl trivial c1 (.refl _) ?_;refine yV Tryz.func4 rfl trivial c2 (.refl _) ?_;refine yF Tryz.func4 rfl trivial ?_;refine yT Tryz.func4 rfl trivial ?_;refine yF Tryz.func4 rfl trivial ?_;refine yX 60 Tryz.func4 rfl trivial ?_;refine zcw (bs:=[]) tabOk rfl rfl rfl rfl rfl rfl rfl rfl rfl rfl (by decide) rfl ?_;refine zh 2 rfl ?_;refine yV Tryz.func4 rfl trivial c4 ⟨.refl _,VLe.eL rfl,trivial⟩ ?_;refine yF Tryz.func4 rfl trivial ?_;rotate_left;have lT:=zno ty hR s0 (by decide);have hrd:=zh6 in2 hbd hR lT;unfold prW at c1;rw [if_pos hR]at c1;rw [hR]at c2;have c4:=z59 l hm ty (wtT t) (by omega);rw [hrd]at c4;have c5:=z90 t t (by have:=s0.n;omega);rw [z5t.2 rfl]at c5;generalize wtT t=T at *;refine yV Tryz.func4 rfl trivial c1 (.refl _) ?_;refine yV Tryz.func4 rfl trivial c2 (.refl _) ?_;refine yF Tryz.func4 rfl trivial ?_;refine yF Tryz.func4 rfl trivial ?_;refine yF Tryz.func4 rfl trivial ?_;refine yX 60 Tryz.func4 rfl trivial ?_;refine zcw (bs:=T) tabOk rfl rfl rfl rfl rfl rfl rfl rfl rfl rfl (by omega) rfl ?_;refine zh 2 rfl ?_;refine yV Tryz.func4 rfl trivial c4 ⟨.refl _,VLe.eL rfl,trivial⟩ ?_;refine yT Tryz.func4 rfl trivial ?_;refine yF Tryz.func4 rfl trivial ?_;refine yB Tryz.func4 rfl trivial (fun h3=>?_) (fun h3=>?_)
   ·have h3:((T.length:Int) !=(((⟨T.toArray⟩:ByteArray).size:Nat):Int))=true:=h3;rw [z6y]at h3;simp at h3
   refine yV Tryz.func4 rfl trivial c5 (.refl _) ?_;repeat refine yF Tryz.func4 rfl trivial ?_
   rotate_left;all_goals
    repeat refine yF Tryz.func4 rfl trivial ?_
    refine yC Tryz.func4 rfl trivial c3 (.refl _) ?_ (hr:=by rintro r o rfl;rcases wtP (shL l) b with x|x<;>rfl);rintro _ o rfl;cases hq:wtP (shL l) b with
    | inl x=>
     obtain⟨p,e⟩:=x;obtain⟨e0,e1,e2⟩:=gd2 p e hq;unfold parW;refine yB Tryz.func4 rfl trivial (fun h3=>?_) (fun h3=>?_)
     ·have h3:decide (p<0)=true:=h3;rw [decide_eq_true_eq]at h3;omega
     refine yB Tryz.func4 rfl trivial (fun h4=>?_) (fun h4=>?_)
     ·have h4:decide (p>(((b.map eU8).length:Nat):Int))=true:=h4;rw [decide_eq_true_eq,List.length_map]at h4;omega
     refine yB Tryz.func4 rfl trivial (fun h5=>?_) (fun h5=>?_);rotate_left
     ·have h5:(e !=0)=false:=h5;rw [bne_eq_false_iff_eq]at h5;omega
     refine yT Tryz.func4 rfl trivial ?_;have hS2:=z90 ⟨0,[],[]⟩ ⟨0,[],[]⟩ (by decide);rw [z5t.2 rfl]at hS2;refine yV Tryz.func4 rfl trivial hS2 ⟨VLe.dag ⟨.refl _,zfg,zfg,trivial⟩,VLe.dag ⟨.refl _,zfg,zfg,trivial⟩,trivial⟩ ?_;refine yT Tryz.func4 rfl trivial ?_;refine yB Tryz.func4 rfl trivial (fun h6=>?_) (fun h6=>?_)
     ·exact yR Tryz.func4 rfl trivial rfl
     ·have h6:(e==2)=false:=h6;rw [beq_eq_false_iff_ne]at h6;refine yR Tryz.func4 rfl trivial ?_;show vB (e==3)=_;rw [show e=3 by omega];rfl
    | inr x=>
     obtain⟨d,p⟩:=x;obtain⟨g1,g2,g3⟩:=gd1 d p hq;have sd:=zo8 ty (by omega) g3;have c6:=z73 l hm ty d sd;unfold prW at c6;rw [if_pos g3,←g2]at c6;have c7:=z7u l hm ty d sd;rw [g3]at c7;unfold parW;subst g1;refine yB Tryz.func4 rfl trivial (fun h3=>?_) (fun h3=>?_)
     ·have h3:decide ((b.length:Int)<0)=true:=h3;rw [decide_eq_true_eq]at h3;omega
     refine yB Tryz.func4 rfl trivial (fun h4=>?_) (fun h4=>?_)
     ·have h4:decide ((b.length:Int)>(((b.map eU8).length:Nat):Int))=true:=h4;rw [decide_eq_true_eq,List.length_map]at h4;omega
     refine yF Tryz.func4 rfl trivial ?_;refine yV Tryz.func4 rfl trivial c6 (.refl _) ?_;refine yT Tryz.func4 rfl trivial ?_;refine yT Tryz.func4 rfl trivial ?_;refine yB Tryz.func4 rfl ⟨zas _,trivial⟩ (fun h5=>?_) (fun h5=>?_);rotate_left
     ·have h5:((⟨b.toArray⟩:ByteArray).toList==(strD (b.map eU8)).toList)=false:=h5;rw [zfu,strBy,decide_eq_true rfl]at h5;cases h5
     refine yB Tryz.func4 rfl trivial (fun h6=>?_) (fun h6=>?_);rotate_left
     ·have h6:((b.length:Int)==(((b.map eU8).length:Nat):Int))=false:=h6;rw [List.length_map]at h6;simp at h6
     refine yV Tryz.func4 rfl trivial c7 (.refl _) ?_;exact yR Tryz.func4 rfl trivial rfl
end Go.Proofs.YtbodbhpdelgpnaaGreatDoor
