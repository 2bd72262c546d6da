/- A part of the proof. -/
import Derived.Test.YtbodbhpdelgpnaaGreatDoorP11
set_option linter.unusedVariables false
set_option linter.unusedSimpArgs false
set_option linter.unusedSectionVars false
set_option maxRecDepth 100000
set_option maxHeartbeats 8000000
namespace Go.Proofs.YtbodbhpdelgpnaaGreatDoor
open Go Ab
def sameB(l:List Nd)(x:Nd)(j:Nat):Bool:=(List.range j).all fun q=>decide (awN l x q=wOf l x)
theorem zc5(l:List Nd)(x:Nd)(j:Nat):sameB l x (j+1)=(sameB l x j&&decide (awN l x j=wOf l x)):=by
 simp [sameB,List.range_succ]
theorem zga{l:List Nd}{x:Nd}(h:sameP l x):sameB l x x.a.length=true:=List.all_eq_true.2 fun j hj=>decide_eq_true (h j (List.mem_range.1 hj))
theorem zgb{l:List Nd}{x:Nd}(h:sameB l x x.a.length=true):sameP l x:=fun j hj=>by
 have:=List.all_eq_true.1 h j (List.mem_range.2 hj);simpa using this
@[reducible] def gIs(l:List Int):AObj:=gL 3 1 eI 0 l
def aws(l:List Nd)(x:Nd)(j:Nat):List Int:=(List.range j).map (awN l x)
theorem z1e(l:List Nd)(x:Nd)(j:Nat):(aws l x j).length=j:=by simp [aws]
theorem z18{l:List Nd}{x:Nd}{j q:Nat}(h:q<j):(aws l x j).getD q 0=awN l x q:=by simp [aws,h]
theorem beqI(a b:Int):(a==b)=decide (a=b):=by by_cases h:a=b<;>simp [h]
theorem wd_bd{l:List Nd}{i:Nat}(hn:∀j,j≤i→NodeOk (nd l j) ((j:Int)+1)){y:Nd}(hs:SortAt l y)(hy:y.s≤i+1):1≤wdN l y∧wdN l y≤128:=by
 have hk:=hn (y.s-1).toNat (by have:=hs.lo;omega);have:=hk.nb _ (z11 0 hs.n);rw [show(nd l (y.s-1).toNat).op=kSort from hs.op,show(formR kSort).1.count 119=1 by decide]at this;exact this
theorem zbm(l:List Nd)(hm:MdB l)(hl:l.length<maxLen)(i:Nat)(hi:i<l.length)(hn:∀j,j≤i→NodeOk (nd l j) ((j:Int)+1))(hs:0<(nd l i).s→SortAt l (nd l i))(hv:∀a∈(nd l i).a,SortAt l (ln l a)):
  ACall Tryz.prog 114 [.d (eBt l),vI .i64 ((i+1:Nat):Int)] [] (fun r o=>∃e:Int,r=vI .i64 e∧(e=0→AskOk l i (nd l i))∧(AskOk l i (nd l i)→e=0)):=by
 refine yN Tryz.func114 fun C hC hCl hDs hGk=>?_;have hl2:l.length<9223372036854775807:=hl;have e1:IntKind.i64.wrap (((i+1:Nat):Int)-1)=(i:Int):=by rw [z7 (by omega) (by omega)];omega
 have hni:=hn i (Nat.le_refl _);have hal:∀j,j≤i→(nd l j).op=kInit∨(nd l j).op=kNext→(nd l j).a.length=2:=fun j hj h=>by
  rw [(hn j hj).al];rcases h with h|h<;>rw [h]<;>decide
 obtain⟨x,hx⟩:∃x,nd l i=x:=⟨_,rfl⟩
 rw [hx]at hs hv hni ⊢;have hsz:(⟨x.t.toArray⟩:ByteArray).size=x.t.length:=zp x.t;have hdl:∀j,j<x.a.length→1≤x.a.getD j 0∧x.a.getD j 0≤i:=fun j hj=>by
  have:=hni.ab _ (z11 0 hj);omega
 have hbd:∀j,j<x.a.length→1≤awN l x j∧awN l x j≤128:=fun j hj=>by
  have hd:=hdl j hj;have hS:=hv _ (z11 0 hj);have hk:=hn (x.a.getD j 0-1).toNat (by omega);refine wd_bd hn hS ?_;have hc:0<(formR (ln l (x.a.getD j 0)).op).1.count 115:=by
   rcases Nat.eq_zero_or_pos ((formR (ln l (x.a.getD j 0)).op).1.count 115)with h|h
   ·have h3:(ln l (x.a.getD j 0)).s=0:=hk.s0 h;have:=hS.lo;omega
   ·exact h
  have h3:(ln l (x.a.getD j 0)).s<(((x.a.getD j 0-1).toNat:Nat):Int)+1:=(hk.s1 hc).2;omega
 have hnb:∀j,j<x.n.length→0≤x.n.getD j 0∧x.n.getD j 0≤128:=fun j hj=>by
  have:=hni.nb _ (z11 0 hj);omega
 apply letK (p:=ASat Tryz.prog 114 Tryz.f114.ntmps C _ [(1,vI .i64 ((i+1:Nat):Int)),(2,.ptr 0 0),(5,.ptr 1 0),(6,vI .i64 (wOf l x)),(7,.gs 2),(8,vB (sameB l x 0)),(9,vI .i64 (0:Nat))] [some (bBt l),some (bNd x),some (gIs (aws l x 0))] (fun r o=>∃e:Int,r=vI .i64 e∧(e=0→AskOk l i x)∧(AskOk l i x→e=0)))
 ·intro key;refine yB Tryz.func114 rfl (by simp only [e1,List.length_map];exact⟨⟨by omega,by omega⟩,trivial⟩) (fun h=>?_) (fun h=>?_)
  ·have h:decide ((l.getD (IntKind.i64.wrap (((i+1:Nat):Int)-1)).toNat default).s>0)=true:=h;rw [e1,Int.toNat_natCast,show l.getD i default=x from hx,decide_eq_true_eq]at h;have hS:=hs h;refine yV Tryz.func114 rfl trivial (z8p l x hS.lo hS.hi hS.n hm.len) ⟨.refl _,.of (by show AV.d (eNd (l.getD (IntKind.i64.wrap (((i+1:Nat):Int)-1)).toNat default))=_;rw [e1,Int.toNat_natCast,show l.getD i default=x from hx]),trivial⟩ ?_;refine yS Tryz.func114 rfl trivial ?_;refine z45 (s:=1) (e:=3) (t:=7) (.inl rfl) (fun i=>eI (([]:List Int).getD i 0)) ?_;refine yE key ⟨erl rfl,erl rfl,erl rfl,⟨_,rfl,.of ?_⟩,erl rfl,erl rfl,erl rfl,trivial⟩ ⟨.refl _,.of ?_,.refl _,trivial⟩
   ·rw [wOf,if_pos h]
   ·rw [e1,Int.toNat_natCast,show l.getD i default=x from hx];rfl
  ·have h:decide ((l.getD (IntKind.i64.wrap (((i+1:Nat):Int)-1)).toNat default).s>0)=false:=h;rw [e1,Int.toNat_natCast,show l.getD i default=x from hx,decide_eq_false_iff_not]at h;refine yS Tryz.func114 rfl trivial ?_;refine z45 (s:=1) (e:=3) (t:=7) (.inl rfl) (fun i=>eI (([]:List Int).getD i 0)) ?_;refine yE key ⟨erl rfl,erl rfl,erl rfl,⟨_,rfl,.of ?_⟩,erl rfl,erl rfl,erl rfl,trivial⟩ ⟨.refl _,.of ?_,.refl _,trivial⟩
   ·rw [wOf,if_neg (by omega)]
   ·rw [e1,Int.toNat_natCast,show l.getD i default=x from hx];rfl
 refine z8 (α:=Nat) (fun j=>[(1,vI .i64 ((i+1:Nat):Int)),(2,.ptr 0 0),(5,.ptr 1 0),(6,vI .i64 (wOf l x)),(7,.gs 2),(8,vB (sameB l x j)),(9,vI .i64 (j:Int))]) (fun j=>[some (bBt l),some (bNd x),some (gIs (aws l x j))]) (fun j=>j≤x.a.length) (fun j=>x.a.length-j) 0 (Nat.zero_le _) ?_ ?_
 ·exact fun h=>h
 rintro j hj ih;have hxa:x.a.length≤4:=by
  rw [hni.al];exact Nat.le_trans List.count_le_length (z8g _)
 refine yB Tryz.func114 rfl trivial (fun hb=>?_) (fun hb=>?_)<;>simp only [List.length_map,decide_eq_true_eq,decide_eq_false_iff_not]at hb
 ·have hlt:j<x.a.length:=by omega
  have hd:=hdl j hlt;refine yO 6 Tryz.func114 rfl trivial ?_;refine yq rfl (by simp [andP]<;>omega) ?_;refine yV Tryz.func114 rfl trivial (ziz l (x.a.getD j 0) hd.1 (by omega) (hv _ (z11 0 hlt)) hm.len) (.refl _) ?_;have hmap:(aws l x j).map eI++[eI (wdN l (ln l (x.a.getD j 0)))]=(aws l x (j+1)).map eI:=by
   simp [aws,List.range_succ,awN]
  refine yB Tryz.func114 rfl ?_ (fun g=>?_) (fun g=>?_)
  ·show((List.map eI (aws l x j)).length+1)*8≤140737488355328∧True;rw [List.length_map,z1e];exact⟨by omega,trivial⟩
  ·have g:sameB l x j=true:=g;refine yS Tryz.func114 rfl trivial ?_;refine yE (ih (j+1) (by omega) (by omega)) ⟨erl rfl,erl rfl,erl rfl,erl rfl,erl rfl,⟨_,rfl,.of ?_⟩,erw rfl,trivial⟩ ⟨.refl _,.refl _,.gL hmap,trivial⟩;show vB (wdN l (ln l (x.a.getD j 0))==wOf l x)=_;rw [zc5,g,beqI];rfl
  ·have g:sameB l x j=false:=g;refine yS Tryz.func114 rfl trivial ?_;refine yE (ih (j+1) (by omega) (by omega)) ⟨erl rfl,erl rfl,erl rfl,erl rfl,erl rfl,⟨_,rfl,.of ?_⟩,erw rfl,trivial⟩ ⟨.refl _,.refl _,.gL hmap,trivial⟩;rw [zc5,g];rfl
 obtain rfl:j=x.a.length:=by omega
 refine yB Tryz.func114 rfl trivial (fun qSort=>?_) (fun qSort=>?_)<;>rw [show((⟨#[115,111,114,116]⟩:ByteArray))=⟨kSort.toArray⟩from rfl,strB]at qSort<;>simp only [decide_eq_true_eq,decide_eq_false_iff_not]at qSort
 ·refine yF Tryz.func114 rfl trivial ?_;refine yR Tryz.func114 rfl trivial ?_;refine⟨0,rfl,fun _=>⟨?_,?_,?_,?_,?_,?_,?_,?_,?_,?_,?_⟩,fun _=>rfl⟩<;>intro g<;>first|exact trivial|exact absurd g (by rw [qSort];decide)|exact absurd qSort (g _ (by decide))
 refine yB Tryz.func114 rfl trivial (fun qInput=>?_) (fun qInput=>?_)<;>rw [show((⟨#[105,110,112,117,116]⟩:ByteArray))=⟨zy.toArray⟩from rfl,strB]at qInput<;>simp only [decide_eq_true_eq,decide_eq_false_iff_not]at qInput
 ·refine yF Tryz.func114 rfl trivial ?_;refine yR Tryz.func114 rfl trivial ?_;refine⟨0,rfl,fun _=>⟨?_,?_,?_,?_,?_,?_,?_,?_,?_,?_,?_⟩,fun _=>rfl⟩<;>intro g<;>first|exact trivial|exact absurd g (by rw [qInput];decide)|exact absurd qInput (g _ (by decide))
 refine yB Tryz.func114 rfl trivial (fun qState=>?_) (fun qState=>?_)<;>rw [show((⟨#[115,116,97,116,101]⟩:ByteArray))=⟨ze.toArray⟩from rfl,strB]at qState<;>simp only [decide_eq_true_eq,decide_eq_false_iff_not]at qState
 ·refine yF Tryz.func114 rfl trivial ?_;refine yR Tryz.func114 rfl trivial ?_;refine⟨0,rfl,fun _=>⟨?_,?_,?_,?_,?_,?_,?_,?_,?_,?_,?_⟩,fun _=>rfl⟩<;>intro g<;>first|exact trivial|exact absurd g (by rw [qState];decide)|exact absurd qState (g _ (by decide))
 refine yB Tryz.func114 rfl trivial (fun qConst=>?_) (fun qConst=>?_)<;>rw [show((⟨#[99,111,110,115,116]⟩:ByteArray))=⟨z1a.toArray⟩from rfl,strB]at qConst<;>simp only [decide_eq_true_eq,decide_eq_false_iff_not]at qConst
 ·refine yB Tryz.func114 rfl trivial (fun e=>?_) (fun e=>?_)
  ·exact yR Tryz.func114 rfl trivial ⟨5,rfl,fun h=>absurd h (by decide),fun ha=>by have e:(!(((⟨x.t.toArray⟩:ByteArray).size:Int)==wOf l x))=true:=e;rw [hsz,ha.const qConst]at e;simp at e⟩
  ·have e:(!(((⟨x.t.toArray⟩:ByteArray).size:Int)==wOf l x))=false:=e;rw [hsz]at e;have e:(x.t.length:Int)=wOf l x:=by simpa using e
   refine yR Tryz.func114 rfl trivial ?_;refine⟨0,rfl,fun _=>⟨?_,?_,?_,?_,?_,?_,?_,?_,?_,?_,?_⟩,fun _=>rfl⟩<;>intro g<;>first|exact e|exact absurd g (by rw [qConst];decide)|exact absurd qConst (g _ (by decide))
 refine yB Tryz.func114 rfl trivial (fun qBad=>?_) (fun qBad=>?_)<;>rw [show((⟨#[98,97,100]⟩:ByteArray))=⟨kBad.toArray⟩from rfl,strB]at qBad<;>simp only [decide_eq_true_eq,decide_eq_false_iff_not]at qBad
 ·have hx1:x.a.length=1:=by rw [hni.al,qBad];decide
  refine yB Tryz.func114 rfl (by simp only [List.length_map,z1e,hx1];decide) (fun e=>?_) (fun e=>?_)
  ·exact yR Tryz.func114 rfl trivial ⟨5,rfl,fun h=>absurd h (by decide),fun ha=>by have e:(!((aws l x x.a.length).getD 0 0==1))=true:=e;rw [z18 (by omega),ha.bad (.inl qBad)]at e;simp at e⟩
  have e:(!((aws l x x.a.length).getD 0 0==1))=false:=e;rw [z18 (by omega)]at e;have e:awN l x 0=1:=by simpa using e
  refine yR Tryz.func114 rfl trivial ?_;refine⟨0,rfl,fun _=>⟨?_,?_,?_,?_,?_,?_,?_,?_,?_,?_,?_⟩,fun _=>rfl⟩<;>intro g<;>first|exact e|exact absurd g (by rw [qBad];decide)|exact absurd qBad (g _ (by decide))
 refine yB Tryz.func114 rfl trivial (fun qConstraint=>?_) (fun qConstraint=>?_)<;>rw [show((⟨#[99,111,110,115,116,114,97,105,110,116]⟩:ByteArray))=⟨zg.toArray⟩from rfl,strB]at qConstraint<;>simp only [decide_eq_true_eq,decide_eq_false_iff_not]at qConstraint
 ·have hx1:x.a.length=1:=by rw [hni.al,qConstraint];decide
  refine yB Tryz.func114 rfl (by simp only [List.length_map,z1e,hx1];decide) (fun e=>?_) (fun e=>?_)
  ·exact yR Tryz.func114 rfl trivial ⟨5,rfl,fun h=>absurd h (by decide),fun ha=>by have e:(!((aws l x x.a.length).getD 0 0==1))=true:=e;rw [z18 (by omega),ha.bad (.inr qConstraint)]at e;simp at e⟩
  have e:(!((aws l x x.a.length).getD 0 0==1))=false:=e;rw [z18 (by omega)]at e;have e:awN l x 0=1:=by simpa using e
  refine yR Tryz.func114 rfl trivial ?_;refine⟨0,rfl,fun _=>⟨?_,?_,?_,?_,?_,?_,?_,?_,?_,?_,?_⟩,fun _=>rfl⟩<;>intro g<;>first|exact e|exact absurd g (by rw [qConstraint];decide)|exact absurd qConstraint (g _ (by decide))
 refine yB Tryz.func114 rfl trivial (fun qInit=>?_) (fun qInit=>?_)<;>rw [show((⟨#[105,110,105,116]⟩:ByteArray))=⟨kInit.toArray⟩from rfl,strB]at qInit<;>simp only [decide_eq_true_eq,decide_eq_false_iff_not]at qInit
 ·have hx2:x.a.length=2:=by rw [hni.al,qInit];decide
  have hd0:=hdl 0 (by omega);have hd1:=hdl 1 (by omega);have ea1:IntKind.i64.wrap (x.a.getD 1 0-1)=x.a.getD 1 0-1:=z7 (by omega) (by omega);refine yO 11 Tryz.func114 rfl trivial ?_;refine yb rfl trivial (fun g=>?_) (fun g=>?_)<;>rw [show((⟨#[105,110,105,116]⟩:ByteArray))=⟨kInit.toArray⟩from rfl,strB,qInit]at g
  ·refine yq rfl (by simp only [List.length_map,hx2];decide) ?_;refine yB Tryz.func114 rfl ?_ (fun g2=>?_) (fun g2=>?_)
   ·show(0≤IntKind.i64.wrap (x.a.getD 1 0-1)∧IntKind.i64.wrap (x.a.getD 1 0-1)<((l.map eNd).length:Int))∧True;rw [ea1,List.length_map];exact⟨⟨by omega,by omega⟩,trivial⟩
   ·exact yR Tryz.func114 rfl trivial ⟨9,rfl,fun h=>absurd h (by decide),fun ha=>by have g2:(!((⟨(l.getD (IntKind.i64.wrap (x.a.getD 1 0-1)).toNat default).op.toArray⟩:ByteArray).toList==(⟨z1a.toArray⟩:ByteArray).toList))=true:=g2;rw [strB,ea1,show(l.getD (x.a.getD 1 0-1).toNat default).op=z1a from ha.ini qInit]at g2;simp at g2⟩
   have g2:(!((⟨(l.getD (IntKind.i64.wrap (x.a.getD 1 0-1)).toNat default).op.toArray⟩:ByteArray).toList==(⟨z1a.toArray⟩:ByteArray).toList))=false:=g2;rw [strB,ea1]at g2;have hcon:(ln l (x.a.getD 1 0)).op=z1a:=by simpa using g2
   refine yO 10 Tryz.func114 rfl trivial ?_;refine yb rfl trivial (fun g4=>?_) (fun g4=>?_)
   ·refine yq rfl ⟨⟨Int.le_refl _,by rw [List.length_map,hx2];decide⟩,trivial⟩ ?_;refine yC Tryz.func114 rfl trivial (zdz l i (by omega) x.op (x.a.getD 0 0) (fun j hj hj2=>by rw [hal j (by omega) (by rw [hj2,qInit];decide)];decide) hl) (.refl _) ?_ (hr:=by rintro r o ⟨b,rfl,-⟩;rfl);rintro r o ⟨bb,rfl,hb1,hb2⟩;refine yB Tryz.func114 rfl trivial (fun g5=>?_) (fun g5=>?_)
    ·exact yR Tryz.func114 rfl trivial ⟨1,rfl,fun h=>absurd h (by decide),fun ha=>by exact absurd (hb2 g5) (ha.inx (.inl qInit)).2⟩
    refine yB Tryz.func114 rfl trivial (fun e=>?_) (fun e=>?_)
    ·exact yR Tryz.func114 rfl trivial ⟨5,rfl,fun h=>absurd h (by decide),fun ha=>by have e:(!sameB l x x.a.length)=true:=e;rw [show sameB l x x.a.length=true from g4]at e;cases e⟩
    have fin:=hb1 g5;have fin2:=zgb g4;refine yR Tryz.func114 rfl trivial ?_;refine⟨0,rfl,fun _=>⟨?_,?_,?_,?_,?_,?_,?_,?_,?_,?_,?_⟩,fun _=>rfl⟩<;>intro g<;>first|exact⟨fin2,fin⟩|exact hcon|exact absurd g (by rw [qInit];decide)|exact absurd qInit (g _ (by decide))
   ·have g4:sameB l x x.a.length=false:=g4;refine yq rfl trivial ?_;refine yF Tryz.func114 rfl trivial ?_;refine yB Tryz.func114 rfl trivial (fun e=>?_) (fun e=>?_)
    ·exact yR Tryz.func114 rfl trivial ⟨5,rfl,fun h=>absurd h (by decide),fun ha=>by rw [zga (ha.inx (.inl qInit)).1]at g4;cases g4⟩
    ·have e:(!sameB l x x.a.length)=false:=e;rw [g4]at e;cases e
  ·exact absurd g (by decide)
 refine yB Tryz.func114 rfl trivial (fun qNext=>?_) (fun qNext=>?_)<;>rw [show((⟨#[110,101,120,116]⟩:ByteArray))=⟨kNext.toArray⟩from rfl,strB]at qNext<;>simp only [decide_eq_true_eq,decide_eq_false_iff_not]at qNext
 ·have hx2:x.a.length=2:=by rw [hni.al,qNext];decide
  have hd0:=hdl 0 (by omega);have hd1:=hdl 1 (by omega);have ea1:IntKind.i64.wrap (x.a.getD 1 0-1)=x.a.getD 1 0-1:=z7 (by omega) (by omega);refine yO 11 Tryz.func114 rfl trivial ?_;refine yb rfl trivial (fun g=>?_) (fun g=>?_)<;>rw [show((⟨#[105,110,105,116]⟩:ByteArray))=⟨kInit.toArray⟩from rfl,strB,qNext]at g
  ·exact absurd g (by decide)
  ·refine yq rfl trivial ?_;refine yF Tryz.func114 rfl trivial ?_;refine yO 10 Tryz.func114 rfl trivial ?_;refine yb rfl trivial (fun g4=>?_) (fun g4=>?_)
   ·refine yq rfl ⟨⟨Int.le_refl _,by rw [List.length_map,hx2];decide⟩,trivial⟩ ?_;refine yC Tryz.func114 rfl trivial (zdz l i (by omega) x.op (x.a.getD 0 0) (fun j hj hj2=>by rw [hal j (by omega) (by rw [hj2,qNext];decide)];decide) hl) (.refl _) ?_ (hr:=by rintro r o ⟨b,rfl,-⟩;rfl);rintro r o ⟨bb,rfl,hb1,hb2⟩;refine yB Tryz.func114 rfl trivial (fun g5=>?_) (fun g5=>?_)
    ·exact yR Tryz.func114 rfl trivial ⟨1,rfl,fun h=>absurd h (by decide),fun ha=>by exact absurd (hb2 g5) (ha.inx (.inr qNext)).2⟩
    refine yB Tryz.func114 rfl trivial (fun e=>?_) (fun e=>?_)
    ·exact yR Tryz.func114 rfl trivial ⟨5,rfl,fun h=>absurd h (by decide),fun ha=>by have e:(!sameB l x x.a.length)=true:=e;rw [show sameB l x x.a.length=true from g4]at e;cases e⟩
    have fin:=hb1 g5;have fin2:=zgb g4;refine yR Tryz.func114 rfl trivial ?_;refine⟨0,rfl,fun _=>⟨?_,?_,?_,?_,?_,?_,?_,?_,?_,?_,?_⟩,fun _=>rfl⟩<;>intro g<;>first|exact⟨fin2,fin⟩|exact absurd g (by rw [qNext];decide)|exact absurd qNext (g _ (by decide))
   ·have g4:sameB l x x.a.length=false:=g4;refine yq rfl trivial ?_;refine yF Tryz.func114 rfl trivial ?_;refine yB Tryz.func114 rfl trivial (fun e=>?_) (fun e=>?_)
    ·exact yR Tryz.func114 rfl trivial ⟨5,rfl,fun h=>absurd h (by decide),fun ha=>by rw [zga (ha.inx (.inr qNext)).1]at g4;cases g4⟩
    ·have e:(!sameB l x x.a.length)=false:=e;rw [g4]at e;cases e
 refine yB Tryz.func114 rfl trivial (fun qRedand=>?_) (fun qRedand=>?_)<;>rw [show((⟨#[114,101,100,97,110,100]⟩:ByteArray))=⟨z1z.toArray⟩from rfl,strB]at qRedand<;>simp only [decide_eq_true_eq,decide_eq_false_iff_not]at qRedand
 ·refine yB Tryz.func114 rfl trivial (fun e=>?_) (fun e=>?_)
  ·exact yR Tryz.func114 rfl trivial ⟨5,rfl,fun h=>absurd h (by decide),fun ha=>by have e:(!(wOf l x==1))=true:=e;rw [ha.red (.inl qRedand)]at e;simp at e⟩
  have e:(!(wOf l x==1))=false:=e;have e:wOf l x=1:=by simpa using e
  refine yR Tryz.func114 rfl trivial ?_;refine⟨0,rfl,fun _=>⟨?_,?_,?_,?_,?_,?_,?_,?_,?_,?_,?_⟩,fun _=>rfl⟩<;>intro g<;>first|exact e|exact absurd g (by rw [qRedand];decide)|exact absurd qRedand (g _ (by decide))
 refine yB Tryz.func114 rfl trivial (fun qRedor=>?_) (fun qRedor=>?_)<;>rw [show((⟨#[114,101,100,111,114]⟩:ByteArray))=⟨z2l.toArray⟩from rfl,strB]at qRedor<;>simp only [decide_eq_true_eq,decide_eq_false_iff_not]at qRedor
 ·refine yB Tryz.func114 rfl trivial (fun e=>?_) (fun e=>?_)
  ·exact yR Tryz.func114 rfl trivial ⟨5,rfl,fun h=>absurd h (by decide),fun ha=>by have e:(!(wOf l x==1))=true:=e;rw [ha.red (.inr (.inl qRedor))]at e;simp at e⟩
  have e:(!(wOf l x==1))=false:=e;have e:wOf l x=1:=by simpa using e
  refine yR Tryz.func114 rfl trivial ?_;refine⟨0,rfl,fun _=>⟨?_,?_,?_,?_,?_,?_,?_,?_,?_,?_,?_⟩,fun _=>rfl⟩<;>intro g<;>first|exact e|exact absurd g (by rw [qRedor];decide)|exact absurd qRedor (g _ (by decide))
 refine yB Tryz.func114 rfl trivial (fun qRedxor=>?_) (fun qRedxor=>?_)<;>rw [show((⟨#[114,101,100,120,111,114]⟩:ByteArray))=⟨z1y.toArray⟩from rfl,strB]at qRedxor<;>simp only [decide_eq_true_eq,decide_eq_false_iff_not]at qRedxor
 ·refine yB Tryz.func114 rfl trivial (fun e=>?_) (fun e=>?_)
  ·exact yR Tryz.func114 rfl trivial ⟨5,rfl,fun h=>absurd h (by decide),fun ha=>by have e:(!(wOf l x==1))=true:=e;rw [ha.red (.inr (.inr qRedxor))]at e;simp at e⟩
  have e:(!(wOf l x==1))=false:=e;have e:wOf l x=1:=by simpa using e
  refine yR Tryz.func114 rfl trivial ?_;refine⟨0,rfl,fun _=>⟨?_,?_,?_,?_,?_,?_,?_,?_,?_,?_,?_⟩,fun _=>rfl⟩<;>intro g<;>first|exact e|exact absurd g (by rw [qRedxor];decide)|exact absurd qRedxor (g _ (by decide))
 refine yB Tryz.func114 rfl trivial (fun qEq=>?_) (fun qEq=>?_)<;>rw [show((⟨#[101,113]⟩:ByteArray))=⟨kEq.toArray⟩from rfl,strB]at qEq<;>simp only [decide_eq_true_eq,decide_eq_false_iff_not]at qEq
 ·have hx2:x.a.length=2:=by rw [hni.al,qEq];decide
  refine yO 9 Tryz.func114 rfl trivial ?_;refine yb rfl trivial (fun g4=>?_) (fun g4=>?_)
  ·refine yq rfl (by first|(simp only [List.length_map,z1e,hx2];decide)|simp only [List.length_map,z1e,hx2]) ?_;refine yB Tryz.func114 rfl (by first|(simp only [List.length_map,z1e,hx2];decide)|simp only [List.length_map,z1e,hx2]) (fun e=>?_) (fun e=>?_)
   ·exact yR Tryz.func114 rfl trivial ⟨5,rfl,fun h=>absurd h (by decide),fun ha=>by have e:(!((aws l x x.a.length).getD 0 0==(aws l x x.a.length).getD 1 0))=true:=e;rw [z18 (by omega),z18 (by omega),(ha.cmp (.inl qEq)).2]at e;simp at e⟩
   have e:(!((aws l x x.a.length).getD 0 0==(aws l x x.a.length).getD 1 0))=false:=e;rw [z18 (by omega),z18 (by omega)]at e;have e:awN l x 0=awN l x 1:=by simpa using e
   have g4:wOf l x=1:=eq_of_beq g4;refine yR Tryz.func114 rfl trivial ?_;refine⟨0,rfl,fun _=>⟨?_,?_,?_,?_,?_,?_,?_,?_,?_,?_,?_⟩,fun _=>rfl⟩<;>intro g<;>first|exact⟨g4,e⟩|exact absurd g (by rw [qEq];decide)|exact absurd qEq (g _ (by decide))
  ·refine yq rfl trivial ?_;refine yB Tryz.func114 rfl trivial (fun e=>?_) (fun e=>?_)
   ·exact yR Tryz.func114 rfl trivial ⟨5,rfl,fun h=>absurd h (by decide),fun ha=>by have g4:(wOf l x==1)=false:=g4;rw [(ha.cmp (.inl qEq)).1]at g4;cases g4⟩
   ·cases e
 refine yB Tryz.func114 rfl trivial (fun qUlt=>?_) (fun qUlt=>?_)<;>rw [show((⟨#[117,108,116]⟩:ByteArray))=⟨kUlt.toArray⟩from rfl,strB]at qUlt<;>simp only [decide_eq_true_eq,decide_eq_false_iff_not]at qUlt
 ·have hx2:x.a.length=2:=by rw [hni.al,qUlt];decide
  refine yO 9 Tryz.func114 rfl trivial ?_;refine yb rfl trivial (fun g4=>?_) (fun g4=>?_)
  ·refine yq rfl (by first|(simp only [List.length_map,z1e,hx2];decide)|simp only [List.length_map,z1e,hx2]) ?_;refine yB Tryz.func114 rfl (by first|(simp only [List.length_map,z1e,hx2];decide)|simp only [List.length_map,z1e,hx2]) (fun e=>?_) (fun e=>?_)
   ·exact yR Tryz.func114 rfl trivial ⟨5,rfl,fun h=>absurd h (by decide),fun ha=>by have e:(!((aws l x x.a.length).getD 0 0==(aws l x x.a.length).getD 1 0))=true:=e;rw [z18 (by omega),z18 (by omega),(ha.cmp (.inr (.inl qUlt))).2]at e;simp at e⟩
   have e:(!((aws l x x.a.length).getD 0 0==(aws l x x.a.length).getD 1 0))=false:=e;rw [z18 (by omega),z18 (by omega)]at e;have e:awN l x 0=awN l x 1:=by simpa using e
   have g4:wOf l x=1:=eq_of_beq g4;refine yR Tryz.func114 rfl trivial ?_;refine⟨0,rfl,fun _=>⟨?_,?_,?_,?_,?_,?_,?_,?_,?_,?_,?_⟩,fun _=>rfl⟩<;>intro g<;>first|exact⟨g4,e⟩|exact absurd g (by rw [qUlt];decide)|exact absurd qUlt (g _ (by decide))
  ·refine yq rfl trivial ?_;refine yB Tryz.func114 rfl trivial (fun e=>?_) (fun e=>?_)
   ·exact yR Tryz.func114 rfl trivial ⟨5,rfl,fun h=>absurd h (by decide),fun ha=>by have g4:(wOf l x==1)=false:=g4;rw [(ha.cmp (.inr (.inl qUlt))).1]at g4;cases g4⟩
   ·cases e
 refine yB Tryz.func114 rfl trivial (fun qSlt=>?_) (fun qSlt=>?_)<;>rw [show((⟨#[115,108,116]⟩:ByteArray))=⟨kSlt.toArray⟩from rfl,strB]at qSlt<;>simp only [decide_eq_true_eq,decide_eq_false_iff_not]at qSlt
 ·have hx2:x.a.length=2:=by rw [hni.al,qSlt];decide
  refine yO 9 Tryz.func114 rfl trivial ?_;refine yb rfl trivial (fun g4=>?_) (fun g4=>?_)
  ·refine yq rfl (by first|(simp only [List.length_map,z1e,hx2];decide)|simp only [List.length_map,z1e,hx2]) ?_;refine yB Tryz.func114 rfl (by first|(simp only [List.length_map,z1e,hx2];decide)|simp only [List.length_map,z1e,hx2]) (fun e=>?_) (fun e=>?_)
   ·exact yR Tryz.func114 rfl trivial ⟨5,rfl,fun h=>absurd h (by decide),fun ha=>by have e:(!((aws l x x.a.length).getD 0 0==(aws l x x.a.length).getD 1 0))=true:=e;rw [z18 (by omega),z18 (by omega),(ha.cmp (.inr (.inr qSlt))).2]at e;simp at e⟩
   have e:(!((aws l x x.a.length).getD 0 0==(aws l x x.a.length).getD 1 0))=false:=e;rw [z18 (by omega),z18 (by omega)]at e;have e:awN l x 0=awN l x 1:=by simpa using e
   have g4:wOf l x=1:=eq_of_beq g4;refine yR Tryz.func114 rfl trivial ?_;refine⟨0,rfl,fun _=>⟨?_,?_,?_,?_,?_,?_,?_,?_,?_,?_,?_⟩,fun _=>rfl⟩<;>intro g<;>first|exact⟨g4,e⟩|exact absurd g (by rw [qSlt];decide)|exact absurd qSlt (g _ (by decide))
  ·refine yq rfl trivial ?_;refine yB Tryz.func114 rfl trivial (fun e=>?_) (fun e=>?_)
   ·exact yR Tryz.func114 rfl trivial ⟨5,rfl,fun h=>absurd h (by decide),fun ha=>by have g4:(wOf l x==1)=false:=g4;rw [(ha.cmp (.inr (.inr qSlt))).1]at g4;cases g4⟩
   ·cases e
 refine yB Tryz.func114 rfl trivial (fun qConcat=>?_) (fun qConcat=>?_)<;>rw [show((⟨#[99,111,110,99,97,116]⟩:ByteArray))=⟨z1b.toArray⟩from rfl,strB]at qConcat<;>simp only [decide_eq_true_eq,decide_eq_false_iff_not]at qConcat
 ·have hx2:x.a.length=2:=by rw [hni.al,qConcat];decide
  have b0:=hbd 0 (by omega);have b1:=hbd 1 (by omega);refine yO 8 Tryz.func114 rfl trivial ?_;refine yq rfl (by first|(simp only [List.length_map,z1e,hx2];decide)|simp only [List.length_map,z1e,hx2]) ?_;refine yB Tryz.func114 rfl trivial (fun e=>?_) (fun e=>?_)
  ·exact yR Tryz.func114 rfl trivial ⟨5,rfl,fun h=>absurd h (by decide),fun ha=>by have e:(!(IntKind.i64.wrap ((aws l x x.a.length).getD 0 0+(aws l x x.a.length).getD 1 0)==wOf l x))=true:=e;rw [z18 (by omega),z18 (by omega),z7 (by omega) (by omega),ha.cat qConcat]at e;simp at e⟩
  have e:(!(IntKind.i64.wrap ((aws l x x.a.length).getD 0 0+(aws l x x.a.length).getD 1 0)==wOf l x))=false:=e;rw [z18 (by omega),z18 (by omega),z7 (by omega) (by omega)]at e;have e:awN l x 0+awN l x 1=wOf l x:=by simpa using e
  refine yR Tryz.func114 rfl trivial ?_;refine⟨0,rfl,fun _=>⟨?_,?_,?_,?_,?_,?_,?_,?_,?_,?_,?_⟩,fun _=>rfl⟩<;>intro g<;>first|exact e|exact absurd g (by rw [qConcat];decide)|exact absurd qConcat (g _ (by decide))
 refine yB Tryz.func114 rfl trivial (fun qIte=>?_) (fun qIte=>?_)<;>rw [show((⟨#[105,116,101]⟩:ByteArray))=⟨kIte.toArray⟩from rfl,strB]at qIte<;>simp only [decide_eq_true_eq,decide_eq_false_iff_not]at qIte
 ·have hx3:x.a.length=3:=by rw [hni.al,qIte];decide
  refine yB Tryz.func114 rfl (by simp only [List.length_map,z1e,hx3];decide) (fun g4=>?_) (fun g4=>?_)
  ·have g4:((aws l x x.a.length).getD 0 0==1)=true:=g4;rw [z18 (by omega)]at g4;have g4:awN l x 0=1:=eq_of_beq g4;refine yB Tryz.func114 rfl (by simp only [List.length_map,z1e,hx3];decide) (fun g5=>?_) (fun g5=>?_)
   ·have g5:((aws l x x.a.length).getD 1 0==wOf l x)=true:=g5;rw [z18 (by omega)]at g5;have g5:awN l x 1=wOf l x:=eq_of_beq g5;refine yB Tryz.func114 rfl (by simp only [List.length_map,z1e,hx3];decide) (fun e=>?_) (fun e=>?_)
    ·exact yR Tryz.func114 rfl trivial ⟨5,rfl,fun h=>absurd h (by decide),fun ha=>by have e:(!((aws l x x.a.length).getD 2 0==wOf l x))=true:=e;rw [z18 (by omega),(ha.ite qIte).2.2]at e;simp at e⟩
    have e:(!((aws l x x.a.length).getD 2 0==wOf l x))=false:=e;rw [z18 (by omega)]at e;have e:awN l x 2=wOf l x:=by simpa using e
    refine yR Tryz.func114 rfl trivial ?_;refine⟨0,rfl,fun _=>⟨?_,?_,?_,?_,?_,?_,?_,?_,?_,?_,?_⟩,fun _=>rfl⟩<;>intro g<;>first|exact⟨g4,g5,e⟩|exact absurd g (by rw [qIte];decide)|exact absurd qIte (g _ (by decide))
   ·refine yB Tryz.func114 rfl trivial (fun e=>?_) (fun e=>?_)
    ·exact yR Tryz.func114 rfl trivial ⟨5,rfl,fun h=>absurd h (by decide),fun ha=>by have g5:((aws l x x.a.length).getD 1 0==wOf l x)=false:=g5;rw [z18 (by omega),(ha.ite qIte).2.1]at g5;simp at g5⟩
    ·cases e
  ·refine yF Tryz.func114 rfl trivial ?_;refine yB Tryz.func114 rfl trivial (fun e=>?_) (fun e=>?_)
   ·exact yR Tryz.func114 rfl trivial ⟨5,rfl,fun h=>absurd h (by decide),fun ha=>by have g4:((aws l x x.a.length).getD 0 0==1)=false:=g4;rw [z18 (by omega),(ha.ite qIte).1]at g4;simp at g4⟩
   ·cases e
 refine yB Tryz.func114 rfl trivial (fun qSlice=>?_) (fun qSlice=>?_)<;>rw [show((⟨#[115,108,105,99,101]⟩:ByteArray))=⟨z1p.toArray⟩from rfl,strB]at qSlice<;>simp only [decide_eq_true_eq,decide_eq_false_iff_not]at qSlice
 ·have hx1:x.a.length=1:=by rw [hni.al,qSlice];decide
  have hn2:x.n.length=2:=by rw [hni.nl,qSlice];decide
  have b0:=hbd 0 (by omega);have m0:=hnb 0 (by omega);have m1:=hnb 1 (by omega);refine yO 31 Tryz.func114 rfl trivial ?_;refine yb rfl (by simp only [List.length_map,hn2];decide) (fun g4=>?_) (fun g4=>?_)
  ·have g4:decide (x.n.getD 1 0≤x.n.getD 0 0)=true:=g4;refine yb rfl (by simp only [List.length_map,z1e,hn2,hx1];decide) (fun g5=>?_) (fun g5=>?_)
   ·have g5:decide (x.n.getD 0 0<(aws l x x.a.length).getD 0 0)=true:=g5;rw [z18 (by omega)]at g5;rw [decide_eq_true_eq]at g4 g5;refine yq rfl (by simp only [List.length_map,hn2];decide) ?_;refine yB Tryz.func114 rfl trivial (fun e=>?_) (fun e=>?_)
    ·exact yR Tryz.func114 rfl trivial ⟨5,rfl,fun h=>absurd h (by decide),fun ha=>by have e:(!(wOf l x==IntKind.i64.wrap (IntKind.i64.wrap (x.n.getD 0 0-x.n.getD 1 0)+1)))=true:=e;rw [show IntKind.i64.wrap (x.n.getD 0 0-x.n.getD 1 0)=x.n.getD 0 0-x.n.getD 1 0 from z7 (by omega) (by omega),z7 (by omega) (by omega),(ha.slice qSlice).2.2]at e;simp at e⟩
    have e:(!(wOf l x==IntKind.i64.wrap (IntKind.i64.wrap (x.n.getD 0 0-x.n.getD 1 0)+1)))=false:=e;have e9:IntKind.i64.wrap (x.n.getD 0 0-x.n.getD 1 0)=x.n.getD 0 0-x.n.getD 1 0:=z7 (by omega) (by omega);rw [e9,z7 (by omega) (by omega)]at e;have e:wOf l x=x.n.getD 0 0-x.n.getD 1 0+1:=by simpa using e
    refine yR Tryz.func114 rfl trivial ?_;refine⟨0,rfl,fun _=>⟨?_,?_,?_,?_,?_,?_,?_,?_,?_,?_,?_⟩,fun _=>rfl⟩<;>intro g<;>first|exact⟨g4,g5,e⟩|exact absurd g (by rw [qSlice];decide)|exact absurd qSlice (g _ (by decide))
   ·refine yq rfl trivial ?_;refine yB Tryz.func114 rfl trivial (fun e=>?_) (fun e=>?_)
    ·exact yR Tryz.func114 rfl trivial ⟨5,rfl,fun h=>absurd h (by decide),fun ha=>by have g5:decide (x.n.getD 0 0<(aws l x x.a.length).getD 0 0)=false:=g5;rw [z18 (by omega),decide_eq_false_iff_not]at g5;exact absurd (ha.slice qSlice).2.1 g5⟩
    ·cases e
  ·refine yb rfl trivial (fun h=>by cases h) (fun _=>?_);refine yq rfl trivial ?_;refine yB Tryz.func114 rfl trivial (fun e=>?_) (fun e=>?_)
   ·exact yR Tryz.func114 rfl trivial ⟨5,rfl,fun h=>absurd h (by decide),fun ha=>by have g4:decide (x.n.getD 1 0≤x.n.getD 0 0)=false:=g4;rw [decide_eq_false_iff_not]at g4;exact absurd (ha.slice qSlice).1 g4⟩
   ·cases e
 refine yB Tryz.func114 rfl trivial (fun qUext=>?_) (fun qUext=>?_)<;>rw [show((⟨#[117,101,120,116]⟩:ByteArray))=⟨kUext.toArray⟩from rfl,strB]at qUext<;>simp only [decide_eq_true_eq,decide_eq_false_iff_not]at qUext
 ·have hx1:x.a.length=1:=by rw [hni.al,qUext];decide
  have hn1:x.n.length=1:=by rw [hni.nl,qUext];decide
  have b0:=hbd 0 (by omega);have m0:=hnb 0 (by omega);refine yO 9 Tryz.func114 rfl trivial ?_;refine yq rfl (by simp only [List.length_map,z1e,hx1,hn1];decide) ?_;refine yB Tryz.func114 rfl trivial (fun e=>?_) (fun e=>?_)
  ·exact yR Tryz.func114 rfl trivial ⟨5,rfl,fun h=>absurd h (by decide),fun ha=>by have e:(!(wOf l x==IntKind.i64.wrap ((aws l x x.a.length).getD 0 0+x.n.getD 0 0)))=true:=e;rw [z18 (by omega),z7 (by omega) (by omega),ha.ext (.inl qUext)]at e;simp at e⟩
  have e:(!(wOf l x==IntKind.i64.wrap ((aws l x x.a.length).getD 0 0+x.n.getD 0 0)))=false:=e;rw [z18 (by omega),z7 (by omega) (by omega)]at e;have e:wOf l x=awN l x 0+x.n.getD 0 0:=by simpa using e
  refine yR Tryz.func114 rfl trivial ?_;refine⟨0,rfl,fun _=>⟨?_,?_,?_,?_,?_,?_,?_,?_,?_,?_,?_⟩,fun _=>rfl⟩<;>intro g<;>first|exact e|exact absurd g (by rw [qUext];decide)|exact absurd qUext (g _ (by decide))
 refine yB Tryz.func114 rfl trivial (fun qSext=>?_) (fun qSext=>?_)<;>rw [show((⟨#[115,101,120,116]⟩:ByteArray))=⟨kSext.toArray⟩from rfl,strB]at qSext<;>simp only [decide_eq_true_eq,decide_eq_false_iff_not]at qSext
 ·have hx1:x.a.length=1:=by rw [hni.al,qSext];decide
  have hn1:x.n.length=1:=by rw [hni.nl,qSext];decide
  have b0:=hbd 0 (by omega);have m0:=hnb 0 (by omega);refine yO 9 Tryz.func114 rfl trivial ?_;refine yq rfl (by simp only [List.length_map,z1e,hx1,hn1];decide) ?_;refine yB Tryz.func114 rfl trivial (fun e=>?_) (fun e=>?_)
  ·exact yR Tryz.func114 rfl trivial ⟨5,rfl,fun h=>absurd h (by decide),fun ha=>by have e:(!(wOf l x==IntKind.i64.wrap ((aws l x x.a.length).getD 0 0+x.n.getD 0 0)))=true:=e;rw [z18 (by omega),z7 (by omega) (by omega),ha.ext (.inr qSext)]at e;simp at e⟩
  have e:(!(wOf l x==IntKind.i64.wrap ((aws l x x.a.length).getD 0 0+x.n.getD 0 0)))=false:=e;rw [z18 (by omega),z7 (by omega) (by omega)]at e;have e:wOf l x=awN l x 0+x.n.getD 0 0:=by simpa using e
  refine yR Tryz.func114 rfl trivial ?_;refine⟨0,rfl,fun _=>⟨?_,?_,?_,?_,?_,?_,?_,?_,?_,?_,?_⟩,fun _=>rfl⟩<;>intro g<;>first|exact e|exact absurd g (by rw [qSext];decide)|exact absurd qSext (g _ (by decide))
 refine yB Tryz.func114 rfl trivial (fun e=>?_) (fun e=>?_)
 ·exact yR Tryz.func114 rfl trivial ⟨5,rfl,fun h=>absurd h (by decide),fun ha=>by have e:(!(sameB l x x.a.length))=true:=e;rw [zga (ha.dflt (by intro k hk;simp only [List.mem_cons,List.not_mem_nil,or_false]at hk;rcases hk with rfl|rfl|rfl|rfl|rfl|rfl|rfl|rfl|rfl|rfl|rfl|rfl|rfl|rfl|rfl|rfl|rfl|rfl|rfl<;>assumption))]at e;cases e⟩
 have e:(!(sameB l x x.a.length))=false:=e;have e:sameB l x x.a.length=true:=by cases h:sameB l x x.a.length with|true=>rfl|false=>rw [h]at e;cases e
 have fin:=zgb e;refine yR Tryz.func114 rfl trivial ?_;refine⟨0,rfl,fun _=>⟨?_,?_,?_,?_,?_,?_,?_,?_,?_,?_,?_⟩,fun _=>rfl⟩<;>intro g<;>first|exact fin|exact absurd g (by assumption)|(rcases g with g|g<;>exact absurd g (by assumption))|(rcases g with g|g|g<;>exact absurd g (by assumption))
structure LineOk(l:List Nd)(i:Nat)(x:Nd):Prop where
 srt:0<x.s→SortAt l x
 val:∀a∈x.a,isVal (ln l a).op=true
 st:x.op=kInit∨x.op=kNext→(ln l (x.a.getD 0 0)).op=ze
 ask:AskOk l i x
theorem ite_P{β:Type}(p:β→Prop){c:Prop}[Decidable c]{a b:β}(h1:c→p a)(h2:¬c→p b):p (if c then a else b):=by
 split
 ·exact h1 ‹_›
 ·exact h2 ‹_›
theorem z6h{op:List UInt8}(h:isVal op=true)(h2:(formR op).2=true):0<(formR op).1.count 115:=by
 have key:∀p:List UInt8×Bool→Prop,p=(fun f=>f.2=true→0<f.1.count 115)→p (formR op):=by
  intro p hp;unfold formR;refine ite_P p (fun e=>by subst e;exact absurd h (by decide)) fun _=>?_
  iterate 3 refine ite_P p (fun _=>by rw [hp];intro _;decide) fun _=>?_
  iterate 2 refine ite_P p (fun e=>by subst e;exact absurd h (by decide)) fun _=>?_
  iterate 7 refine ite_P p (fun _=>by rw [hp];intro _;decide) fun _=>?_
  iterate 2 refine ite_P p (fun e=>by subst e;exact absurd h (by decide)) fun _=>?_
  iterate 19 refine ite_P p (fun _=>by rw [hp];intro _;decide) fun _=>?_
  rw [hp];intro h2;cases h2
 exact key _ rfl h2
theorem zcy{l:List Nd}{j:Nat}{x:Nd}(hk:NodeOk x ((j:Int)+1))(hl:LineOk l j x)(hv:isVal x.op=true):SortAt l x:=by
 have h1:=z6h hv hk.known;exact hl.srt (by have:=hk.s1 h1;omega)
theorem zgq(l:List Nd)(hm:MdB l)(hl:l.length<maxLen)(i:Nat)(hi:i<l.length)(hn:∀j,j≤i→NodeOk (nd l j) ((j:Int)+1))(hb:∀j,j<i→LineOk l j (nd l j)):
  ACall Tryz.prog 85 [.d (eBt l),vI .i64 ((i+1:Nat):Int)] [] (fun r o=>∃e:Int,r=vI .i64 e∧(e=0→LineOk l i (nd l i))∧(LineOk l i (nd l i)→e=0)):=by
 refine yN Tryz.func85 fun C hC hCl hDs hGk=>?_;have hl2:l.length<9223372036854775807:=hl;have e1:IntKind.i64.wrap (((i+1:Nat):Int)-1)=(i:Int):=by rw [z7 (by omega) (by omega)];omega
 have hni:=hn i (Nat.le_refl _);obtain⟨x,hx⟩:∃x,nd l i=x:=⟨_,rfl⟩
 have hxd:l.getD (IntKind.i64.wrap (((i+1:Nat):Int)-1)).toNat default=x:=by rw [e1,Int.toNat_natCast];exact hx
 have hni2:=hni;rw [hx]at hni ⊢;have hsl:0<x.s→1≤x.s∧x.s<(i:Int)+1:=fun h=>hni.s1 (by
  rcases Nat.eq_zero_or_pos ((formR x.op).1.count 115)with h2|h2
  ·have:=hni.s0 h2;omega
  ·exact h2)
 have hal:x.a.length≤4:=by
  rw [hni.al];exact Nat.le_trans List.count_le_length (z8g _)
 apply letK (p:=(0<x.s→SortAt l x)→ASat Tryz.prog 85 Tryz.f85.ntmps C _ [(1,vI .i64 ((i+1:Nat):Int)),(2,.ptr 0 0),(5,.ptr 1 0),(6,vI .i64 (0:Nat))] [some (bBt l),some (bNd x)] (fun r o=>∃e:Int,r=vI .i64 e∧(e=0→LineOk l i x)∧(LineOk l i x→e=0)))
 ·intro key;refine yB Tryz.func85 rfl (by simp only [e1,List.length_map];exact⟨⟨by omega,by omega⟩,trivial⟩) (fun h=>?_) (fun h=>?_)
  ·have h:decide ((l.getD (IntKind.i64.wrap (((i+1:Nat):Int)-1)).toNat default).s>0)=true:=h;rw [hxd,decide_eq_true_eq]at h;obtain⟨h3,h4⟩:=hsl h;have e2:IntKind.i64.wrap (x.s-1)=x.s-1:=z7 (by omega) (by omega);refine yB Tryz.func85 rfl ?_ (fun g=>?_) (fun g=>?_)
   ·rw [hxd];show(0≤IntKind.i64.wrap (x.s-1)∧IntKind.i64.wrap (x.s-1)<((l.map eNd).length:Int))∧True;rw [e2,List.length_map];exact⟨⟨by omega,by omega⟩,trivial⟩
   ·exact yR Tryz.func85 rfl trivial ⟨1,rfl,fun h=>absurd h (by decide),fun ha=>by have g:(!((⟨(l.getD (IntKind.i64.wrap (x.s-1)).toNat default).op.toArray⟩:ByteArray).toList==(⟨kSort.toArray⟩:ByteArray).toList))=true:=(by rw [←hxd];exact g);rw [strB,e2,show(l.getD (x.s-1).toNat default).op=kSort from(ha.srt h).op]at g;simp at g⟩
   rw [hxd]at g;have g:(!((⟨(l.getD (IntKind.i64.wrap (x.s-1)).toNat default).op.toArray⟩:ByteArray).toList==(⟨kSort.toArray⟩:ByteArray).toList))=false:=g;rw [strB,e2]at g;have hso:(nd l (x.s-1).toNat).op=kSort:=by simpa using g
   have hk:=hn (x.s-1).toNat (by omega);have hS:SortAt l x:=⟨h3,by omega,hso,by rw [hk.nl,hso];decide⟩
   refine yS Tryz.func85 rfl trivial ?_;refine yE (key fun _=>hS) (eAl rfl) ⟨.refl _,.of ?_,trivial⟩;rw [e1,Int.toNat_natCast,show l.getD i default=x from hx];rfl
  ·have h:decide ((l.getD (IntKind.i64.wrap (((i+1:Nat):Int)-1)).toNat default).s>0)=false:=h;rw [hxd,decide_eq_false_iff_not]at h;refine yF Tryz.func85 rfl trivial ?_;refine yS Tryz.func85 rfl trivial ?_;refine yE (key fun h2=>absurd h2 h) (eAl rfl) ⟨.refl _,.of ?_,trivial⟩;rw [e1,Int.toNat_natCast,show l.getD i default=x from hx];rfl
 intro hS;have hsrt:∀a∈x.a,isVal (ln l a).op=true→SortAt l (ln l a):=fun a ha hv=>by
  have h3:=hni.ab a ha;have hk:=hn (a-1).toNat (by omega);exact zcy hk (hb _ (by omega)) hv
 refine z8 (α:=Nat) (fun j=>[(1,vI .i64 ((i+1:Nat):Int)),(2,.ptr 0 0),(5,.ptr 1 0),(6,vI .i64 (j:Int))]) (fun j=>[some (bBt l),some (bNd x)]) (fun j=>j≤x.a.length∧∀q,q<j→isVal (ln l (x.a.getD q 0)).op=true) (fun j=>x.a.length-j) 0 ⟨Nat.zero_le _,fun q hq=>by omega⟩ ?_ ?_
 ·exact fun h=>h
 rintro j ⟨hj,hall⟩ ih;refine yB Tryz.func85 rfl trivial (fun hb=>?_) (fun hb=>?_)<;>simp only [List.length_map,decide_eq_true_eq,decide_eq_false_iff_not]at hb
 ·have hlt:j<x.a.length:=by omega
  have hab:=hni.ab _ (z11 0 hlt);have e2:IntKind.i64.wrap (x.a.getD j 0-1)=x.a.getD j 0-1:=z7 (by omega) (by omega);refine yO 8 Tryz.func85 rfl trivial ?_;refine yq rfl (by simp [andP]<;>omega) ?_;refine yV Tryz.func85 rfl ?_ (z9j (ln l (x.a.getD j 0))) ⟨.of (by show AV.d (eNd (l.getD (IntKind.i64.wrap (x.a.getD j 0-1)).toNat default))=_;rw [e2]),trivial⟩ ?_
  ·show(0≤IntKind.i64.wrap (x.a.getD j 0-1)∧IntKind.i64.wrap (x.a.getD j 0-1)<((l.map eNd).length:Int))∧True;rw [e2,List.length_map];exact⟨⟨by omega,by omega⟩,trivial⟩
  refine yB Tryz.func85 rfl trivial (fun g=>?_) (fun g=>?_)
  ·exact yR Tryz.func85 rfl trivial ⟨1,rfl,fun h=>absurd h (by decide),fun ha=>by have g:(!isVal (ln l (x.a.getD j 0)).op)=true:=g;rw [ha.val _ (z11 0 hlt)]at g;cases g⟩
  have g:(!isVal (ln l (x.a.getD j 0)).op)=false:=g;have g:isVal (ln l (x.a.getD j 0)).op=true:=by simpa using g
  refine yS Tryz.func85 rfl trivial ?_;refine yE (ih (j+1) ⟨by omega,fun q hq=>?_⟩ (by omega)) ⟨erl rfl,erl rfl,erl rfl,erw rfl,trivial⟩ (oAl rfl);rcases Nat.lt_or_ge q j with h|h
  ·exact hall q h
  ·obtain rfl:q=j:=by omega
   exact g
 obtain rfl:j=x.a.length:=by omega
 have hval:∀a∈x.a,isVal (ln l a).op=true:=fun a ha=>by
  obtain⟨q,hq,rfl⟩:=List.getElem_of_mem ha;have:=hall q hq;rwa [List.getD_eq_getElem?_getD,List.getElem?_eq_getElem hq]at this
 refine yB Tryz.func85 rfl trivial (fun g=>?_) (fun g=>?_)<;>rw [show((⟨#[105,110,105,116]⟩:ByteArray))=⟨kInit.toArray⟩from rfl,strB]at g<;>simp only [decide_eq_true_eq,decide_eq_false_iff_not]at g
 ·refine yT Tryz.func85 rfl trivial ?_;have hx2:x.a.length=2:=by rw [hni.al,g];decide
  have hlt:0<x.a.length:=by omega
  have hab:=hni.ab _ (z11 0 hlt);have e2:IntKind.i64.wrap (x.a.getD 0 0-1)=x.a.getD 0 0-1:=z7 (by omega) (by omega);refine yO 7 Tryz.func85 rfl trivial ?_;refine yq rfl (by simp only [List.length_map,hx2];decide) ?_;refine yB Tryz.func85 rfl ?_ (fun c=>?_) (fun c=>?_)
  ·show(0≤IntKind.i64.wrap (x.a.getD 0 0-1)∧IntKind.i64.wrap (x.a.getD 0 0-1)<((l.map eNd).length:Int))∧True;rw [e2,List.length_map];exact⟨⟨by omega,by omega⟩,trivial⟩
  ·exact yR Tryz.func85 rfl trivial ⟨1,rfl,fun h=>absurd h (by decide),fun ha=>by have c:(!((⟨(l.getD (IntKind.i64.wrap (x.a.getD 0 0-1)).toNat default).op.toArray⟩:ByteArray).toList==(⟨ze.toArray⟩:ByteArray).toList))=true:=c;rw [strB,e2,show(l.getD (x.a.getD 0 0-1).toNat default).op=ze from ha.st (.inl g)]at c;simp at c⟩
  have c:(!((⟨(l.getD (IntKind.i64.wrap (x.a.getD 0 0-1)).toNat default).op.toArray⟩:ByteArray).toList==(⟨ze.toArray⟩:ByteArray).toList))=false:=c;rw [strB,e2]at c;have hst:(ln l (x.a.getD 0 0)).op=ze:=by simpa using c
  refine yC Tryz.func85 rfl trivial (zbm l hm hl i hi hn (by rw [hx];exact hS) (by rw [hx];exact fun a ha=>hsrt a ha (hval a ha))) ⟨.refl _,.refl _,trivial⟩ ?_ (hr:=by rintro r o ⟨b,rfl,-⟩;rfl);rintro r o ⟨e,rfl,he,he2⟩;rw [hx]at he he2;exact yR Tryz.func85 rfl trivial ⟨e,rfl,fun h=>⟨hS,hval,fun _=>hst,he h⟩,fun ha=>he2 ha.ask⟩
 refine yB Tryz.func85 rfl trivial (fun g2=>?_) (fun g2=>?_)<;>rw [show((⟨#[110,101,120,116]⟩:ByteArray))=⟨kNext.toArray⟩from rfl,strB]at g2<;>simp only [decide_eq_true_eq,decide_eq_false_iff_not]at g2
 ·have hx2:x.a.length=2:=by rw [hni.al,g2];decide
  have hlt:0<x.a.length:=by omega
  have hab:=hni.ab _ (z11 0 hlt);have e2:IntKind.i64.wrap (x.a.getD 0 0-1)=x.a.getD 0 0-1:=z7 (by omega) (by omega);refine yO 7 Tryz.func85 rfl trivial ?_;refine yq rfl (by simp only [List.length_map,hx2];decide) ?_;refine yB Tryz.func85 rfl ?_ (fun c=>?_) (fun c=>?_)
  ·show(0≤IntKind.i64.wrap (x.a.getD 0 0-1)∧IntKind.i64.wrap (x.a.getD 0 0-1)<((l.map eNd).length:Int))∧True;rw [e2,List.length_map];exact⟨⟨by omega,by omega⟩,trivial⟩
  ·exact yR Tryz.func85 rfl trivial ⟨1,rfl,fun h=>absurd h (by decide),fun ha=>by have c:(!((⟨(l.getD (IntKind.i64.wrap (x.a.getD 0 0-1)).toNat default).op.toArray⟩:ByteArray).toList==(⟨ze.toArray⟩:ByteArray).toList))=true:=c;rw [strB,e2,show(l.getD (x.a.getD 0 0-1).toNat default).op=ze from ha.st (.inr g2)]at c;simp at c⟩
  have c:(!((⟨(l.getD (IntKind.i64.wrap (x.a.getD 0 0-1)).toNat default).op.toArray⟩:ByteArray).toList==(⟨ze.toArray⟩:ByteArray).toList))=false:=c;rw [strB,e2]at c;have hst:(ln l (x.a.getD 0 0)).op=ze:=by simpa using c
  refine yC Tryz.func85 rfl trivial (zbm l hm hl i hi hn (by rw [hx];exact hS) (by rw [hx];exact fun a ha=>hsrt a ha (hval a ha))) ⟨.refl _,.refl _,trivial⟩ ?_ (hr:=by rintro r o ⟨b,rfl,-⟩;rfl);rintro r o ⟨e,rfl,he,he2⟩;rw [hx]at he he2;exact yR Tryz.func85 rfl trivial ⟨e,rfl,fun h=>⟨hS,hval,fun _=>hst,he h⟩,fun ha=>he2 ha.ask⟩
 ·refine yC Tryz.func85 rfl trivial (zbm l hm hl i hi hn (by rw [hx];exact hS) (by rw [hx];exact fun a ha=>hsrt a ha (hval a ha))) ⟨.refl _,.refl _,trivial⟩ ?_ (hr:=by rintro r o ⟨b,rfl,-⟩;rfl);rintro r o ⟨e,rfl,he,he2⟩;rw [hx]at he he2;exact yR Tryz.func85 rfl trivial ⟨e,rfl,fun h=>⟨hS,hval,fun h=>by rcases h with h|h<;>contradiction,he h⟩,fun ha=>he2 ha.ask⟩
end Go.Proofs.YtbodbhpdelgpnaaGreatDoor
namespace Ab
open Go
variable [Draws]
section
variable {P:Program}[Globals P]{T:Tab}{f:FuncId}{fn:Func}{n m:Nat}{C:Cx}{R:AV→List (Option AObj)→Prop}{todo todo' k:List Item}{env env0 env' envF E:Env}{objs objs' objs1:List (Option AObj)}{nd:Prop}{ops:Array Oper}{l:List Oper}{K:Env→Prop}{X:Nat→Prop}
def noSee(ops:Array Oper)(m e d:Nat):Bool:=(List.range m).all fun j=>j==e||match ops[j]? with
 | some o=>!(o.looksAt ops).contains d&&o.dst !=some d
 | none=>true
theorem zku(m e:Nat)(ι:List Nat){id:Nat}{oe:Oper}{d:Tmp}{g:FuncId}{az bs:List AV}{objs0:List (Option AObj)}{R':AV→List (Option AObj)→Prop}{r0:AV}(hT:TabOk P T)(hf:P.funcs[f]?=some fn)(hmx:P.follows .mixedOrders=true)(h:srun T n fn.results.toList 2000 True todo env objs=.draw nd id ops k env' objs')(hn:nd)
  (hB:drawB ops m=true) (hem:e<m) (hno:noSee ops m e d=true) (hoe:ops[e]?=some oe) (hD0:DSat P n C.X objs' ops (fun x=>x=E) ((ops.toList.take m).eraseIdx e) env') (hD1:DSat P n C.X objs1 ops (fun x=>x=E) ((ops.toList.take m).eraseIdx e) env')
  (hdst:oe.dst=some d) (hdn:Nat.blt d n=true) (hw:wantE ops (restr E (oe.looksAt ops)) oe=.yes) (hco:z4p (restr E (oe.looksAt ops)) oe=some (g,az)) (hen:∀args w,(callFunc g args).run P w=.ok (.enter g args) w)
  (hc:ACall P g bs objs0 R') (hs:subR (rho ι objs'.length) objs' ι objs0) (hv:VLs az (AV.rens (rho ι objs'.length) bs)) (hnd:z3m ι=true) (hd:refsBs ι.length bs=true) (hro:refsO ι.length objs0=true)
  (hr:∀r o,R' r o→r.ren (rho ι objs'.length)=r0∧z35 ι o objs'=objs1) (hdrop:z3p (memN ι) ((d,r0)::E)=(d,r0)::E)
  (hk:ASat P f n C (.inRegion ops (List.range' m (ops.size-m))::k) ((d,r0)::E) objs1 R) (hGk:GOk P C.π C.objs C.w:=by with_reducible assumption):ASat P f n C todo env objs R:=by
 suffices hcc:Cont P f n C R (.draw nd id ops k env' objs')from(z1j hT hf 2000 True todo env objs (by rw [h];exact hcc)).2
 refine⟨hn,?_⟩;obtain⟨E0,a1,a2,a3,rfl⟩:=hD0;obtain⟨E1,b1,b2,b3,rfl⟩:=hD1;have hes:=(Array.getElem?_eq_some_iff.1 hoe).1;have hB2:=hB;simp only [drawB,Bool.and_eq_true,decide_eq_true_eq]at hB2;obtain⟨⟨⟨⟨hms,hback⟩,hsink⟩,hchain⟩,hap⟩:=hB2;have hde:dstIs ops e d=true:=zh.2 ⟨oe,hoe,hdst⟩;have hin:∀j o,j<m→j≠e→ops[j]?=some o→o∈(ops.toList.take m).eraseIdx e:=by
  intro j o hj hje ho;rw [List.mem_eraseIdx_iff_getElem?];refine⟨j,hje,?_⟩;rw [List.getElem?_take,if_pos hj];simpa using ho
 have hout:∀j o,j<m→j≠e→ops[j]?=some o→d∉o.looksAt ops∧o.dst≠some d:=by
  intro j o hj hje ho;have h1:=List.all_eq_true.1 hno j (List.mem_range.2 hj);rw [ho]at h1;simp only [Bool.or_eq_true,beq_iff_eq,hje,false_or,Bool.and_eq_true,Bool.not_eq_true',List.contains_eq_mem,decide_eq_false_iff_not,bne_iff_ne,ne_eq]at h1;exact h1
 let O:List Nat→List (Option AObj):=fun L=>if e∈L then objs1 else objs'
 refine z9g (O:=O) (G:=fun a=>a.dropS (memN ι)=a) (objsF:=objs1) (envF:=(d,r0)::E1) hmx hB ?_ (fun t a ht=>z5u hdrop ht) (by simp [O]) (fun L hL=>by simp [O,hL e (by omega)]) ?_ hk
 ·intro j o hj ho;by_cases hje:j=e
  ·subst hje;rw [hoe]at ho;cases ho;intro L hLm hjL hdeps π w tmps hsz hm hgk hlk;have hOL:O L=objs':=by simp [O,hjL]
   have hOj:O (j::L)=objs1:=by simp [O]
   rw [hOL]at hm hgk hlk;have hlk':∀t∈oe.looksAt ops,∀b,look E1 t=some b→RelV w (okOf C.X π objs') π b (tmps.getD t undef):=by
    intro t ht b hb;refine hlk t ht b ?_;rw [zu,if_neg ?_]
    ·exact hb
    ·rintro rfl;have h1:=List.all_eq_true.1 hap j (List.mem_range.2 (by omega));rw [hoe]at h1;have h2:=List.all_eq_true.1 h1 j (List.mem_range.2 (by omega));simp only [Bool.and_eq_true]at h2;have h3:=List.all_eq_true.1 h2.2 d ht;simp only [hde,Bool.not_true,Bool.false_or]at h3;obtain⟨o',ho',ee,hee,hb2,heq⟩:=zz h3;rw [hoe]at ho';cases ho';have:=z2g hback hoe hee hb2;omega
   have he:z13 w (okOf C.X π objs') π (restr E1 (oe.looksAt ops)) tmps:=fun t b ht=>by
    obtain⟨h1,h2⟩:=z12 ht;exact hlk' t h1 b h2
   obtain⟨vs,c1,c2⟩:=z2t he hco;refine .inr ⟨(zm he).1 hw,.inr (.inr ⟨g,vs.toArray,by rw [c2,hen],?_⟩)⟩;have hargs:RelVs w (okOf (lendX C.X π objs' ι) (lendP π ι) objs0) (lendP π ι) bs vs:=by
    refine RelVs.unren (m:=ι.length) (z3z hm hs) ?_ bs hd (hv.rel c1);intro j' h' hj' hh';obtain⟨i',hi'⟩:∃i',nth ι j'=some i':=by
     rw [z1k];exact⟨ι[j'],List.getElem?_eq_getElem hj'⟩
    rw [z9a hi']at hh';rw [z2d hi' (z1r hh')];exact hh'
   rcases hc _ _ w vs (z8b hgk hm hs) (z8a hm hs hnd hro) hargs with⟨_,hcl⟩|⟨v,w',hcl,_⟩
   ·refine hcl.mono ?_;rintro e2 w2 ⟨v,r,o,π',rfl,hR,hm',hrel,hhist⟩;have L2:=lended hm hs hnd hm' hhist;obtain⟨e3,e4⟩:=hr r o hR;have hmem:=L2.mem;have hhst:=L2.hist;have hkp:=L2.keep;have hbk:=L2.back _ _ hrel;rw [e4]at hmem hhst hkp hbk;rw [e3]at hbk;refine⟨v,z2c ι π' π,rfl,⟨by rw [hOj];exact hmem,by rw [hOL,hOj];exact hhst,fun a u hg hau=>?_⟩,fun d' hd'=>?_⟩
    ·rw [hOL]at hau;have:=hkp a u hau;rw [hg]at this;rw [hOj];exact this
    ·rw [hdst]at hd';cases hd';exact⟨by simpa [Nat.blt_eq]using hdn,r0,by rw [zu,if_pos rfl],by rw [hOj];exact hbk⟩
   ·rw [hen]at hcl;cases hcl
  ·obtain⟨h1,h2⟩:=hout j o hj hje ho;refine zie (fun L=>?_) fun L=>?_
   ·have:e≠j:=fun h=>hje h.symm
    simp [O,this]
   ·by_cases hL:e∈L
    ·have:O L=objs1:=by simp [O,hL]
     rw [this];exact z71 h1 h2 (b3 o (hin j o hj hje ho))
    ·have:O L=objs':=by simp [O,hL]
     rw [this];exact z71 h1 h2 (a3 o (hin j o hj hje ho))
 ·intro t ht a ha;have hne:d≠t:=by
   rintro rfl;have:=ht e (by omega);rw [hde]at this;cases this
  rw [zu,if_neg hne]at ha;refine a1 t (fun o ho hd=>?_) a ha;have ho:=List.mem_of_mem_eraseIdx ho;rw [List.mem_take_iff_getElem]at ho;obtain⟨j,hj,rfl⟩:=ho;have hjs:j<ops.size:=by simp at hj;omega
  have:=ht j (by simp at hj;omega);rw [zh.2 ⟨_,Array.getElem?_eq_getElem hjs,by simpa using hd⟩]at this;cases this
end
end Ab
namespace Ab
open Go
variable [Draws]
mutual
theorem RelV.monoT{w w':World}{ok ok':Nat→Prop}{π π':List Value}(hk:Keeps w ok w' ok')(hp:∀j h,nth π j=some h→h≠.tuple #[]→nth π' j=some h){a:AV}{v:Value}:RelV w ok π a v→RelV w' ok' π' a v
 | .d h=>.d (h.mono hk)
 | .ro h hm=>.ro (h.mono hk) (z2w hk hm)
 | .ptr h=>.ptr (hp _ _ h (by intro e;cases e))
 | .gs h=>.gs (hp _ _ h (by intro e;cases e))
 | .ge h=>.ge (hp _ _ h (by intro e;cases e))
 | .mp h=>.mp (hp _ _ h (by intro e;cases e))
 | .e0=>.e0
 | .lit=>.lit
 | .und=>.und
 | .orc=>.orc
 | .ag h hf=>.ag (h.monoT hk hp) hf
 | .tp h=>.tp (h.monoT hk hp)
 | .fn h=>.fn (h.monoT hk hp)
 | .ifc h=>.ifc (h.monoT hk hp)
 | .dead=>.dead
theorem RelVs.monoT{w w':World}{ok ok':Nat→Prop}{π π':List Value}(hk:Keeps w ok w' ok')(hp:∀j h,nth π j=some h→h≠.tuple #[]→nth π' j=some h){a:List AV}{v:List Value}:RelVs w ok π a v→RelVs w' ok' π' a v
 | .nil=>.nil
 | .cons h t=>.cons (h.monoT hk hp) (t.monoT hk hp)
end
theorem RelEs.monoT{w w':World}{ok ok':Nat→Prop}{π π':List Value}(hk:Keeps w ok w' ok')(hp:∀j h,nth π j=some h→h≠.tuple #[]→nth π' j=some h):∀{a:List (Value×AV)} {v:List MapEntry},RelEs w ok π a v→RelEs w' ok' π' a v
 | _,_,.nil=>.nil
 | _,_,.cons h t=>.cons (h.monoT hk hp) (t.monoT hk hp)
theorem RelO.monoT{w w':World}{ok ok':Nat→Prop}{π π':List Value}(hk:Keeps w ok w' ok')(hp:∀j h,nth π j=some h→h≠.tuple #[]→nth π' j=some h){o:AObj}{h:Value}(hh:∀b,blk h=some b→w'.heap[b]?=w.heap[b]?):RelO w ok π o h→RelO w' ok' π' o h
 | .cells hb h hf=>.cells ((hh _ rfl).trans hb) (h.monoT hk hp) hf
 | .gnil=>.gnil
 | .grow hb hz h hu hc hm ho hr=>.grow ((hh _ rfl).trans hb) hz (h.mono hk) hu hc hm ho hr
 | .map hb h=>.map ((hh _ rfl).trans hb) (h.monoT hk hp)
 | .hold h=>.hold (h.monoT hk hp)
 | .siter hb=>.siter ((hh _ rfl).trans hb)
def HD:AObj:=.hold (.d (.v .nilIface)) .nilIface
theorem relHD{w:World}{ok:Nat→Prop}{π:List Value}:RelO w ok π HD (.tuple #[]):=.hold (.d (.v rfl))
theorem ztd{w:World}{ok:Nat→Prop}{π:List Value}{h:Value}:RelO w ok π HD h→h=.tuple #[]:=by
 intro h;cases h;rfl
theorem z2j{α:Type}{l:List α}{i j:Nat}{x:α}:nth (za l i x) j=if i=j then(if j<l.length then some x else none)else nth l j:=by
 rw [z1t,z1k,z1k,List.getElem?_set];split
 ·rename_i e;subst e;rfl
 ·rfl
theorem fill{X:Nat→Prop}{π:List Value}{objs:List (Option AObj)}{w w':World}(m:Mem X π objs w){p:Nat}(hp:nth objs p=some (some HD))(hos:w'.os=w.os)(htape:w'.tape=w.tape)(hout:w'.output=w.output∧dr w≤dr w')(hsz:w.heap.size≤w'.heap.size)(hw:∀b,b<w.heap.size→w'.heap[b]?=w.heap[b]?)
  (h:Value) (o:AObj) (hh:∀b,blk h=some b→w.heap.size≤b) (hrel:RelO w' (okOf X (za π p h) (za objs p (some o))) (za π p h) o h) :
  Mem X (za π p h) (za objs p (some o)) w' ∧
   (∀{π0:List Value} {objs0:List (Option AObj)} {w0:World},π0.length≤p→Hist π0 objs0 w0 π objs w→Hist π0 objs0 w0 (za π p h) (za objs p (some o)) w') ∧
   (∀a v,RelV w (okOf X π objs) π a v→RelV w' (okOf X (za π p h) (za objs p (some o))) (za π p h) a v):=by
 have hpl:=z1r hp;have hml:=m.len;obtain⟨h0,hp0,hr0⟩:=m.obj p _ hp;obtain rfl:=ztd hr0;have hsame:∀{j:Nat} {x:Value},nth (za π p h) j=some x→(j=p∧x=h)∨(j≠p∧nth π j=some x):=by
  intro j x hj;rw [z2j]at hj;split at hj
  ·rename_i e;split at hj
   ·cases hj;exact .inl ⟨e.symm,rfl⟩
   ·cases hj
  ·rename_i e;exact .inr ⟨fun e2=>e e2.symm,hj⟩
 have hsameO:∀{j:Nat} {x:AObj},nth (za objs p (some o)) j=some (some x)→(j=p∧x=o)∨(j≠p∧nth objs j=some (some x)):=by
  intro j x hj;rw [z2j]at hj;split at hj
  ·rename_i e;split at hj
   ·cases hj;exact .inl ⟨e.symm,rfl⟩
   ·cases hj
  ·rename_i e;exact .inr ⟨fun e2=>e e2.symm,hj⟩
 have hok:∀b,b<w.heap.size→okOf X π objs b→okOf X (za π p h) (za objs p (some o)) b:=by
  intro b hb hk;refine⟨hk.1,fun i o' h' h1 h2=>?_⟩;rcases hsame h2 with⟨rfl,rfl⟩|⟨hne,h3⟩
  ·intro hc;have:=hh _ hc;omega
  ·rcases hsameO h1 with⟨rfl,_⟩|⟨_,h4⟩
   ·exact absurd rfl hne
   ·exact hk.2 i o' h' h4 h3
 have hk:Keeps w (okOf X π objs) w' (okOf X (za π p h) (za objs p (some o))):=by
  intro b off u h1 h2;have hb:=z32 h2;refine⟨hok b hb h1,?_⟩;unfold World.cell? at h2 ⊢;rw [hw b hb];exact h2
 have hpp:∀j x,nth π j=some x→x≠.tuple #[]→nth (za π p h) j=some x:=by
  intro j x hj hx;rw [z2j,if_neg ?_]
  ·exact hj
  ·rintro rfl;rw [hp0]at hj;cases hj;exact hx rfl
 have hblk:∀{j:Nat} {x:AObj} {y:Value} {b:Nat},nth objs j=some (some x)→nth π j=some y→blk y=some b→b<w.heap.size:=fun h1 h2 h3=>m.lt h1 h2 h3
 refine⟨⟨by rw [z2u,z2u];exact hml,?_,?_,?_,fun b hx=>Nat.lt_of_lt_of_le (m.inX b hx) hsz⟩,?_,fun a v h1=>h1.monoT hk hpp⟩
 ·intro i o' ho;rcases hsameO ho with⟨rfl,rfl⟩|⟨hne,h1⟩
  ·exact⟨h,by rw [z2j,if_pos rfl,if_pos (by omega)],hrel⟩
  ·obtain⟨k,h2,h3⟩:=m.obj i o' h1;exact⟨k,by rw [z2j,if_neg (fun e=>hne e.symm)];exact h2,h3.monoT hk hpp (fun b e=>hw b (h3.lt e))⟩
 ·intro i j o1 o2 h1 h2 b hne ho1 ho2 hp1 hp2 hb1 hb2;rcases hsameO ho1 with⟨rfl,rfl⟩|⟨hi,e1⟩<;>rcases hsameO ho2 with⟨rfl,rfl⟩|⟨hj,e2⟩
  ·exact hne rfl
  ·rcases hsame hp1 with⟨_,rfl⟩|⟨hc,_⟩
   ·rcases hsame hp2 with⟨rfl,_⟩|⟨_,h4⟩
    ·exact hj rfl
    ·have:=hblk e2 h4 hb2;have:=hh _ hb1;omega
   ·exact hc rfl
  ·rcases hsame hp2 with⟨_,rfl⟩|⟨hc,_⟩
   ·rcases hsame hp1 with⟨rfl,_⟩|⟨_,h4⟩
    ·exact hi rfl
    ·have:=hblk e1 h4 hb1;have:=hh _ hb2;omega
   ·exact hc rfl
  ·rcases hsame hp1 with⟨rfl,_⟩|⟨_,h3⟩
   ·exact hi rfl
   ·rcases hsame hp2 with⟨rfl,_⟩|⟨_,h4⟩
    ·exact hj rfl
    ·exact m.dist i j o1 o2 h1 h2 b hne e1 e2 h3 h4 hb1 hb2
 ·intro i o' h' b ho' hp' hb' hx;rcases hsameO ho' with⟨rfl,rfl⟩|⟨hi,e1⟩
  ·rcases hsame hp' with⟨_,rfl⟩|⟨hc,_⟩
   ·have:=hh _ hb';have:=m.inX b hx;omega
   ·exact hc rfl
  ·rcases hsame hp' with⟨rfl,_⟩|⟨_,h4⟩
   ·exact hi rfl
   ·exact m.ext i o' h' b e1 h4 hb' hx
 ·intro π0 objs0 w0 hle hst;refine⟨hos.trans hst.os,htape.trans hst.tape,⟨hout.1.trans hst.output.1,Nat.le_trans hst.output.2 hout.2⟩,Nat.le_trans hst.size hsz,?_,?_,?_⟩
  ·intro b hb hn;rw [hw b (Nat.lt_of_lt_of_le hb hst.size)];exact hst.heap b hb hn
  ·intro i o' h' b ho' hp' hb';rcases hsameO ho' with⟨rfl,rfl⟩|⟨hi,e1⟩
   ·rcases hsame hp' with⟨_,rfl⟩|⟨hc,_⟩
    ·exact .inl (Nat.le_trans hst.size (hh _ hb'))
    ·exact absurd rfl hc
   ·rcases hsame hp' with⟨rfl,_⟩|⟨_,h4⟩
    ·exact absurd rfl hi
    ·exact hst.own i o' h' b e1 h4 hb'
  ·intro i x hi hs;have h1:=z1r hi;rw [z2j,if_neg (by omega)];exact hst.hand i x hi hs
section
variable {P:Program}[Globals P]{T:Tab}{f:FuncId}{fn:Func}{n m:Nat}{C:Cx}{R:AV→List (Option AObj)→Prop}{todo todo' k:List Item}{env env0 env' envF:Env}{objs objs':List (Option AObj)}{nd:Prop}{ops:Array Oper}{l:List Oper}{K:Env→Prop}{X:Nat→Prop}
structure StepH(C:Cx)(O:List Nat→List (Option AObj))(L:List Nat)(j:Nat)(π:List Value)(w:World)(π':List Value)(w2:World):Prop where
 mem:Mem C.X π' (O (j::L)) w2
 hist:Hist C.π C.objs C.w π (O L) w→Hist C.π C.objs C.w π' (O (j::L)) w2
 keep:∀a v,RelV w (okOf C.X π (O L)) π a v→RelV w2 (okOf C.X π' (O (j::L))) π' a v
def HeadH(P:Program)[Globals P](n:Nat)(C:Cx)(O:List Nat→List (Option AObj))(m:Nat)(ops:Array Oper)(envF:Env)(j:Nat)(o:Oper):Prop:=
 ∀L,(∀q∈L,q<m)→j∉L→(∀q,zv ops j q=true→q∈L)→(∀q∈L,∀q',zv ops q q'=true→q'∈L)→∀π w tmps,tmps.size=n→Mem C.X π (O L) w→GOk P π (O L) w→(∀t∈o.looksAt ops,∀a,look envF t=some a→RelV w (okOf C.X π (O L)) π a (tmps.getD t undef)) →
  (Region.wanted o (yielded ops tmps)=false∧∃π',StepH C O L j π w π' w∧PutOk n w (okOf C.X π' (O (j::L))) π' envF o undef) ∨
  (Region.wanted o (yielded ops tmps)=true ∧
   ((∃v w2 π',(execOp (Act.eval ⟨tmps,[]⟩) o).run P w=.ok (.value v) w2∧StepH C O L j π w π' w2∧PutOk n w2 (okOf C.X π' (O (j::L))) π' envF o v) ∨
    (∃w2 π',(execOp (Act.eval ⟨tmps,[]⟩) o).run P w=.ok .skip w2∧StepH C O L j π w π' w2∧PutOk n w2 (okOf C.X π' (O (j::L))) π' envF o undef) ∨
    (∃g args,(execOp (Act.eval ⟨tmps,[]⟩) o).run P w=.ok (.enter g args) w∧Calls P g args w fun e w2=>∃v π',e=.returned v∧StepH C O L j π w π' w2∧PutOk n w2 (okOf C.X π' (O (j::L))) π' envF o v)))
def drawZ(ops:Array Oper)(m:Nat):Bool:=drawB ops m||(decide (m=ops.size)&&backB ops&&ziw ops m)
theorem zft{O:List Nat→List (Option AObj)}{objsF:List (Option AObj)}(hmx:P.follows .mixedOrders=true)(hB:drawZ ops m=true)(hops:∀j o,j<m→ops[j]?=some o→HeadH P n C O m ops envF j o)
  (hO0:O []=objs) (hOF:∀L,(∀i,i<m→i∈L)→O L=objsF)
  (henv:∀t,(∀j,j<m→dstIs ops j t=false)→∀a,look envF t=some a→∃b,look env0 t=some b∧VLe b a)
  (hK:ASat P f n C (.inRegion ops (List.range' m (ops.size-m))::k) envF objsF R) {id:Nat} (hGk:GOk P C.π C.objs C.w:=by with_reducible assumption):ASat P f n C (.code (.region id ops true)::k) env0 objs R:=by
 obtain⟨hms,hback,hsc,hap⟩:m≤ops.size∧backB ops=true∧(m<ops.size→zhq ops m=true∧zbg ops m=true)∧ziw ops m=true:=by
  simp only [drawZ,drawB,Bool.or_eq_true,Bool.and_eq_true,decide_eq_true_eq]at hB;rcases hB with⟨⟨⟨⟨h1,h2⟩,h3⟩,h4⟩,h5⟩|⟨⟨h1,h2⟩,h5⟩
  ·exact⟨by omega,h2,fun _=>⟨h3,h4⟩,h5⟩
  ·exact⟨by omega,h2,fun h=>by omega,h5⟩
 have hap:∀j o,j<m→ops[j]?=some o→(∀k,k<m→k≠j→∀d,o.dst=some d→dstIs ops k d=false)∧∀k,k<m→∀t∈o.looksAt ops,dstIs ops k t=true→zv ops j k=true:=by
  intro j o hj ho;have h1:=List.all_eq_true.1 hap j (List.mem_range.2 hj);rw [ho]at h1;have h2:∀k,k<m→((decide (k=j)||z3l ops o k)=true∧(o.looksAt ops).all (fun t=>!dstIs ops k t||zv ops j k)=true):=fun k hk=>by
   have:=List.all_eq_true.1 h1 k (List.mem_range.2 hk);simpa only [Bool.and_eq_true]using this
  refine⟨fun k hk hne d hd=>?_,fun k hk t ht hd=>?_⟩
  ·have:=(h2 k hk).1;unfold z3l at this;rw [hd]at this;simpa [hne]using this
  ·have:=List.all_eq_true.1 (h2 k hk).2 t ht;simpa [hd]using this
 intro π w tmps0 hn hm hh he;have hl1:Later w { w with drawn:=w.drawn+1 }:=⟨rfl,rfl,⟨rfl,z17 (Nat.le_succ _)⟩,Nat.le_refl _,fun _ _=>rfl⟩
 have htr1:=hl1.tr hm;have key:∀(fuel t:Nat) (listed:Array Bool) (L:List Nat) (tmps:Array Value) (w':World) (π:List Value),Lst ops m L listed→L.length+fuel=ops.size→Mem C.X π (O L) w'→Hist C.π C.objs C.w π (O L) w'→tmps.size=n →
   (∀j∈L,∀o,ops[j]?=some o→∀d,o.dst=some d→∃b,look envF d=some b∧RelV w' (okOf C.X π (O L)) π b (tmps.getD d undef)) →
   (∀t,(∀j,j<m→dstIs ops j t=false)→∀a,look envF t=some a→RelV w' (okOf C.X π (O L)) π a (tmps.getD t undef)) →
   Sat P f C.ds (.inRegion ops (Region.linearise.go .any ops fuel t listed [])::k) tmps w' (APost C R):=by
  have fin:∀(L:List Nat) (tmps:Array Value) (w':World) (π:List Value),(∀i,i<m→i∈L)→Mem C.X π (O L) w'→Hist C.π C.objs C.w π (O L) w'→tmps.size=n →
    (∀j∈L,∀o,ops[j]?=some o→∀d,o.dst=some d→∃b,look envF d=some b∧RelV w' (okOf C.X π (O L)) π b (tmps.getD d undef)) →
    (∀t,(∀j,j<m→dstIs ops j t=false)→∀a,look envF t=some a→RelV w' (okOf C.X π (O L)) π a (tmps.getD t undef)) →
    Sat P f C.ds (.inRegion ops (List.range' m (ops.size-m))::k) tmps w' (APost C R):=by
   intro L tmps w' π hall hm hh hsz hdone hrest;rw [hOF L hall]at hm hh hdone hrest;refine hK π w' tmps hsz hm hh fun u a hu=>?_;by_cases hd:∃j,j<m∧dstIs ops j u=true
   ·obtain⟨j,hj,hd⟩:=hd;obtain⟨o,ho,hdo⟩:=zh.1 hd;obtain⟨b,hb,hr⟩:=hdone j (hall j hj) o ho u hdo;rw [hu]at hb;cases hb;exact hr
   ·have hd':∀j,j<m→dstIs ops j u=false:=fun j hj=>by
     cases hx:dstIs ops j u with
     | false=>rfl
     | true=>exact absurd ⟨j,hj,hx⟩ hd
    exact hrest u hd' a hu
  intro fuel;induction fuel with
  | zero=>
   intro t listed L tmps w' π hL hlen hm hh hsz hdone hrest;have hLm:=z1m hL.nd (b:=List.range m) fun y hy=>List.mem_range.2 (hL.lt y hy)
   rw [List.length_range]at hLm;have hall:∀i,i<m→i∈L:=fun i hi=>by
    apply Classical.byContradiction;intro hiL;have:=z1m (List.nodup_cons.2 ⟨hiL,hL.nd⟩) (b:=List.range m) fun y hy=>by
     rcases List.mem_cons.1 hy with rfl|hy
     ·exact List.mem_range.2 hi
     ·exact List.mem_range.2 (hL.lt y hy)
    rw [List.length_range,List.length_cons]at this;omega
   have:=fin L tmps w' π hall hm hh hsz hdone hrest;rw [show ops.size-m=0 by omega]at this;simpa [Region.linearise.go]using this
  | succ fuel ih=>
   intro t listed L tmps w' π hL hlen hm hh hsz hdone hrest;have hLm:=z1m hL.nd (b:=List.range m) fun y hy=>List.mem_range.2 (hL.lt y hy)
   rw [List.length_range]at hLm;by_cases hall:∀i,i<m→i∈L
   ·have hml:=z1m (List.nodup_range (n:=m)) (b:=L) fun y hy=>hall y (List.mem_range.1 hy)
    rw [List.length_range]at hml;have hfu:fuel+1=ops.size-m:=by omega
    obtain⟨hsink,hchain⟩:=hsc (by omega);rw [hfu];have hg:=z73 hback hchain (ops.size-m) t listed (.inl (by omega)) (by omega) hL.size (fun i hi=>by
     rw [hL.mem i hi,show ops.size-(ops.size-m)=m by omega];exact⟨fun h=>hL.lt i h,fun h=>hall i h⟩)
    rw [hg,show ops.size-(ops.size-m)=m by omega];exact fin L tmps w' π hall hm hh hsz hdone hrest
   ·have hex:∃i,i∈Region.ready .any ops listed:=by
     have hmin:∀q i,i≤q→i<m→i∉L→∃j,j<m∧j∉L∧∀j',j'<j→j'∈L:=by
      intro q;induction q with
      | zero=>intro i hi hm hL;exact⟨i,hm,hL,by omega⟩
      | succ q ihq=>
       intro i hi him hiL;by_cases hx:∃j',j'<i∧j'∉L
       ·obtain⟨j',h1,h2⟩:=hx;exact ihq j' (by omega) (by omega) h2
       ·exact⟨i,him,hiL,fun j' hj'=>Decidable.byContradiction fun h2=>hx ⟨j',hj',h2⟩⟩
     obtain⟨i,hi⟩:=Classical.not_forall.1 hall;have hi1:i<m:=Classical.byContradiction fun h=>hi fun h2=>absurd h2 h
     have hi2:i∉L:=fun h=>hi fun _=>h
     obtain⟨j,h1,h2,h3⟩:=hmin i i (Nat.le_refl _) hi1 hi2;refine⟨j,(z1v (by omega) hL).2 ⟨by omega,h2,ops[j],Array.getElem?_eq_getElem (by omega),fun e hee hb=>?_⟩⟩;have hlt:=z2g hback (Array.getElem?_eq_getElem (by omega:j<ops.size)) hee hb;exact(hL.mem e.on (by omega)).2 (h3 e.on hlt)
    rw [z8x];have hlen2:0<(Region.ready .any ops listed).length:=List.length_pos_of_mem hex.choose_spec;have hmod:t%(Region.ready .any ops listed).length<(Region.ready .any ops listed).length:=Nat.mod_lt _ hlen2;rw [List.getElem?_eq_getElem hmod];simp only;have hir:(Region.ready .any ops listed)[t%(Region.ready .any ops listed).length]∈Region.ready .any ops listed:=List.getElem_mem hmod;generalize (Region.ready .any ops listed)[t%(Region.ready .any ops listed).length]=i at hir;have him:i<m:=by
     apply Classical.byContradiction;intro hge;have hilt:i<ops.size:=((z1v (by omega) hL).1 hir).1;obtain⟨hsink,hchain⟩:=hsc (by omega);exact hall (z5f (by omega) hsink hback hL (by omega) hchain hir).2
    obtain⟨his,hiL,o,ho,hdeps⟩:=(z1v (by omega) hL).1 hir;obtain⟨ha1,ha2⟩:=hap i o him ho;have hlooks:∀u∈o.looksAt ops,∀a,look envF u=some a→RelV w' (okOf C.X π (O L)) π a (tmps.getD u undef):=by
     intro u hu a hua;by_cases hd:∃j,j<m∧dstIs ops j u=true
     ·obtain⟨j,hj,hd⟩:=hd;have hw:=ha2 j hj u hu hd;obtain⟨o2,ho2,e,hee,hb,heq⟩:=zz hw;rw [ho]at ho2;cases ho2;have hjL:=z1f hL (hdeps e hee hb);rw [heq]at hjL;obtain⟨oj,hoj,hdj⟩:=zh.1 hd;obtain⟨b,hb2,hr⟩:=hdone j hjL oj hoj u hdj;rw [hua]at hb2;cases hb2;exact hr
     ·have hd':∀j,j<m→dstIs ops j u=false:=fun j hj=>by
       cases hx:dstIs ops j u with
       | false=>rfl
       | true=>exact absurd ⟨j,hj,hx⟩ hd
      exact hrest u hd' a hua
    have hL':Lst ops m (i::L) (listed.setIfInBounds i true):=by
     refine⟨by simpa using hL.size,fun j hj=>?_,List.nodup_cons.2 ⟨hiL,hL.nd⟩,fun j hj=>?_,fun j hj oj hoj e hee hb=>?_⟩
     ·by_cases e:i=j
      ·subst e;rw [show(listed.setIfInBounds i true).getD i false=true by simp [hL.size,hj]];simp
      ·rw [show(listed.setIfInBounds i true).getD j false=listed.getD j false by simp [Array.getElem?_setIfInBounds,e]];rw [hL.mem j hj,List.mem_cons];exact⟨.inr,fun h=>h.resolve_left fun h2=>e h2.symm⟩
     ·rcases List.mem_cons.1 hj with rfl|hj
      ·exact him
      ·exact hL.lt j hj
     ·rcases List.mem_cons.1 hj with rfl|hj
      ·rw [ho]at hoj;cases hoj;exact List.mem_cons_of_mem _ (z1f hL (hdeps e hee hb))
      ·exact List.mem_cons_of_mem _ (hL.cl j hj oj hoj e hee hb)
    have hdeps2:∀q,zv ops i q=true→q∈L:=by
     intro q hq;obtain⟨o2,ho2,e,hee,hb,heq⟩:=zz hq;rw [ho]at ho2;cases ho2;rw [←heq];exact z1f hL (hdeps e hee hb)
    have hcl2:∀q∈L,∀q',zv ops q q'=true→q'∈L:=by
     intro q hqL q' hq;obtain⟨o2,ho2,e,hee,hb,heq⟩:=zz hq;rw [←heq];exact hL.cl q hqL o2 ho2 e hee hb
    have next:∀(v:Value) (w2:World) (π':List Value),StepH C O L i π w' π' w2→PutOk n w2 (okOf C.X π' (O (i::L))) π' envF o v→Sat P f C.ds (.inRegion ops (Region.linearise.go .any ops fuel (t / (Region.ready .any ops listed).length) (listed.setIfInBounds i true) [])::k) (putT o.dst v tmps) w2 (APost C R):=by
     intro v w2 π' hst hput;refine ih _ _ (i::L) _ w2 π' hL' (by simp only [List.length_cons];omega) hst.mem (hst.hist hh) ?_ ?_ ?_
     ·cases hd:o.dst with
      | none=>exact hsz
      | some d=>simpa [putT]using hsz
     ·intro j hj0 oj hoj d hd;rcases List.mem_cons.1 hj0 with e|hj
      ·subst e;rw [ho]at hoj;cases hoj;obtain⟨h1,b,h2,h3⟩:=hput d hd;refine⟨b,h2,?_⟩;rw [hd,z1l,if_pos ⟨rfl,by rw [hsz];exact h1⟩];exact h3
      ·obtain⟨b,h2,h3⟩:=hdone j hj oj hoj d hd;refine⟨b,h2,?_⟩;have hne:∀d',o.dst=some d'→d'≠d:=by
        rintro d' hd' rfl;have:=ha1 j (hL.lt j hj) (fun e=>hiL (e▸hj)) d' hd';rw [zh.2 ⟨oj,hoj,hd⟩]at this;cases this
       cases hdo:o.dst with
       | none=>exact hst.keep _ _ h3
       | some d'=>
        rw [z1l,if_neg fun hh=>hne d' hdo hh.1];exact hst.keep _ _ h3
     ·intro u hu a hua;have h3:=hst.keep _ _ (hrest u hu a hua);cases hdo:o.dst with
      | none=>exact h3
      | some d'=>
       rw [z1l,if_neg fun hh=>?_]
       ·exact h3
       ·have:=hu i him;rw [zh.2 ⟨o,ho,by rw [hdo,hh.1]⟩]at this;cases this
    rcases hops i o him ho L (fun q hq=>hL.lt q hq) hiL hdeps2 hcl2 π w' tmps hsz hm (hGk.hist hh) hlooks with⟨hw,hput⟩|⟨hw,⟨v,w2,π',hrun,hst,hput⟩|⟨w2,π',hrun,hst,hput⟩|⟨g,args,hrun,hcall⟩⟩
    ·obtain⟨π',hst,hput⟩:=hput;exact .opSkip ho hw (next undef w' π' hst hput)
    ·exact .opVal ho hw hrun (next v w2 π' hst hput)
    ·exact .opUnit ho hw hrun (next undef w2 π' hst hput)
    ·exact .opCall ho hw hrun (hcall.mono fun e w2 ⟨v,π',h1,h2,h3⟩=>⟨v,h1,next v w2 π' h2 h3⟩)
 refine .step (fun kd cs=>z60) ?_;simp only [Region.schedule,hmx,Bool.true_or,if_true];subst hO0;refine key ops.size _ _ [] tmps0 _ π ⟨by simp,fun i hi=>?_,List.nodup_nil,by simp,by simp⟩ (by simp) htr1.mem (z22 hh htr1) hn (by simp) (fun u hu a hua=>?_)
 ·simp [hi]
 ·obtain⟨b,hb,hle⟩:=henv u hu a hua;exact z2a hl1 (hle _ _ _ _ (he u b hb))
theorem zoj(h:ASat P f n C todo env (objs++[some HD]) R):ASat P f n C todo env objs R:=by
 intro π w tmps hn hm hh he;have htr:Tr C.X π objs w none (π++[.tuple #[]]) (objs++[some HD]) w:=z4r hm rfl rfl ⟨rfl,z17 (Nat.le_refl _)⟩ (Nat.le_refl _) (fun _ _=>rfl) _ _ (by intro b e;cases e) relHD;exact h _ w tmps hn htr.mem (z22 hh htr) (z5c he htr)
theorem zkr(k:Nat)(h:ASat P f n C todo env (objs++List.replicate k (some HD)) R):ASat P f n C todo env objs R:=by
 induction k generalizing objs with
 | zero=>simpa using h
 | succ k ih=>
  refine zoj (ih ?_);rw [List.append_assoc];exact h
theorem z9u{O:List Nat→List (Option AObj)}{j:Nat}{o:Oper}(hO:∀L,O (j::L)=O L)(h:∀L,z36 P n C.X (O L) ops envF o):HeadH P n C O m ops envF j o:=by
 have st:∀{L:List Nat} {π:List Value} {w w2:World},Mem C.X π (O L) w→Later w w2→StepH C O L j π w π w2:=by
  intro L π w w2 hm l;have htr:=l.tr hm;refine⟨by rw [hO];exact htr.mem,fun hh=>by rw [hO];exact hh.trans htr.hist,fun a v h=>?_⟩;rw [hO];exact z2a l h
 intro L _ _ _ _ π w tmps hs hm hgk hl;rcases h L π w tmps hs hm hgk hl with⟨hw,hp⟩|⟨hw,⟨v,w2,hr,hlt,hp⟩|⟨g,args,hr,hc⟩⟩
 ·exact .inl ⟨hw,π,st hm (.refl w),by rw [hO];exact hp⟩
 ·exact .inr ⟨hw,.inl ⟨v,w2,π,hr,st hm hlt,by rw [hO];exact hp⟩⟩
 ·exact .inr ⟨hw,.inr (.inr ⟨g,args,hr,hc.mono fun e w2 ⟨v,h1,h2,h3⟩=>⟨v,π,h1,st hm h2,by rw [hO];exact h3⟩⟩)⟩
theorem z6i{O:List Nat→List (Option AObj)}{j p:Nat}{o:Oper}{t d:Nat}{r:TRow}(hT:TabOk P T)(hop:o.op=.alloc t)(hg:o.guard=none)(hr:tlook T t=some r)(hdst:o.dst=some d)(hdn:Nat.blt d n=true)(hlook:look envF d=some (.ptr p 0))(hple:C.π.length≤p)
  (hO0:∀L,j∉L→(∀q∈L,∀q',zv ops q q'=true→q'∈L)→nth (O L) p=some (some HD)) (hO:∀L,j∉L→(∀q∈L,∀q',zv ops q q'=true→q'∈L)→O (j::L)=za (O L) p (some (.cells t (r.zero.map fun v=>.d (.v v))))):HeadH P n C O m ops envF j o:=by
 intro L _ hjL _ hcl π w tmps hs hm hgk _;obtain⟨z,hz1,hz2,hz3,_⟩:=(zn hT hr).zero;have e:z.cells=r.zero.toArray:=by rw [←hz2]
 have hrun:(execOp (Act.eval ⟨tmps,[]⟩) o).run P w=.ok (.value (.pointer (some ⟨w.heap.size,0,none⟩))) (w.alloc (.cells r.zero.toArray t)):=by
  unfold execOp;rw [hop];simp [Instr.alloc,hz1,newVar,z1u,e]
 have hpl:=z1r (hO0 L hjL hcl);have hml:=hm.len;have hf:=fill (w':=w.alloc (.cells r.zero.toArray t)) hm (hO0 L hjL hcl) rfl rfl ⟨rfl,z17 (Nat.le_refl _)⟩ (by rw [z1d,Array.size_push];omega) (fun b hb=>z1h _ hb) (.pointer (some ⟨w.heap.size,0,none⟩)) (.cells t (r.zero.map fun v=>.d (.v v)))
  (by intro b e;cases e;exact Nat.le_refl _) (.cells (z23 _) (z5w r.zero hz3) hz3)
 refine .inr ⟨by simp [Region.wanted,hg],.inl ⟨_,_,za π p (.pointer (some ⟨w.heap.size,0,none⟩)),hrun,⟨?_,?_,?_⟩,?_⟩⟩
 ·rw [hO L hjL hcl];exact hf.1
 ·rw [hO L hjL hcl];exact hf.2.1 hple
 ·rw [hO L hjL hcl];exact hf.2.2
 ·intro d' hd';rw [hdst]at hd';cases hd';refine⟨by simpa [Nat.blt_eq]using hdn,_,hlook,?_⟩;rw [hO L hjL hcl];exact .ptr (by rw [z2j,if_pos rfl,if_pos (by omega)])
theorem z7t{O:List Nat→List (Option AObj)}{j p:Nat}{o:Oper}{t d:Nat}{r:TRow}(hT:TabOk P T)(hop:o.op=.alloc t)(hg:o.guard=none)(hr:tlook T t=some r)(hdst:o.dst=some d)(hdn:Nat.blt d n=true)(hlook:look envF d=some (.ptr p 0))(hple:C.π.length≤p)
  (hO0:∀L,j∉L→nth (O L) p=some (some HD)) (hO:∀L,O (j::L)=za (O L) p (some (.cells t (r.zero.map fun v=>.d (.v v))))):HeadH P n C O m ops envF j o:=
 z6i hT hop hg hr hdst hdn hlook hple (fun L h _=>hO0 L h) (fun L _ _=>hO L)
theorem zfj{O:List Nat→List (Option AObj)}{j p q0:Nat}{o:Oper}{g:FuncId}{az bs:List AV}{d:Nat}{E:Env}{a:AV}{o1:AObj}{R':AV→List (Option AObj)→Prop}
  (hw:wantE ops (restr E (o.looksAt ops)) o=.yes) (hco:z4p (restr E (o.looksAt ops)) o=some (g,az)) (hE:∀t∈o.looksAt ops,∀b,look E t=some b→look envF t=some b)
  (hc:ACall P g bs [] R') (hen:∀args w,(callFunc g args).run P w=.ok (.enter g args) w) (hr:∀r oz,R' r oz→r=a.ren (fun _=>q0)∧nth oz q0=some (some o1)) (hv:VLs az bs) (hd:refsBs 0 bs=true) (ha:refsB 1 a=true) (ho1:z6a 0 o1=true)
  (hdst:o.dst=some d) (hdn:Nat.blt d n=true) (hlook:look envF d=some (a.ren (fun _=>p))) (hple:C.π.length≤p)
  (hO0:∀L,j∉L→nth (O L) p=some (some HD)) (hO:∀L,O (j::L)=za (O L) p (some o1)):HeadH P n C O m ops envF j o:=by
 intro L _ hjL _ _ π w tmps hs hm hgk hlk;have he:z13 w (okOf C.X π (O L)) π (restr E (o.looksAt ops)) tmps:=fun t b ht=>by
  obtain⟨h1,h2⟩:=z12 ht;exact hlk t h1 b (hE t h1 b h2)
 obtain⟨vs,c1,c2⟩:=z2t he hco;have hpl:=z1r (hO0 L hjL);have hml:=hm.len;have h1:RelVs w (okOf (Xof C.X π (O L)) [] []) [] bs vs:=(hv.rel c1).cut (m:=0) (fun b o u a1 a2=>⟨z8o.2 a1,a2⟩) (fun j _ hj=>absurd hj (Nat.not_lt_zero j)) hd;refine .inr ⟨(zm he).1 hw,.inr (.inr ⟨g,vs.toArray,by rw [c2,hen],?_⟩)⟩;rcases hc _ _ w vs hgk.nil (zay hm) h1 with⟨_,hcl⟩|⟨v,w',hcl,_⟩
 ·refine hcl.mono ?_;rintro e w' ⟨v,r,oz,π',rfl,hR,hm',hrel,hhist⟩;obtain⟨rfl,hoz⟩:=hr r oz hR;obtain⟨h,hh,hro⟩:=hm'.obj q0 o1 hoz;have hnew:∀b,blk h=some b→w.heap.size≤b:=by
   intro b hb;rcases hhist.own q0 o1 h b hoz hh hb with h3|⟨j',o',h',h4,_⟩
   ·exact h3
   ·simp [nth]at h4
  have hlt:=z59 hhist;have hkeep2:Keeps w' (okOf (Xof C.X π (O L)) π' oz) w' (okOf C.X (za π p h) (za (O L) p (some o1))):=by
   intro b off u a1 a2;have a0:=a1.1;refine⟨⟨fun hx=>a0 (.inl hx),fun i o' h' g1 g2=>?_⟩,a2⟩;rw [z2j]at g1 g2;by_cases hip:p=i
   ·rw [if_pos hip]at g1 g2;split at g2
    ·cases g2;exact a1.2 q0 o1 h hoz hh
    ·cases g2
   ·rw [if_neg hip]at g1 g2;exact fun hb=>a0 (.inr ⟨i,o',h',g1,g2,hb⟩)
  have hf:=fill (w':=w') hm (hO0 L hjL) hlt.os hlt.tape hlt.output hlt.size hlt.ext h o1 hnew (hro.cut (m:=0) hkeep2 (fun j _ hj=>absurd hj (Nat.not_lt_zero j)) ho1 (fun _ _=>rfl));refine⟨v,za π p h,rfl,⟨?_,?_,?_⟩,?_⟩
  ·rw [hO];exact hf.1
  ·rw [hO];exact hf.2.1 hple
  ·rw [hO];exact hf.2.2
  ·intro d' hd';rw [hdst]at hd';cases hd';refine⟨by simpa [Nat.blt_eq]using hdn,_,hlook,?_⟩;rw [hO];have r1:RelV w' (okOf C.X (za π p h) (za (O L) p (some o1))) [h] a v:=RelV.unren (m:=1) hkeep2 (fun j h' hj hh'=>by
    obtain rfl:j=0:=by omega
    rw [hh]at hh';cases hh';rfl) a ha hrel
   exact r1.ren (fun b off u a1 a2=>⟨a1,a2⟩) (fun j h' hj=>by
    have:j=0∧h'=h:=by
     cases j with
     | zero=>simp only [nth,Option.some.injEq]at hj;exact⟨rfl,hj.symm⟩
     | succ j=>simp [nth]at hj
    obtain⟨rfl,rfl⟩:=this;rw [z2j,if_pos rfl,if_pos (by omega)])
 ·rw [hen]at hcl;cases hcl
theorem zkw(m kk:Nat)(O:List Nat→List (Option AObj))(envF:Env){id:Nat}{objsF:List (Option AObj)}(hT:TabOk P T)(hf:P.funcs[f]?=some fn)(hmx:P.follows .mixedOrders=true)(h:srun T n fn.results.toList 2000 True todo env objs=.draw nd id ops k env' objs')(hn:nd)
  (hB:drawZ ops m=true) (hO0:O []=objs'++List.replicate kk (some HD)) (hOF:∀L,(∀i,i<m→i∈L)→O L=objsF)
  (hops:∀j o,j<m→ops[j]?=some o→HeadH P n C O m ops envF j o)
  (henv:∀t,(∀j,j<m→dstIs ops j t=false)→∀a,look envF t=some a→∃b,look env' t=some b∧VLe b a)
  (hk:ASat P f n C (.inRegion ops (List.range' m (ops.size-m))::k) envF objsF R) (hGk:GOk P C.π C.objs C.w:=by with_reducible assumption):ASat P f n C todo env objs R:=by
 suffices hcc:Cont P f n C R (.draw nd id ops k env' objs')from(z1j hT hf 2000 True todo env objs (by rw [h];exact hcc)).2
 exact⟨hn,zkr kk (zft hmx hB hops hO0 hOF henv hk)⟩
theorem z2k{t:Nat}:∀{A E:Env},(∀x∈A,x.1≠t)→look (A++E) t=look E t
 | [],_,_=>rfl
 | (d,a)::r,E,h=>by
  have h1:d≠t:=h (d,a) (List.mem_cons_self ..);show look ((d,a)::(r++E)) t=_;rw [zu,if_neg h1];exact z2k fun x hx=>h x (List.mem_cons_of_mem _ hx)
theorem z8w{o:Oper}{E:Env}(hl:∀t∈o.looksAt ops,look envF t=look E t)(hd:∀d,o.dst=some d→look envF d=look E d)(h:z36 P n X objs ops E o):z36 P n X objs ops envF o:=by
 intro π w tmps hs hm hgk hlk;have hlk':∀t∈o.looksAt ops,∀b,look E t=some b→RelV w (okOf X π objs) π b (tmps.getD t undef):=fun t ht b hb=>hlk t ht b (by rw [hl t ht];exact hb)
 have hp:∀{w:World} {v:Value},PutOk n w (okOf X π objs) π E o v→PutOk n w (okOf X π objs) π envF o v:=fun hp u hu=>by
  obtain⟨h1,b,h2,h3⟩:=hp u hu;exact⟨h1,b,by rw [hd u hu];exact h2,h3⟩
 rcases h π w tmps hs hm hgk hlk' with⟨hw,h1⟩|⟨hw,⟨v,w2,hr,hlt,h1⟩|⟨g,args,hr,hc⟩⟩
 ·exact .inl ⟨hw,hp h1⟩
 ·exact .inr ⟨hw,.inl ⟨v,w2,hr,hlt,hp h1⟩⟩
 ·exact .inr ⟨hw,.inr ⟨g,args,hr,hc.mono fun e w2 ⟨v,a1,a2,a3⟩=>⟨v,a1,a2,hp a3⟩⟩⟩
theorem zck{O:List Nat→List (Option AObj)}{j:Nat}{o:Oper}{E:Env}{a:AV}{c:Option Prop}(hT:TabOk P T)(hw:wantE ops (restr E (o.looksAt ops)) o=.yes)(hE:∀t∈o.looksAt ops,∀b,look E t=some b→look envF t=some b)
  (hs:∀L,j∉L→estep T o (restr E (o.looksAt ops)) (O L)=some ⟨c,true,a,none,O (j::L)⟩) (hc:cond c) (hdst:o.dst=none):HeadH P n C O m ops envF j o:=by
 intro L _ hjL _ _ π w tmps hsz hm hgk hlk;have he:z13 w (okOf C.X π (O L)) π (restr E (o.looksAt ops)) tmps:=fun t b ht=>by
  obtain⟨h1,h2⟩:=z12 ht;exact hlk t h1 b (hE t h1 b h2)
 have hst:=z3v (ds:=[]) hT hm he o;rw [hs L hjL]at hst;obtain⟨v,w',π',h1,h2,_⟩:=hst hc;refine .inr ⟨(zm he).1 hw,.inr (.inl ⟨w',π',h1,⟨h2.mem,fun hh=>hh.trans h2.hist,h2.keep⟩,fun d hd=>?_⟩)⟩;rw [hdst]at hd;cases hd
abbrev Acts:=List (Nat×Option (Tmp×AV))
def actE(A:Acts):Env:=A.filterMap (·.2)
def actB(A:Acts)(j:Nat):Bool:=A.any fun x=>Nat.beq x.1 j
def zx(ops:Array Oper)(m:Nat)(A:Acts):List Oper:=((List.range m).filter fun j=>!actB A j).filterMap fun j=>ops[j]?
def seeB(ops:Array Oper)(m:Nat)(A:Acts):Bool:=(List.range m).all fun j=>actB A j||match ops[j]? with
 | some o=>(actE A).all fun x=>!(o.looksAt ops).contains x.1&&o.dst !=some x.1
 | none=>true
theorem z50(m kk:Nat)(A:Acts)(O:List Nat→List (Option AObj))(E:Env){id:Nat}{objsF:List (Option AObj)}(hT:TabOk P T)(hf:P.funcs[f]?=some fn)(hmx:P.follows .mixedOrders=true)(h:srun T n fn.results.toList 2000 True todo env objs=.draw nd id ops k env' objs')(hn:nd)
  (hB:drawZ ops m=true) (hsee:seeB ops m A=true) (hO0:O []=objs'++List.replicate kk (some HD)) (hOF:∀L,(∀i,i<m→i∈L)→O L=objsF) (hOj:∀j L,actB A j=false→O (j::L)=O L)
  (hAm:(A.all fun x=>Nat.blt x.1 m)=true) (hD:∀L,DSat P n C.X (O L) ops (fun x=>x=E) (zx ops m A) env')
  (hA:∀x∈A,∃oe,ops[x.1]?=some oe∧oe.dst=x.2.map (·.1)∧HeadH P n C O m ops (actE A++E) x.1 oe)
  (hk:ASat P f n C (.inRegion ops (List.range' m (ops.size-m))::k) (actE A++E) objsF R) (hGk:GOk P C.π C.objs C.w:=by with_reducible assumption):ASat P f n C todo env objs R:=by
 have hq:∀{j:Nat} {o:Oper},j<m→actB A j=false→ops[j]?=some o→o∈zx ops m A:=by
  intro j o hj hb ho;unfold zx;rw [List.mem_filterMap];exact⟨j,List.mem_filter.2 ⟨List.mem_range.2 hj,by rw [hb];rfl⟩,ho⟩
 have hns:∀{j:Nat} {o:Oper},j<m→actB A j=false→ops[j]?=some o→∀x∈actE A,x.1∉o.looksAt ops∧o.dst≠some x.1:=by
  intro j o hj hb ho x hx;have h1:=List.all_eq_true.1 hsee j (List.mem_range.2 hj);rw [hb,ho]at h1;have h1':((actE A).all fun x=>!(o.looksAt ops).contains x.1&&o.dst !=some x.1)=true:=by simpa only [Bool.false_or]using h1
  have h2:=List.all_eq_true.1 h1' x hx;simpa using h2
 refine zkw m kk O (actE A++E) hT hf hmx h hn hB hO0 hOF ?_ ?_ hk
 ·intro j o hj ho;cases hb:actB A j with
  | false=>
   refine z9u (fun L=>hOj j L hb) fun L=>?_;obtain⟨E0,a1,a2,a3,rfl⟩:=hD L;have hn2:=hns hj hb ho;refine z8w (fun t ht=>z2k fun x hx e=>(hn2 x hx).1 (e▸ht)) (fun d hd=>z2k fun x hx e=>(hn2 x hx).2 (e▸hd)) (a3 o (hq hj hb ho))
  | true=>
   obtain⟨x,hx,hxe⟩:=List.any_eq_true.1 hb;obtain rfl:x.1=j:=Nat.eq_of_beq_eq_true hxe;obtain⟨oe,h1,_,h3⟩:=hA x hx;rw [ho]at h1;cases h1;exact h3
 ·intro t ht a ha;have hne:∀x∈actE A,x.1≠t:=by
   rintro x hx rfl;obtain⟨y,hy,hyx⟩:=List.mem_filterMap.1 hx;obtain⟨oe,h1,h2,_⟩:=hA y hy;rw [hyx]at h2;have hym:=List.all_eq_true.1 hAm y hy;have:=ht y.1 (by simpa [Nat.blt_eq]using hym);rw [zh.2 ⟨oe,h1,by simpa using h2⟩]at this;cases this
  rw [z2k hne]at ha;obtain⟨E0,a1,a2,a3,rfl⟩:=hD [];refine a1 t (fun o ho hd=>?_) a ha;unfold zx at ho;rw [List.mem_filterMap]at ho;obtain⟨j,hj,ho⟩:=ho;have hj:=List.mem_range.1 (List.mem_filter.1 hj).1;have:=ht j hj;rw [zh.2 ⟨o,ho,hd⟩]at this;cases this
end
end Ab
namespace Ab
open Go
variable [Draws]
theorem ACall.frzO(ι:List Nat){P:Program}[Globals P]{f:FuncId}{az:List AV}{objs o1 o2 o3:List (Option AObj)}{r1 r2 r3:AV}{env2:Env}(h:ACall P f az objs (fun r o=>r=r1∧o=o1))(hz:frzI ι [] o1 [r1]=some (env2,o2,[r2]))(hle:VLe r2 r3)(hO:subO o3 o2)(hb:refsB o3.length r3=true)(hro:refsO o3.length o3=true)(hl:objs.length≤o3.length):ACall P f az objs (fun r o=>r=r3∧o=o3):=by
 have h2:ACall P f az objs (fun r o=>r=r2∧o=o2):=by
  intro X π w vs g m hv;refine(h X π w vs g m hv).mono ?_;rintro e w' ⟨v,r,o,π',rfl,⟨rfl,rfl⟩,hm,hrel,hh⟩;obtain⟨m2,h2,_,r2⟩:=z8y (C:=⟨X,π,objs,w,[],fun _=>False⟩) (tmps:=#[]) ι hz hm hh (fun t a ht=>by simp [look]at ht) (.cons hrel .nil);cases r2 with|cons hr _=>exact⟨v,_,o2,π',rfl,⟨rfl,rfl⟩,m2,hr,h2⟩
 refine h2.less ?_;rintro r o ⟨rfl,rfl⟩;exact⟨r3,o3,⟨rfl,rfl⟩,hle,hO,hb,hro,hl⟩
end Ab
