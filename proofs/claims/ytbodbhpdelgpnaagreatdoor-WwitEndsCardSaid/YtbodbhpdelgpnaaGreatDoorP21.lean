/- A part of the proof. -/
import Derived.Test.YtbodbhpdelgpnaaGreatDoorP20
set_option linter.unusedVariables false
set_option linter.unusedSimpArgs false
set_option linter.unusedSectionVars false
set_option maxRecDepth 100000
set_option maxHeartbeats 8000000
namespace Go.Proofs.YtbodbhpdelgpnaaGreatDoor
open Go Ab Go.RowKit
theorem z7c(l:List Nd)(hm:MdB l)(ty:Ty l)(b:List UInt8)(hbl:b.length≤9223372036854775807):ACall Tryz.prog 21 [.d (eBt l),.d (eBy b)] [] (fun r o=>r=parW (wtP (shL l) b)):=by
 refine yN Tryz.func21 fun C hC hCl hDs hGk=>?_;refine yB Tryz.func21 rfl trivial (fun hb=>?_) (fun hb=>?_)
 ·have hb:decide ((((b.map eU8).length:Nat):Int)>100000)=true:=hb;rw [decide_eq_true_eq,List.length_map]at hb;refine yR Tryz.func21 rfl trivial ?_;unfold wtP;rw [if_pos (by omega)];rfl
 have hb:decide ((((b.map eU8).length:Nat):Int)>100000)=false:=hb;rw [decide_eq_false_iff_not,List.length_map]at hb;have hb6:b.length≤1000000:=by omega
 refine yV Tryz.func21 rfl trivial (zc1 l hm ty) (.refl _) ?_;obtain⟨wi1,wi2⟩:=zt4 ty;obtain⟨in1,in2⟩:=sh_in ty;have st1:=sh_st ty;have hbl:(shL l).bads≤1000000∧0≤(shL l).bads:=by
  have:=z1s l kBad l.length;have:=ty.small;show(((allL l kBad l.length).length:Nat):Int)≤1000000∧(0:Int)≤((allL l kBad l.length).length:Nat);omega
 generalize shL l=h at *;rw [zo2 (by omega)];refine yW [2] Tryz.func21 rfl trivial (z43 b kSat hb6 (by decide) h (.inr ((),0):PR Unit) ⟨Int.le_refl 0,by omega⟩) ⟨⟨_,rfl,.refl _⟩,trivial⟩ (.refl _) ?_;rw [z16];have hbq:badQ h b=bnd (wordP b kSat 0) fun _ p=>numP b (h.bads-1) p:=rfl
 have okB:=zsq (h:=h) (b:=b);have ok0:OkS b (wordP b kSat 0):=.word (Int.le_refl 0) (by omega);refine zt (env':=[(1,.d (eBy b)),(4,.ptr 1 0),(7,.ptr 2 0),(8,.ptr 3 0)]) (objs':=[none,some zWtO,some (bRd b (stP (wordP b kSat 0)) h),some (wtN 0)]) ?_ hC hCl ⟨⟨_,rfl,.refl _⟩,⟨_,rfl,.refl _⟩,⟨_,rfl,.refl _⟩,⟨_,rfl,.refl _⟩,trivial⟩ ⟨.refl _,.refl _,.refl _,trivial⟩ rfl rfl (Nat.zero_le _);apply letK (p:=ASat Tryz.prog 21 Tryz.f21.ntmps C _ [(1,.d (eBy b)),(4,.ptr 1 0),(7,.ptr 2 0),(8,.ptr 3 0)] [none,some zWtO,some (bRd b (stP (badQ h b)) h),some (wtN (valP (badQ h b)))] (fun r o=>r=parW (bnd (lastQ h b) fun l e=>.inr (⟨valP (badQ h b),lstP (endI h b),l⟩,e))))
 ·intro key;rcases h1:wordP b kSat 0 with⟨a,e⟩|⟨u,p1⟩
  ·rw [h1]at ok0 hbq;refine yB Tryz.func21 rfl trivial (fun hh=>?_) (fun _=>?_)
   ·have hh:(e==0)=true:=hh;rw [beq_iff_eq]at hh;exact absurd hh ok0.1
   refine yX 2 Tryz.func21 rfl trivial ?_;exact yE key (eAl rfl) ⟨.refl _,.of (by rw [hbq];rfl),.of (by rw [hbq];rfl),trivial⟩
  ·rw [h1]at ok0 hbq;obtain⟨p0,pl⟩:0≤p1∧p1≤b.length:=ok0;rw [z16]at hbq;refine yT Tryz.func21 rfl trivial ?_;have hw1:IntKind.i64.wrap (h.bads-1)=h.bads-1:=z7 (by omega) (by omega);refine zj6 25 20 24 30 [0,1,17,18,21,22,23] (c1:=none) (c2:=none) tabOk Tryz.func21 rfl rfl trivial (by kernel_rfl) rfl rfl rfl (by kernel_rfl) (by kernel_rfl)
    (yQ Tryz.func51 rfl trivial (zhd b p1 (h.bads-1) hb6) ⟨.refl _,.refl _,.of (congrArg (fun z=>vI .i64 z) hw1),trivial⟩ (yq rfl trivial rfl))
    rfl rfl rfl rfl trivial rfl rfl rfl rfl trivial ?_ ?_
   ·have hop:∀{j:Nat} {E:Env} {ops:Array Oper} {o1 o2:List (Option AObj)},(∃(o:Oper) (d:Nat) (a:AV),ops[j]?=some o∧wantE ops (restr E (o.looksAt ops)) o=.yes∧pstep tab o (restr E (o.looksAt ops)) o1=.ok a∧pstep tab o (restr E (o.looksAt ops)) o2=.ok a∧o.dst=some d∧Nat.blt d Tryz.f21.ntmps=true∧Ab.look E d=some a)→∃o,ops[j]?=some o∧z36 Tryz.prog Tryz.f21.ntmps C.X o1 ops E o∧z36 Tryz.prog Tryz.f21.ntmps C.X o2 ops E o:=by
     rintro j E ops o1 o2 ⟨o,d,a,g1,g2,g3,g4,g5,g6,g7⟩;exact⟨o,g1,zcj tabOk g2 g3 g5 g6 g7,zcj tabOk g2 g4 g5 g6 g7⟩
    refine List.forall_mem_cons.2 ⟨hop ⟨_,_,_,rfl,rfl,rfl,rfl,rfl,rfl,rfl⟩,List.forall_mem_cons.2 ⟨hop ⟨_,_,_,rfl,rfl,rfl,rfl,rfl,rfl,rfl⟩,List.forall_mem_cons.2 ⟨hop ⟨_,_,_,rfl,rfl,rfl,rfl,rfl,rfl,rfl⟩,List.forall_mem_cons.2 ⟨hop ⟨_,_,_,rfl,rfl,rfl,rfl,rfl,rfl,rfl⟩,List.forall_mem_cons.2 ⟨hop ⟨_,_,_,rfl,rfl,rfl,rfl,rfl,rfl,rfl⟩,List.forall_mem_cons.2 ⟨hop ⟨_,_,_,rfl,rfl,rfl,rfl,rfl,rfl,rfl⟩,List.forall_mem_cons.2 ⟨hop ⟨_,_,_,rfl,rfl,rfl,rfl,rfl,rfl,rfl⟩,fun x h=>by cases h⟩⟩⟩⟩⟩⟩⟩
   ·have e1:stP (badQ h b)=((numR b p1 (h.bads-1)).2.1,(numR b p1 (h.bads-1)).2.2)∧valP (badQ h b)=(numR b p1 (h.bads-1)).1:=by
     rw [hbq];unfold numP;by_cases hz:(numR b p1 (h.bads-1)).2.2≠0
     ·rw [if_pos hz];obtain⟨z1,z2⟩:=zrr p0 pl hz;rw [z1,z2];exact⟨rfl,rfl⟩
     ·rw [if_neg hz];refine⟨?_,rfl⟩;rw [Decidable.not_not.1 hz];rfl
    refine yX 5 Tryz.func21 rfl trivial ?_;exact yE key (eAl rfl) ⟨.refl _,.of (by rw [e1.1];rfl),.of (by rw [e1.2];rfl),trivial⟩
 ·refine yW [2] Tryz.func21 rfl trivial (z43 b z58 hb6 (by decide) h (badQ h b) okB) ⟨⟨_,rfl,.refl _⟩,trivial⟩ (.refl _) ?_;have okI:OkS b (iniQ h b):=zar (z9r okB) fun _=>[]
  have hsI:stP (iniQ h b)=stP (bnd (badQ h b) fun _ p=>wordP b z58 p):=z7f _ fun _=>[]
  have hvI:∀l p,iniQ h b=.inr (l,p)→l=[]:=fun l p he=>by
   unfold iniQ at he;generalize (bnd (badQ h b) fun _ p=>wordP b z58 p)=q0 at he;rcases q0 with e|⟨a,p⟩
   ·cases he
   ·cases he;rfl
  have hEI:endI h b=bnd (iniQ h b) fun l p=>rowsP b 0 h.st p l:=rfl
  rw [←hsI];generalize valP (badQ h b)=bad at *;generalize iniQ h b=Q0 at *;refine zt (env':=[(1,.d (eBy b)),(4,.ptr 1 0),(7,.ptr 2 0),(8,.ptr 3 0)]) (objs':=[none,some zWtO,some (bRd b (stP Q0) h),some (wtN bad)]) ?_ hC hCl ⟨⟨_,rfl,.refl _⟩,⟨_,rfl,.refl _⟩,⟨_,rfl,.refl _⟩,⟨_,rfl,.refl _⟩,trivial⟩ ⟨.refl _,.refl _,.refl _,trivial⟩ rfl rfl (Nat.zero_le _);refine z2q 3 1 (e':=9) (s:=1) (fun i=>dSL (([]:List (List UInt8)).getD i [])) rfl rfl ?_;refine z2q 3 2 (e':=25) (s:=1) (fun i=>eSs (([]:List (List (List UInt8))).getD i [])) rfl rfl ?_;refine yS Tryz.func21 rfl trivial ?_;have hws:=wi1.1;obtain⟨W,hW⟩:∃W,h.st=W:=⟨_,rfl⟩
  rw [hW]at hEI st1 wi1 hws;refine z8 (α:=Nat×List (List UInt8)×PR (List (List UInt8))) (fun s=>[(1,.d (eBy b)),(4,.ptr 1 0),(7,.ptr 2 0),(8,.ptr 3 0),(69,.d (eIs (W.map (·.1)))),(70,vI .i64 (W.length:Int)),(71,vI .i64 (s.1:Int))]) (fun s=>[none,some zWtO,some (bRd b (stP s.2.2) h),some (wtG bad 4 5),some (gSs s.2.1),some (gSss [])])
   (fun s=>s.1≤W.length∧s.2.1.length=s.1∧OkS b s.2.2∧(∀l p,s.2.2=.inr (l,p)→l=s.2.1)∧endI h b=bnd s.2.2 fun l p=>rowsP b s.1 (W.drop s.1) p l) (fun s=>W.length-s.1) (0,[],Q0) ⟨Nat.zero_le _,rfl,okI,hvI,hEI⟩ ?_ ?_
  ·refine fun hh=>yE hh ⟨erl rfl,erl rfl,erl rfl,erl rfl,⟨_,rfl,.of ?_⟩,⟨_,rfl,.of ?_⟩,erl rfl,trivial⟩ ⟨.refl _,.refl _,.refl _,.gL rfl,.gL rfl,trivial⟩
   ·show AV.d (eIs (h.st.map (·.1)))=_;rw [hW]
   ·show vI .i64 ((((h.st.map (·.1)).map eI).length:Nat):Int)=_;rw [hW,List.length_map,List.length_map]
  rintro⟨i,out,qi⟩ ⟨c1,c2,c3,c4,c5⟩ ih;simp only at c1 c2 c3 c4 c5 ih ⊢;refine yB Tryz.func21 rfl trivial (fun hb2=>?_) (fun hb2=>?_)
  ·have hb2:decide ((i:Int)<(W.length:Int))=true:=hb2;rw [decide_eq_true_eq]at hb2;have hlt:i<W.length:=by omega
   have hmem:=List.getElem_mem hlt;obtain⟨w1,w2,w3⟩:=wi1.2 _ hmem;have eg:(W.map (·.1)).getD i 0=W[i].1:=by simp [hlt]
   have eg2:(h.st.map (·.2)).getD i []=W[i].2:=by rw [hW];simp [hlt]
   have hrow:=zhy b W[i].2 hb6 w3 h qi c3 i (by omega) W[i].1 w1 w2;rw [List.drop_eq_getElem_cons hlt,z8s]at c5;have c6:OkS b (rowQ b i W[i] qi):=zl3 (by have:=st1 _ hmem;exact⟨by omega,this.2⟩) c3;have ih:=ih (i+1,out++[rowV b i W[i] qi],rowQ b i W[i] qi) ⟨by simp only;omega,by simp [c2],c6,zhz c4,c5⟩ (by simp only;omega);have hsR:=zl2 b i W[i] qi;have hrow2:ACall Tryz.prog 52 [.ptr 0 0,vI .i64 (i:Int),vI .i64 ((W.map (·.1)).getD i 0),vTx ((h.st.map (·.2)).getD i [])] [some (bRd b (stP qi) h)] (fun r o=>r=vTx (rowV b i W[i] qi)∧o=[some (bRd b (stP (rowQ b i W[i] qi)) h)]):=by
    rw [eg,eg2,hsR];exact hrow
   refine zc3 15 13 [(14,some (90,.d (.sl 1 [dSL (rowV b i W[i] qi)] (litRd [dSL (rowV b i W[i] qi)])))),(13,some (89,vTx (rowV b i W[i] qi)))] [none,some zWtO,some (bRd b (stP (rowQ b i W[i] qi)) h),some (wtG bad 4 5),some (gSs out),some (gSss [])] _ tabOk Tryz.func21 rfl rfl (by simp [andP]<;>omega) (by kernel_rfl) (by kernel_rfl) rfl rfl rfl (yq rfl ?n1 rfl) (yq rfl ?n2 rfl) ?_ ?_;case n1|n2=>
    rw [hW];exact(by simp [andP]<;>omega)
   ·refine List.forall_mem_cons.2 ⟨⟨_,rfl,rfl,?_⟩,List.forall_mem_cons.2 ⟨⟨_,rfl,rfl,?_⟩,fun x h=>by cases h⟩⟩
    ·exact zch tabOk rfl (fun _ _ _ h=>h) rfl rfl (show(14:Nat)≠13 by decide) trivial rfl rfl rfl
    ·refine zb6 [2] (fun _ _ _ h=>h) rfl rfl rfl rfl rfl rfl (zb Tryz.func52 rfl rfl) hrow2 ⟨⟨_,rfl,.refl _⟩,trivial⟩ (.refl _) rfl rfl rfl ?_;rintro r o ⟨rfl,rfl⟩;exact⟨rfl,rfl⟩
   refine yS Tryz.func21 rfl ?_ ?_
   ·show((out.map dSL).length+1)*16≤140737488355328∧True;rw [List.length_map,c2];exact⟨by omega,trivial⟩
   refine yE ih ⟨erl rfl,erl rfl,erl rfl,erl rfl,erl rfl,erl rfl,erw rfl,trivial⟩ ⟨.refl _,.refl _,.refl _,.gL (by rw [List.map_append];rfl),.refl _,trivial⟩
  have hb2:decide ((i:Int)<(W.length:Int))=false:=hb2;rw [decide_eq_false_iff_not]at hb2;obtain rfl:i=W.length:=by omega
  rw [List.drop_length]at c5;have e5:endI h b=qi:=c5.trans (znc qi);have hFF:endF h b=bnd (insQ h b) fun l p=>z2y b h.inw 201 p l:=rfl
  have hLQ:lastQ h b=bnd (endF h b) fun l e=>if e<b.length then .inl (e,2)else .inr (l,e):=rfl
  have hsQ:stP (insQ h b)=stP qi:=by
   rw [←e5];exact z7f _ fun _=>[]
  have okQ:OkS b (insQ h b):=by
   unfold insQ;rw [e5];exact zar c3 fun _=>[]
  have hvQ:∀l p,insQ h b=.inr (l,p)→l=[]:=fun l p he=>by
   unfold insQ at he;generalize endI h b=q0 at he;rcases q0 with e|⟨a,p⟩
   ·cases he
   ·cases he;rfl
  have hld:∀ins e,lastQ h b=.inr (ins,e)→lstP (endI h b)=out:=fun ins e he=>by
   rw [hLQ,hFF]at he;unfold insQ at he;rw [e5]at he ⊢;rcases qi with e|⟨l,p⟩
   ·cases he
   ·exact c4 _ _ rfl
  rw [←hsQ];generalize lstP (endI h b)=iniL at *;generalize insQ h b=G0 at *;have hEF:OkS b (endF h b):=by
   rw [hFF];refine okQ.bnd fun l p he h0 h1=>?_;have:=(z7u (b:=b) in1 201 l p.toNat (by omega) (by rw [hvQ l p he];exact Nat.zero_le _)).okS;rwa [Int.toNat_of_nonneg h0]at this
  apply letK (p:=∀ins,(∀l p,endF h b=.inr (l,p)→l=ins)→ASat Tryz.prog 21 Tryz.f21.ntmps C _ [(1,.d (eBy b)),(4,.ptr 1 0),(7,.ptr 2 0),(8,.ptr 3 0)] [none,some zWtO,some (bRd b (stP (endF h b)) h),some (wtG bad 4 5),some (gSs out),some (gSss ins)] (fun r o=>r=parW (bnd (lastQ h b) fun l e=>.inr (⟨bad,iniL,l⟩,e))))
  ·intro key;refine yS Tryz.func21 rfl trivial ?_;refine z8 (α:=Nat×List (List (List UInt8))×PR (List (List (List UInt8)))) (fun s=>[(1,.d (eBy b)),(4,.ptr 1 0),(7,.ptr 2 0),(8,.ptr 3 0)]) (fun s=>[none,some zWtO,some (bRd b (stP s.2.2) h),some (wtG bad 4 5),some (gSs out),some (gSss s.2.1)])
    (fun s=>OkS b s.2.2∧s.1+s.2.1.length=201∧(∀l p,s.2.2=.inr (l,p)→l=s.2.1∧s.2.1.length≤200)∧endF h b=bnd s.2.2 fun l p=>z2y b h.inw s.1 p l) (fun s=>s.1) (201,[],G0) ⟨okQ,rfl,fun l p he=>⟨hvQ l p he,Nat.zero_le _⟩,hFF⟩ ?_ ?_
   ·exact fun hh=>yE hh (eAl rfl) (oAl rfl)
   rintro⟨f,ins,q⟩ ⟨d1,d2,d3,d4⟩ ih;simp only at d1 d2 d3 d4 ih ⊢;rcases q with⟨a,e⟩|⟨lq,p⟩
   ·have d4:endF h b=.inl (a,e):=d4;refine yB Tryz.func21 rfl trivial (fun hh=>?_) (fun _=>?_)
    ·have hh:(e==0)=true:=hh;rw [beq_iff_eq]at hh;exact absurd hh d1.1
    refine yX 3 Tryz.func21 rfl trivial ?_;exact yE (key ins fun l p he=>by rw [d4]at he;cases he) (eAl rfl) ⟨.refl _,.of (by rw [d4]),.refl _,.refl _,.refl _,trivial⟩
   ·obtain⟨p0,pl⟩:0≤p∧p≤b.length:=d1;obtain⟨rfl,d5⟩:=d3 _ _ rfl;obtain⟨f,rfl⟩:∃k,f=k+1:=⟨f-1,by omega⟩
    rw [z16,z2y]at d4;refine yT Tryz.func21 rfl trivial ?_;refine yV Tryz.func21 rfl trivial (zhe b p kEnd hb6 (by decide)) (.refl _) ?_;apply letK (p:=¬(isAt b p kEnd=true∧lq≠[])→ASat Tryz.prog 21 Tryz.f21.ntmps C _ [(1,.d (eBy b)),(4,.ptr 1 0),(7,.ptr 2 0),(8,.ptr 3 0)] [none,some zWtO,some (bRd b (p,0) h),some (wtG bad 4 5),some (gSs out),some (gSss lq)] (fun r o=>r=parW (bnd (lastQ h b) fun l e=>.inr (⟨bad,iniL,l⟩,e))))
    ·intro key2;cases hE:isAt b p kEnd with
     | false=>
      refine yF Tryz.func21 rfl trivial ?_;refine yF Tryz.func21 rfl trivial ?_;refine yX 1 Tryz.func21 rfl trivial ?_;exact yE (key2 (by rw [hE];rintro⟨hx,-⟩;cases hx)) (eAl rfl) (oAl rfl)
     | true=>
      refine yT Tryz.func21 rfl trivial ?_;refine yB Tryz.func21 rfl trivial (fun g=>?_) (fun g=>?_)
      ·have g:decide ((((lq.map eSs).length:Nat):Int)>0)=true:=g;rw [decide_eq_true_eq,List.length_map]at g;have hne:lq≠[]:=fun e=>by rw [e]at g;simp at g
       rw [if_pos ⟨hE,hne⟩]at d4;refine yX 12 Tryz.func21 rfl trivial ?_;exact yE (key lq fun l p he=>by rw [d4]at he;cases he;rfl) (eAl rfl) ⟨.refl _,.of (by rw [d4];rfl),.refl _,.refl _,.refl _,trivial⟩
      ·have g:decide ((((lq.map eSs).length:Nat):Int)>0)=false:=g;rw [decide_eq_false_iff_not,List.length_map]at g;refine yX 1 Tryz.func21 rfl trivial ?_;exact yE (key2 (by rintro⟨-,hx⟩;exact hx (List.length_eq_zero_iff.1 (by omega)))) (eAl rfl) (oAl rfl)
    intro hno;rw [if_neg hno]at d4;refine yV Tryz.func21 rfl trivial (zhe b p [64] hb6 (by decide)) (.refl _) ?_;apply letK (p:=¬(isAt b p [64]=true∧lq.length=200)→ASat Tryz.prog 21 Tryz.f21.ntmps C _ [(1,.d (eBy b)),(4,.ptr 1 0),(7,.ptr 2 0),(8,.ptr 3 0)] [none,some zWtO,some (bRd b (p,0) h),some (wtG bad 4 5),some (gSs out),some (gSss lq)] (fun r o=>r=parW (bnd (lastQ h b) fun l e=>.inr (⟨bad,iniL,l⟩,e))))
    ·intro key3;cases hA:isAt b p [64]with
     | false=>
      refine yO 10 Tryz.func21 rfl trivial ?_;refine yb rfl trivial (fun hx=>by cases hx) (fun _=>?_);refine yq rfl trivial ?_;refine yF Tryz.func21 rfl trivial ?_;refine yX 1 Tryz.func21 rfl trivial ?_;exact yE (key3 (by rw [hA];rintro⟨hx,-⟩;cases hx)) (eAl rfl) (oAl rfl)
     | true=>
      refine yO 10 Tryz.func21 rfl trivial ?_;refine yb rfl trivial (fun _=>?_) (fun hx=>by cases hx);refine yq rfl trivial ?_;refine yB Tryz.func21 rfl trivial (fun g=>?_) (fun g=>?_)
      ·have g:((((lq.map eSs).length:Nat):Int)==200)=true:=g;rw [beq_iff_eq,List.length_map]at g;rw [if_pos ⟨hA,by omega⟩]at d4;refine yX 11 Tryz.func21 rfl trivial ?_;exact yE (key lq fun l p he=>by rw [d4]at he;cases he) (eAl rfl) ⟨.refl _,.of (by rw [d4];rfl),.refl _,.refl _,.refl _,trivial⟩
      ·have g:((((lq.map eSs).length:Nat):Int)==200)=false:=g;rw [beq_eq_false_iff_ne,List.length_map]at g;refine yX 1 Tryz.func21 rfl trivial ?_;exact yE (key3 (by rintro⟨-,hx⟩;omega)) (eAl rfl) (oAl rfl)
    intro hno2;rw [if_neg hno2]at d4;have hfc:=zjo b hb6 h in2 wi2 (.inr (lq,p):PR (List (List (List UInt8)))) ⟨p0,pl⟩ lq.length (by omega);have hfv:=fun l2 p2=>@zml _ b lq.length h.inw (.inr (lq,p):PR (List (List (List UInt8)))) l2 p2
    have hfo:=zjp (b:=b) in1 lq.length (q:=(.inr (lq,p):PR (List (List (List UInt8))))) ⟨p0,pl⟩;generalize zij b lq.length h.inw (.inr (lq,p):PR (List (List (List UInt8))))=fv at *;rw [z16]at hfc hfv hfo;have hst2:stP (bnd (z4b b lq.length h.inw p) fun l p=>(.inr (lq++[l],p):PR (List (List (List UInt8)))))=stP (z4b b lq.length h.inw p):=z7f _ fun l=>lq++[l]
    refine zc3 8 6 [(7,some (155,.d (.sl 1 [eSs fv] (litRd [eSs fv])))),(6,some (154,.d (eSs fv)))] [none,some zWtO,some (bRd b (stP (z4b b lq.length h.inw p)) h),some (wtG bad 4 5),some (gSs out),some (gSss lq)] _ tabOk Tryz.func21 rfl rfl trivial (by kernel_rfl) (by kernel_rfl) rfl rfl rfl (yq rfl trivial rfl) (yq rfl trivial rfl) ?_ ?_
    ·refine List.forall_mem_cons.2 ⟨⟨_,rfl,rfl,?_⟩,List.forall_mem_cons.2 ⟨⟨_,rfl,rfl,?_⟩,fun x h=>by cases h⟩⟩
     ·exact zch tabOk rfl (fun _ _ _ h=>h) rfl rfl (show(7:Nat)≠6 by decide) trivial rfl rfl rfl
     ·refine zb6 [2] (fun _ _ _ h=>h) rfl rfl rfl rfl rfl rfl (zb Tryz.func54 rfl rfl) hfc ⟨⟨_,rfl,.refl _⟩,trivial⟩ ⟨.refl _,.of (by rw [List.length_map];rfl),trivial⟩ rfl rfl rfl ?_;rintro r o ⟨rfl,rfl⟩;exact⟨rfl,rfl⟩
    refine yS Tryz.func21 rfl ?_ ?_
    ·show((lq.map eSs).length+1)*24≤140737488355328∧True;rw [List.length_map];exact⟨by omega,trivial⟩
    refine yE (ih (f,lq++[fv],bnd (z4b b lq.length h.inw p) fun l p=>.inr (lq++[l],p)) ⟨zar hfo _,?_,?_,?_⟩ (by simp only;omega)) (eAl rfl) ⟨.refl _,.of (by rw [hst2];rfl),.refl _,.refl _,.gL (by rw [List.map_append];rfl),trivial⟩
    ·simp only [List.length_append,List.length_singleton];omega
    ·intro l2 p2 he;simp only at he ⊢;rcases hfr:z4b b lq.length h.inw p with e|⟨l3,p3⟩
     ·rw [hfr]at he;cases he
     ·have hat:¬lq.length=200:=fun hx=>by
       cases hA:isAt b p [64]with
       | true=>exact hno2 ⟨hA,hx⟩
       | false=>rw [zmm hA]at hfr;cases hfr
      rw [hfr,z16]at he;cases he;obtain rfl:=hfv _ _ hfr;refine⟨rfl,?_⟩;simp only [List.length_append,List.length_singleton];omega
    ·rw [d4];simp only;rw [z4c];rfl
  ·rintro ins hins;rcases hq:endF h b with⟨a,e⟩|⟨l,p⟩
   ·rw [hq]at hEF hLQ;have hne:e≠0:=hEF.1;refine yB Tryz.func21 rfl trivial (fun hh=>?_) (fun _=>?_)
    ·have hh:(e==0)=true:=hh;rw [beq_iff_eq]at hh;exact absurd hh hne
    refine yF Tryz.func21 rfl trivial ?_;refine yB Tryz.func21 rfl trivial (fun _=>?_) (fun hh=>?_);rotate_left
    ·have hh:(!(e==0))=false:=hh;rw [Bool.not_eq_false',beq_iff_eq]at hh;exact absurd hh hne
    refine z3w 13 11 1 (c:=none) (a:=.dead) (o2:=zWtO) tabOk Tryz.func21 rfl rfl trivial (by kernel_rfl) (by kernel_rfl) rfl rfl (fun _=>yq rfl trivial rfl) rfl rfl rfl rfl trivial ?_;rw [hLQ];exact yR Tryz.func21 rfl trivial rfl
   ·rw [hq]at hEF hLQ;obtain rfl:=hins _ _ hq;rw [z16]at hLQ;refine yT Tryz.func21 rfl trivial ?_;refine yB Tryz.func21 rfl trivial (fun g=>?_) (fun g=>?_)
    ·have g:decide (p<(((b.map eU8).length:Nat):Int))=true:=g;rw [decide_eq_true_eq,List.length_map]at g;rw [if_pos g]at hLQ;refine yB Tryz.func21 rfl trivial (fun _=>?_) (fun hx=>absurd hx (by decide));refine z3w 13 11 1 (c:=none) (a:=.dead) (o2:=zWtO) tabOk Tryz.func21 rfl rfl trivial (by kernel_rfl) (by kernel_rfl) rfl rfl (fun _=>yq rfl trivial rfl) rfl rfl rfl rfl trivial ?_;rw [hLQ];exact yR Tryz.func21 rfl trivial rfl
    ·have g:decide (p<(((b.map eU8).length:Nat):Int))=false:=g;rw [decide_eq_false_iff_not,List.length_map]at g;rw [if_neg g]at hLQ;refine yF Tryz.func21 rfl trivial ?_;refine zj 4 rfl ?_;refine zj 5 rfl ?_;refine z3w 7 6 1 (c:=none) (a:=.dead) (o2:=bWt ⟨bad,out,l⟩) tabOk Tryz.func21 rfl rfl trivial (by kernel_rfl) (by kernel_rfl) rfl rfl (fun _=>yq rfl trivial rfl) rfl rfl rfl rfl trivial ?_;have hini:=hld _ _ hLQ;rw [hLQ,hini];exact yR Tryz.func21 rfl trivial rfl
end Go.Proofs.YtbodbhpdelgpnaaGreatDoor
namespace Go.Proofs.YtbodbhpdelgpnaaGreatDoor
open Go Ab
theorem zsv(l:List UInt8)(w x:Nat)(hl:l.length≤1000000000)(h:mkR l=tupOf [.d (vN w x),vI .i64 0]):ACall Tryz.prog 72 [vSL l] [] (fun r o=>r=tupOf [.d (vN w x),vI .i64 0]):=(z4e l hl).mono fun r o hr=>hr.trans h
end Go.Proofs.YtbodbhpdelgpnaaGreatDoor
namespace Go.Proofs.YtbodbhpdelgpnaaGreatDoor
open Go Ab Go.RowKit
def vecsL(l:List (List UInt8)):List (Nat×Nat):=l.map fun s=>(s.length,mkN s)
theorem zta{s:List UInt8}(h:mkok s=true):mkR s=tupOf [.d (vN s.length (mkN s)),vI .i64 0]:=by
 unfold mkR;rw [if_pos h]
theorem zfa{s:List UInt8}(h:mkok s=true):1≤s.length∧s.length≤128:=by
 unfold mkok at h;simp only [Bool.and_eq_true,decide_eq_true_eq]at h;exact h.1
theorem zec(l:List (List UInt8))(h:∀s∈l,mkok s=true)(hl:l.length≤1000000):ACall Tryz.prog 45 [.d (eSs l)] [] (fun r o=>r=.d (eNums (vecsL l))):=by
 refine yN Tryz.func45 fun C hC hCl hDs hGk=>?_;refine yS Tryz.func45 rfl trivial ?_;refine z45 (s:=2) (e:=118) (t:=3) (.inl rfl) (fun i=>vN (nm [] i).1 (nm [] i).2) ?_;refine z8 (α:=Nat) (fun i=>[(3,.gs 0),(8,.d (eSs l)),(9,vI .i64 (l.length:Int)),(10,vI .i64 (i:Int))]) (fun i=>[some (gNums (vecsL (l.take i)))]) (fun i=>i≤l.length) (fun i=>l.length-i) 0 (Nat.zero_le _) ?_ ?_
 ·exact fun h=>yE h ⟨erl rfl,erl rfl,⟨_,rfl,.of (by rw [List.length_map])⟩,erl rfl,trivial⟩ ⟨.gL rfl,trivial⟩
 rintro i hi ih;have ih:=ih (i+1);refine yB Tryz.func45 rfl trivial (fun hb=>?_) (fun hb=>?_)<;>simp only [decide_eq_true_eq,decide_eq_false_iff_not]at hb
 ·have hlt:i<l.length:=by omega
  have eg:l.getD i []=l[i]:=by simp [hlt]
  have hm:=h _ (List.getElem_mem hlt);have hvl:((vecsL (l.take i)).map fun p:Nat×Nat=>vN p.1 p.2).length=i:=by
   unfold vecsL;rw [List.length_map,List.length_map,List.length_take,Nat.min_eq_left hi]
  rw [←eg]at hm;refine yV Tryz.func45 rfl (by simp [andP]<;>omega) (zsv (l.getD i []) _ _ (by have:=zfa hm;omega) (zta hm)) (.refl _) ?_;refine yS Tryz.func45 rfl ?_ ?_
  ·rw [hvl];exact⟨by show(i+1)*32≤_;omega,trivial⟩
  refine yE (ih (by omega) (by omega)) ⟨erl rfl,erl rfl,erl rfl,erw rfl,trivial⟩ ⟨.gL ?_,trivial⟩;unfold vecsL;rw [List.take_succ_eq_append_getElem hlt,List.map_append,List.map_append,←eg];rfl
 ·obtain rfl:i=l.length:=by omega
  refine zj 0 rfl ?_;rw [List.take_length];exact yR Tryz.func45 rfl trivial rfl
def goW(l:List Nd)(bad:Nat):List (List (List UInt8))→List (Nat×Nat)→Bool→Int
 | [],_,last=>if last then 0 else 8
 | f::r,s,_=>if(flagL l zg (valL l s (vecsL f) l.length) l.length).contains false=true then 8 else goW l bad r (nextL l (valL l s (vecsL f) l.length)) ((flagL l kBad (valL l s (vecsL f) l.length) l.length).getD bad false)
def zeb(l:List Nd)(t:Wt):Int:=if z28 (shL l) t=true∧totB t=true then goW l t.bad.toNat t.ins (vecsL t.init) false else 7
theorem zt5{s:List UInt8}{w:Int}(h:rowB s w=true)(hx:xS s=false)(h1:1≤w)(h2:w≤128):mkok s=true:=by
 unfold rowB at h;rw [Bool.and_eq_true,decide_eq_true_eq,List.all_eq_true]at h;unfold xS at hx;rw [List.any_eq_false]at hx;unfold mkok;rw [decide_eq_true (by omega),decide_eq_true (by omega),Bool.true_and,Bool.true_and,List.all_eq_true];intro c hc;have a1:=h.2 c hc;have a2:=hx c hc;unfold isB at a1;have a3:(c==48||c==49)=true:=by
  cases e:c==120 with
  | true=>exact absurd e a2
  | false=>rwa [e,Bool.or_false]at a1
 rw [Bool.or_eq_true,beq_iff_eq,beq_iff_eq]at a3;rcases a3 with rfl|rfl<;>rfl
theorem zhv{l:List Nd}(ty:Ty l){op:List UInt8}(ho:isVal op=true){f:List (List UInt8)}{ws:List (Int×List UInt8)}(hw:ws.map (·.1)=(allL l op l.length).map fun s=>wdN l (ln l s))(h:rowsB f ws=true)(hx:xL f=false):(∀s∈f,mkok s=true)∧Fit l op (vecsL f):=by
 obtain⟨h1,h2⟩:=z55.1 h;have hwl:ws.length=(allL l op l.length).length:=by
  have:=congrArg List.length hw;simpa using this
 rw [hw]at h2;rw [hwl]at h1;have hk:∀j,j<f.length→mkok (f.getD j [])=true∧((f.getD j []).length:Int)=wdN l (ln l ((allL l op l.length).getD j 0)):=fun j hj=>by
  have hjl:j<(allL l op l.length).length:=by omega
  have a1:=h2 j hj;have hm:(allL l op l.length).getD j 0∈allL l op l.length:=z11 0 hjl;obtain⟨_,_,_,s4,s5⟩:=z38 ty ho hm;rw [show((allL l op l.length).map fun s=>wdN l (ln l s)).getD j 0=wdN l (ln l ((allL l op l.length).getD j 0))by simp [hjl]]at a1;have hxj:xS (f.getD j [])=false:=by
   unfold xL at hx;rw [List.any_eq_false]at hx;simpa using hx _ (z11 [] hj)
  refine⟨zt5 a1 hxj s4 s5,?_⟩;unfold rowB at a1;rw [Bool.and_eq_true,decide_eq_true_eq]at a1;exact a1.1
 refine⟨fun s hs=>?_,⟨by unfold vecsL;rw [List.length_map,h1],fun i hi=>?_⟩⟩
 ·obtain⟨j,hj,rfl⟩:=List.getElem_of_mem hs;have:=(hk j hj).1;rwa [z5r hj]at this
 ·have hi2:i<f.length:=by
   unfold vecsL at hi;rwa [List.length_map]at hi
  have e:nm (vecsL f) i=((f.getD i []).length,mkN (f.getD i [])):=by
   unfold vecsL;simp [hi2]
  obtain⟨a1,a2⟩:=hk i hi2;have:=zfa a1;rw [e];exact⟨a2,mk_lt _,this.1,this.2⟩
theorem zm7(l:List Bool)(v:Bool):ACall Tryz.prog 75 [.d (eBs l),vB v] [] (fun r o=>∃k:Int,r=vI .i64 k∧decide (k≥0)=l.contains v):=by
 refine yN Tryz.func75 fun C hC hCl hDs hGk=>?_;refine z7h (t:=0) rfl fun hlen=>?_;rw [List.length_map]at hlen;refine yS Tryz.func75 rfl trivial ?_;refine z8 (α:=Nat) (fun j=>[(0,.d (eBs l)),(1,vB v),(7,vI .i64 (l.length:Int)),(8,vI .i64 (j:Int))]) (fun j=>[]) (fun j=>j≤l.length∧∀q,q<j→(v==l.getD q false)=false) (fun j=>l.length-j) 0 ⟨Nat.zero_le _,fun q hq=>by omega⟩ ?_ ?_
 ·exact fun h=>yE h ⟨erl rfl,erl rfl,⟨_,rfl,.of (by rw [List.length_map])⟩,erl rfl,trivial⟩ trivial
 rintro j ⟨hj,hall⟩ ih;refine yB Tryz.func75 rfl trivial (fun hb=>?_) (fun hb=>?_)<;>simp only [decide_eq_true_eq,decide_eq_false_iff_not]at hb
 ·have hlt:j<l.length:=by omega
  refine yB Tryz.func75 rfl (by simp [andP]<;>omega) (fun g=>?_) (fun g=>?_)
  ·have g:(v==l.getD j false)=true:=g;refine yR Tryz.func75 rfl trivial ⟨_,rfl,?_⟩;have:l.contains v=true:=List.contains_iff_mem.2 (by rw [beq_iff_eq.1 g];exact z3u hlt);rw [this];exact decide_eq_true (by omega)
  ·have g:(v==l.getD j false)=false:=g;refine yS Tryz.func75 rfl trivial ?_;refine yE (ih (j+1) ⟨by omega,fun q hq=>?_⟩ (by omega)) ⟨erl rfl,erl rfl,erl rfl,erw rfl,trivial⟩ trivial;rcases Nat.lt_or_ge q j with h|h
   ·exact hall q h
   ·obtain rfl:q=j:=by omega
    exact g
 ·obtain rfl:j=l.length:=by omega
  refine yR Tryz.func75 rfl trivial ⟨-1,rfl,?_⟩;have:l.contains v=false:=by
   rw [List.contains_eq_any_beq,znl (p:=fun x=>v==x) hall]
  rw [this];rfl
theorem zjz(l:List Bool)(v:Bool):ACall Tryz.prog 47 [.d (eBs l),vB v] [] (fun r o=>r=vB (l.contains v)):=by
 refine yN Tryz.func47 fun C hC hCl hDs hGk=>?_;refine yC Tryz.func47 rfl trivial (zm7 l v) (.refl _) ?_ (hr:=by rintro r o ⟨k,rfl,-⟩;rfl);rintro r o ⟨k,rfl,hk⟩;refine yR Tryz.func47 rfl trivial ?_;show vB (decide (k≥0))=_;rw [hk]
@[reducible] def o2B(a b:List Bool):AObj:=.cells 78 [.d (eBs a),.d (eBs b)]
theorem zmr(l:List Nd)(op:List UInt8)(v:List (Nat×Nat)):(flagL l op v l.length).length=(allL l op l.length).length:=by
 unfold flagL;rw [List.length_map]
theorem z93(l:List Nd)(hm:MdB l)(ty:Ty l)(t:Wt)(sm:SmW t 1000):ACall Tryz.prog 19 [.d (eBt l),.d (eWt t)] [] (fun r o=>r=vI .i64 (zeb l t)):=by
 refine yN Tryz.func19 fun C hC hCl hDs hGk=>?_;refine yV Tryz.func19 rfl trivial (z7a l hm ty t (fun s hs=>by have:=sm.r s hs;omega) (fun f hf s hs=>by have:=(sm.l f hf).2 s hs;omega)) (.refl _) ?_;unfold zeb;cases hr:z28 (shL l) t with
 | false=>
  rw [if_neg (by rintro⟨h,-⟩;cases h)];repeat refine yT Tryz.func19 rfl trivial ?_
  exact yR Tryz.func19 rfl trivial rfl
 | true=>
  refine yF Tryz.func19 rfl trivial ?_;refine yV Tryz.func19 rfl trivial (z94 t (by have:=sm.n;omega)) (.refl _) ?_;cases ht:totB t with
  | false=>
   rw [if_neg (by rintro⟨-,h⟩;cases h)];refine yT Tryz.func19 rfl trivial ?_;exact yR Tryz.func19 rfl trivial rfl
  | true=>
   rw [if_pos ⟨rfl,rfl⟩];refine yF Tryz.func19 rfl trivial ?_;obtain⟨⟨b0,b1,n0,n1⟩,r1,r2,r3⟩:=z39.1 hr;unfold totB at ht;rw [Bool.not_eq_true',List.any_eq_false]at ht;have hxi:xL t.init=false:=by simpa using ht t.init (by simp)
   have hxf:∀f∈t.ins,xL f=false:=fun f hf=>by simpa using ht f (by simp [hf])
   have e1:(shL l).st.map (·.1)=(allL l ze l.length).map fun s=>wdN l (ln l s):=by
    unfold shL;rw [List.map_map];rfl
   have e3:(shL l).inw.map (·.1)=(allL l zy l.length).map fun s=>wdN l (ln l s):=by
    unfold shL;rw [List.map_map];rfl
   obtain⟨k1,k2⟩:=zhv ty rfl e1 r1 hxi;have hkf:=fun f (hf:f∈t.ins)=>zhv ty rfl e3 (r3 f hf) (hxf f hf)
   have hbb:t.bad.toNat<(allL l kBad l.length).length:=by
    have:t.bad<(((allL l kBad l.length).length:Nat):Int):=b1;omega
   refine yV Tryz.func19 rfl trivial (zec t.init k1 (by have:=sm.i;omega)) (.refl _) ?_;refine yS Tryz.func19 rfl trivial ?_;refine z8 (α:=Nat×List (Nat×Nat)×Bool) (fun s=>[(2,.ptr 0 0),(3,.ptr 1 0),(5,.d (eNums s.2.1)),(6,vB s.2.2),(25,.d (eSss t.ins)),(26,vI .i64 (t.ins.length:Int)),(27,vI .i64 (s.1:Int))]) (fun s=>[some (bBt l),some (bWt t)])
    (fun s=>s.1≤t.ins.length∧Fit l ze s.2.1∧goW l t.bad.toNat (t.ins.drop s.1) s.2.1 s.2.2=goW l t.bad.toNat t.ins (vecsL t.init) false) (fun s=>t.ins.length-s.1) (0,vecsL t.init,false) ⟨Nat.zero_le _,k2,rfl⟩ ?_ ?_
   ·exact fun h=>yE h ⟨erl rfl,erl rfl,erl rfl,erl rfl,erl rfl,⟨_,rfl,.of (by rw [List.length_map])⟩,erl rfl,trivial⟩ (oAl rfl)
   rintro⟨i,s,last⟩ ⟨hi,hfit,hgo⟩ ih;simp only at hi hfit hgo ih ⊢;rw [←hgo];rw [←hgo]at ih;refine yB Tryz.func19 rfl trivial (fun hb=>?_) (fun hb=>?_)
   ·have hb:decide ((i:Int)<(t.ins.length:Int))=true:=hb;rw [decide_eq_true_eq]at hb;have hlt:i<t.ins.length:=by omega
    have eg:t.ins.getD i []=t.ins[i]:=by simp [hlt]
    have hmem:=List.getElem_mem hlt;obtain⟨f1,f2⟩:=hkf _ hmem;have s1:=(sm.l _ hmem).1;rw [←eg]at f1 f2 s1;have hvo:=zcz ty hfit f2 l.length (Nat.le_refl _);have hdr:goW l t.bad.toNat (t.ins.drop i) s last=goW l t.bad.toNat (t.ins.getD i []::t.ins.drop (i+1)) s last:=by rw [List.drop_eq_getElem_cons hlt,eg]
    rw [goW]at hdr;rw [hdr];rw [hdr]at ih;refine zc4 12 9 11 (c:=none) (a:=.dead) (o2:=o2B (flagL l kBad (valL l s (vecsL (t.ins.getD i [])) l.length) l.length) (flagL l zg (valL l s (vecsL (t.ins.getD i [])) l.length) l.length)) tabOk Tryz.func19 rfl rfl (by simp [andP]<;>omega) (by kernel_rfl) (by kernel_rfl) rfl rfl rfl (by kernel_rfl) (by rw [hCl,hC];exact Nat.zero_le _) rfl rfl rfl rfl rfl rfl
     (fun _=>yQ Tryz.func45 rfl trivial (zec (t.ins.getD i []) f1 (by omega)) (.refl _) (yQ Tryz.func46 rfl trivial (zsu l hm ty s (vecsL (t.ins.getD i [])) hfit f2) (.refl _) (yq rfl trivial rfl)))
     (by rfl) (by rfl) (by rfl) (by rfl) trivial ?_
    generalize hV:valL l s (vecsL (t.ins.getD i [])) l.length=V at *;refine yV Tryz.func19 rfl trivial (zjz (flagL l zg V l.length) false) (.refl _) ?_;cases hcn:(flagL l zg V l.length).contains false with
    | true=>
     rw [if_pos rfl];refine yT Tryz.func19 rfl trivial ?_;exact yR Tryz.func19 rfl trivial rfl
    | false=>
     rw [if_neg (by decide)];rw [hcn,if_neg (by decide)]at ih;refine yF Tryz.func19 rfl trivial ?_;refine yS Tryz.func19 rfl ?_ ?_
     ·rw [List.length_map,zmr];exact⟨⟨by omega,by omega⟩,trivial⟩
     exact yE (ih (i+1,nextL l V,(flagL l kBad V l.length).getD t.bad.toNat false) ⟨by simp only;omega,zox ty hvo,rfl⟩ (by simp only;omega)) ⟨erl rfl,erl rfl,erl rfl,erl rfl,erl rfl,erl rfl,erw rfl,trivial⟩ (oAl rfl)
   ·have hb:decide ((i:Int)<(t.ins.length:Int))=false:=hb;rw [decide_eq_false_iff_not]at hb;obtain rfl:i=t.ins.length:=by omega
    rw [List.drop_length,goW];cases last with
    | false=>
     refine yT Tryz.func19 rfl trivial ?_;exact yR Tryz.func19 rfl trivial rfl
    | true=>
     refine yF Tryz.func19 rfl trivial ?_;exact yR Tryz.func19 rfl trivial rfl
end Go.Proofs.YtbodbhpdelgpnaaGreatDoor
namespace Go.Proofs.YtbodbhpdelgpnaaGreatDoor
open Go Ab
theorem dleN:DLe (.v (.slice none 0 0)) (eIs []):=fun _ _ _ h=>by cases h with|v _=>exact .nil (Nat.zero_le _)
theorem dleI(l:List Int):DLe (.sl 1 (l.map eI) (litRd (l.map eI))) (eIs l):=DLe.slR rfl (z4m eI 0 l)
theorem cleA{cs ds:List D}(h:DLes cs ds):CLe (.ag cs) (.ag ds):=fun _ _ _ h2=>h.rel h2
theorem dleS{s:Nat}{xs ys:List D}{rd rd':Nat→D}(h:CLes xs ys)(hr:∀i,i<ys.length→ys[i]?=some (rd' i)):DLe (.sl s xs rd) (.sl s ys rd'):=by
 intro w ok v hv;have hf:flat v=true:=by cases hv<;>rfl
 have:=CLe.sl h hr w ok [v] (.cons hv hf .nil);cases this with|cons h _ _=>exact h
end Go.Proofs.YtbodbhpdelgpnaaGreatDoor
