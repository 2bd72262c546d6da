/- A part of the proof. -/
import Derived.Test.YtbodbhpdelgpnaaGreatDoorP15
import Derived.Tactics
import Derived.Tactics2
set_option linter.unusedVariables false
set_option linter.unusedSimpArgs false
set_option linter.unusedSectionVars false
set_option maxRecDepth 100000
set_option maxHeartbeats 8000000
namespace Go.Proofs.YtbodbhpdelgpnaaGreatDoor
open Go Ab
theorem z44(l:List Nd)(op:List UInt8)(hl:l.length<1000000):ACall Tryz.prog 62 [.d (eBt l),vSL op] [] (fun r o=>r=.d (eIs (allL l op l.length))):=by
 refine yN Tryz.func62 fun C hC hCl hDs hGk=>?_;refine yS Tryz.func62 rfl trivial ?_;refine z45 (s:=1) (e:=3) (t:=5) (.inl rfl) (fun i=>eI (([]:List Int).getD i 0)) ?_;refine z8 (α:=Nat) (fun j=>[(1,vSL op),(5,.gs 1),(9,.d (eNds l)),(10,vI .i64 (l.length:Int)),(11,vI .i64 (j:Int))]) (fun j=>[some (bBt l),some (gIs (allL l op j))]) (fun j=>j≤l.length) (fun j=>l.length-j) 0 (Nat.zero_le _) ?_ ?_
 ·exact fun h=>yE h ⟨erl rfl,erl rfl,erl rfl,⟨_,rfl,.of (by rw [List.length_map])⟩,erl rfl,trivial⟩ (oAl rfl)
 rintro j hj ih;have hal:=z1s l op j;refine yB Tryz.func62 rfl trivial (fun hb=>?_) (fun hb=>?_)<;>simp only [decide_eq_true_eq,decide_eq_false_iff_not]at hb
 ·have hlt:j<l.length:=by omega
  have ej:IntKind.i64.wrap ((j:Int)+1)=(j:Int)+1:=by rw [z7 (by omega) (by omega)]
  refine yB Tryz.func62 rfl (by simp [andP]<;>omega) (fun h1=>?_) (fun h1=>?_)
  ·have h1:((⟨(nd l j).op.toArray⟩:ByteArray).toList==(⟨op.toArray⟩:ByteArray).toList)=true:=h1;rw [strB,decide_eq_true_eq]at h1;refine yS Tryz.func62 rfl ?_ ?_
   ·show((List.map eI (allL l op j)).length+1)*8≤140737488355328∧True;rw [List.length_map];exact⟨by omega,trivial⟩
   refine yE (ih (j+1) (by omega) (by omega)) ⟨erl rfl,erl rfl,erl rfl,erl rfl,erw rfl,trivial⟩ ⟨.refl _,.gL ?_,trivial⟩;rw [z4d,if_pos h1,List.map_append];show _++[eI (IntKind.i64.wrap ((j:Int)+1))]=_;rw [ej];rfl
  ·have h1:((⟨(nd l j).op.toArray⟩:ByteArray).toList==(⟨op.toArray⟩:ByteArray).toList)=false:=h1;rw [strB,decide_eq_false_iff_not]at h1;refine yS Tryz.func62 rfl trivial ?_;refine yE (ih (j+1) (by omega) (by omega)) ⟨erl rfl,erl rfl,erl rfl,erl rfl,erw rfl,trivial⟩ ⟨.refl _,.gL ?_,trivial⟩;rw [z4d,if_neg h1,List.append_nil]
 ·obtain rfl:j=l.length:=by omega
  refine zj 1 rfl ?_;exact yR Tryz.func62 rfl trivial rfl
theorem zhk(l:List Nd)(op:List UInt8)(st:Int)(hl:l.length<1000000)(ha:∀j,j<l.length→(nd l j).op=op→(nd l j).a.length=2):
  ACall Tryz.prog 63 [.d (eBt l),vSL op,vI .i64 st] [] (fun r o=>r=tupOf [vI .i64 (ofV l op st),vB (ofJ l op st).isSome]):=by
 refine yN Tryz.func63 fun C hC hCl hDs hGk=>?_;refine yS Tryz.func63 rfl trivial ?_;refine z8 (α:=Nat) (fun j=>[(1,vSL op),(2,vI .i64 st),(11,.d (eNds l)),(12,vI .i64 (l.length:Int)),(13,vI .i64 (j:Int))]) (fun j=>[some (bBt l)]) (fun j=>j≤l.length∧∀q,q<j→¬((nd l q).op=op∧(nd l q).a.getD 0 0=st)) (fun j=>l.length-j) 0 ⟨Nat.zero_le _,fun q hq=>by omega⟩ ?_ ?_
 ·exact fun h=>yE h ⟨erl rfl,erl rfl,erl rfl,⟨_,rfl,.of (by rw [List.length_map])⟩,erl rfl,trivial⟩ (oAl rfl)
 rintro j ⟨hj,hall⟩ ih;refine yB Tryz.func63 rfl trivial (fun hb=>?_) (fun hb=>?_)<;>simp only [decide_eq_true_eq,decide_eq_false_iff_not]at hb
 ·have hlt:j<l.length:=by omega
  have next:¬((nd l j).op=op∧(nd l j).a.getD 0 0=st)→∀q,q<j+1→¬((nd l q).op=op∧(nd l q).a.getD 0 0=st):=fun h q hq=>by
   rcases Nat.lt_or_ge q j with h2|h2
   ·exact hall q h2
   ·obtain rfl:q=j:=by omega
    exact h
  refine yB Tryz.func63 rfl (by simp [andP]<;>omega) (fun h1=>?_) (fun h1=>?_)
  ·have h1:((⟨(nd l j).op.toArray⟩:ByteArray).toList==(⟨op.toArray⟩:ByteArray).toList)=true:=h1;rw [strB,decide_eq_true_eq]at h1;have hal:=ha j hlt h1;refine yB Tryz.func63 rfl trivial (fun h3=>?_) (fun h3=>?_);rotate_left
   ·have h3:decide ((((nd l j).a.map eI).length:Int)>1)=false:=h3;rw [List.length_map,decide_eq_false_iff_not]at h3;omega
   refine yB Tryz.func63 rfl ⟨⟨Int.le_refl _,by rw [List.length_map];show(0:Int)<(((nd l j).a.length:Nat):Int);omega⟩,trivial⟩ (fun h2=>?_) (fun h2=>?_)
   ·have h2:((nd l j).a.getD 0 0==st)=true:=h2;refine yR Tryz.func63 rfl ⟨⟨by decide,by rw [List.length_map];show(1:Int)<(((nd l j).a.length:Nat):Int);omega⟩,trivial⟩ ?_;rw [ofV,zi3 hlt h1 (eq_of_beq h2) hall];rfl
   ·have h2:((nd l j).a.getD 0 0==st)=false:=h2;refine yS Tryz.func63 rfl trivial ?_;exact yE (ih (j+1) ⟨by omega,next fun hh=>by rw [hh.2]at h2;simp at h2⟩ (by omega)) ⟨erl rfl,erl rfl,erl rfl,erl rfl,erw rfl,trivial⟩ (oAl rfl)
  ·have h1:((⟨(nd l j).op.toArray⟩:ByteArray).toList==(⟨op.toArray⟩:ByteArray).toList)=false:=h1;rw [strB,decide_eq_false_iff_not]at h1;refine yF Tryz.func63 rfl trivial ?_;refine yF Tryz.func63 rfl trivial ?_;refine yS Tryz.func63 rfl trivial ?_;exact yE (ih (j+1) ⟨by omega,next fun hh=>h1 hh.1⟩ (by omega)) ⟨erl rfl,erl rfl,erl rfl,erl rfl,erw rfl,trivial⟩ (oAl rfl)
 ·obtain rfl:j=l.length:=by omega
  refine yR Tryz.func63 rfl trivial ?_;rw [ofV,zi4 hall];rfl
theorem zk0(caps:Array Value)(w:World)(hc:caps.size=3):CallsD Tryz.prog 91 caps .returning w fun e u' w'=>(∃v,e=.returned v)∧u'=.returning∧Later w w':=by
 obtain⟨a,b,c,rfl⟩:∃a b c,caps = #[a,b,c]:=by
  obtain⟨l⟩:=caps
  match l,hc with
  | [a,b,c],_=>exact⟨a,b,c,rfl⟩
 refine callsD_of_wpS Tryz.func91 rfl fun c₀ cs hu=>?_;apply wpS_seq;apply wpS_region;simp [wpOpsS,go_sem,recoverD,hu,Exit.thenS];apply wpS_seq;apply wpS_seq;apply wpS_region;simp [wpOpsS,go_sem,Exit.thenS];refine wpS_cond (t:=true) (by simp [Act.eval]) ?_;simp only [if_true];refine wpS_of_wp (wp_ret ?_);cases c₀
 simp_all [bodyPostS,results,Exit.thenS,Later.refl]
@[reducible] def cN:AObj:=.cells 47 [.d (.v (.slice none 0 0))]
@[reducible] def cE:AObj:=.cells 32 [.d (eI 0)]
@[reducible] def wO1(l:List Nd)(j:Nat)(id:Int)(s t:List Int)(vh:Value)(x:Nd):List (Option AObj):=
 [some (bBt l),some cN,some (cI 0),some cE,some (mpK [(kInit,.mp 5),(kNext,.mp 6)]),some (mpI s),some (mpI t),some (.cells 147 [.d (eNds l),.gs 8,.mp 4,.d (eI id)]),some (gIs (wL l j)),some (.hold (.gs 8) vh),some (bNd x)]
@[reducible] def wO2(l:List Nd)(j:Nat)(id:Int)(s t:List Int)(vh:Value)(x:Nd)(wd:Int):List (Option AObj):=
 za (dropO 8 (wO1 l j id s t vh x)) 8 (some (.grow 3 1 ((wL l j).map eI++[eI wd]) (catRd ((wL l j).map eI).length (fun i=>eI ((wL l j).getD i 0)) (litRd [eI wd]))))
@[reducible] def wB(l:List Nd)(j:Nat)(id:Int)(s t:List Int):List (Option AObj):=
 [some (bBt l),some cN,some (cI 0),some cE,some (mpK [(kInit,.mp 5),(kNext,.mp 6)]),some (mpI s),some (mpI t),some (.cells 147 [.d (eNds l),.gs 8,.mp 4,.d (eI id)]),some (gIs (wL l j))]
theorem zge(l:List Nd)(j:Nat)(id:Int)(s t:List Int):refsO 9 (wB l j id s t)=true:=by
 simp only [refsO,z6a,zaj,gL];rfl
theorem zmi:MFind (strK kNext) (([(kInit,AV.mp 5),(kNext,AV.mp 6)]:List (List UInt8×AV)).map fun p=>(strK p.1,p.2)) (some (.mp 6)):=.miss (zd7 (by decide)) .hit
theorem z96(l:List Nd)(hm:MdB l)(ty:Ty l):ACall Tryz.prog 61 [.d (eBt l)] [] (fun r o=>r=tupOf [.d (eIs (wL l l.length)),vI .i64 0,vI .i64 0]):=by
 refine yN Tryz.func61 fun C hC hCl hDs hGk=>?_;have hl:=ty.small;refine yX 10 Tryz.func61 rfl trivial ?_;refine zky rfl rfl rfl rfl rfl (fun d hoff=>?_);obtain⟨C',hC'⟩:∃C',{ C with ds:=d::C.ds }=C':=⟨_,rfl⟩
 have hD:C'.ds=[d]:=by rw [←hC',hDs]
 have hCo:C'.objs=[]:=by rw [←hC'];exact hC
 have hCl':C'.π.length=C'.objs.length:=by rw [←hC'];exact hCl
 have hGk':GOk Tryz.prog C'.π C'.objs C'.w:=by rw [←hC'];exact hGk
 rw [hC'];clear hC' hDs hCl hC hGk;have hof:OffTo 91 3 d:=hoff;refine yX 6 Tryz.func61 rfl trivial ?_;refine zk (es':=([(kInit,AV.mp 5)]:List (List UInt8×AV)).map fun p=>(strK p.1,p.2)) tabOk rfl rfl rfl rfl rfl rfl rfl rfl rfl rfl rfl rfl (by kernel_rfl) ?_ ?_
 ·exact z10 (k:=kInit) (es:=[]) (by intro p hp;cases hp)
 refine zt (env':=[(1,.ptr 0 0),(2,.ptr 1 0),(3,.ptr 2 0),(4,.ptr 3 0),(11,.d (eBt l)),(12,.mp 4),(13,.mp 5)]) (objs':=[some (bBt l),some cN,some (cI 0),some cE,some (mpK [(kInit,.mp 5)]),some (mpI [])]) ?_ hCo hCl' ⟨⟨_,rfl,.refl _⟩,⟨_,rfl,.refl _⟩,⟨_,rfl,.refl _⟩,⟨_,rfl,.refl _⟩,⟨_,rfl,.refl _⟩,⟨_,rfl,.refl _⟩,⟨_,rfl,.refl _⟩,trivial⟩ ⟨.refl _,.refl _,.refl _,.refl _,.refl _,.refl _,trivial⟩ rfl rfl (Nat.zero_le _);refine yX 1 Tryz.func61 rfl trivial ?_;refine zk (es':=([(kInit,AV.mp 5),(kNext,AV.mp 6)]:List (List UInt8×AV)).map fun p=>(strK p.1,p.2)) tabOk rfl rfl rfl rfl rfl rfl rfl rfl rfl rfl rfl rfl (by kernel_rfl) ?_ ?_
 ·exact z10 (k:=kNext) (es:=[(kInit,AV.mp 5)]) (by intro p hp;revert p;decide)
 refine zt (env':=[(1,.ptr 0 0),(2,.ptr 1 0),(3,.ptr 2 0),(4,.ptr 3 0),(11,.d (eBt l)),(12,.mp 4)]) (objs':=[some (bBt l),some cN,some (cI 0),some cE,some (mpK [(kInit,.mp 5),(kNext,.mp 6)]),some (mpI []),some (mpI [])]) ?_ hCo hCl' ⟨⟨_,rfl,.refl _⟩,⟨_,rfl,.refl _⟩,⟨_,rfl,.refl _⟩,⟨_,rfl,.refl _⟩,⟨_,rfl,.refl _⟩,⟨_,rfl,.refl _⟩,trivial⟩ ⟨.refl _,.refl _,.refl _,.refl _,.refl _,.refl _,.refl _,trivial⟩ rfl rfl (Nat.zero_le _);refine yS Tryz.func61 rfl trivial ?_;refine z2q 7 1 (e':=3) (s:=1) (fun i=>eI (([]:List Int).getD i 0)) rfl rfl ?_;refine z8 (α:=Nat) (fun j=>[(2,.ptr 1 0),(3,.ptr 2 0),(4,.ptr 3 0),(1,.ptr 0 0),(5,.ptr 7 0),(19,.d (eNds l)),(20,vI .i64 (l.length:Int)),(21,vI .i64 (j:Int))])
  (fun j=>[some (bBt l),some cN,some (cI 0),some cE,some (mpK [(kInit,.mp 5),(kNext,.mp 6)]),some (mpI (hadI l kInit j)),some (mpI (hadI l kNext j)),some (.cells 147 [.d (eNds l),.gs 8,.mp 4,.d (eI j)]),some (gIs (wL l j))])
  (fun j=>j≤l.length) (fun j=>l.length-j) 0 (Nat.zero_le _) ?_ ?_
 ·exact fun h=>zt h hCo hCl' ⟨⟨_,rfl,.refl _⟩,⟨_,rfl,.refl _⟩,⟨_,rfl,.refl _⟩,⟨_,rfl,.refl _⟩,⟨_,rfl,.refl _⟩,⟨_,rfl,.refl _⟩,⟨_,rfl,.of (by rw [List.length_map])⟩,⟨_,rfl,.refl _⟩,trivial⟩ ⟨.refl _,.refl _,.refl _,.refl _,.refl _,.refl _,.refl _,.refl _,.refl _,trivial⟩ rfl rfl (Nat.zero_le _)
 rintro j hj ih;refine yB Tryz.func61 rfl trivial (fun hb=>?_) (fun hb=>?_)<;>simp only [decide_eq_true_eq,decide_eq_false_iff_not]at hb
 ·have hlt:j<l.length:=by omega
  have ej:IntKind.i64.wrap ((j:Int)+1)=(j:Int)+1:=by rw [z7 (by omega) (by omega)]
  refine zad 8 rfl (fun vh hfl=>?_);obtain⟨wd,hwd⟩:∃wd,wN l (nd l j)=wd:=⟨_,rfl⟩
  obtain⟨s2,hs2⟩:∃s2,hadI l kInit (j+1)=s2:=⟨_,rfl⟩
  obtain⟨t2,ht2⟩:∃t2,hadI l kNext (j+1)=t2:=⟨_,rfl⟩
  have hcall:=zm3 l hm (by omega) j hlt ty.node ty.ty (hadI l kInit j) (hadI l kNext j) vh rfl rfl;rw [hwd,hs2,ht2]at hcall;refine zj5 10 9 7 [(9,some (40,.gs 8)),(4,some (35,.d (.v vh))),(7,some (38,vI .i64 wd)),(8,some (39,.d (.sl 1 [eI wd] (litRd [eI wd]))))]
   (wO1 l j ((j:Int)+1) s2 t2 vh (nd l j)) (wO2 l j ((j:Int)+1) s2 t2 vh (nd l j) wd) _ tabOk Tryz.func61 rfl rfl ?_ (by kernel_rfl) (by kernel_rfl) rfl rfl rfl rfl (yq rfl trivial rfl) (yq rfl trivial rfl) (yq rfl trivial rfl) ?_ ?_
  ·exact(by simp [andP]<;>omega)
  ·refine List.forall_mem_cons.2 ⟨⟨_,rfl,rfl,?_⟩,List.forall_mem_cons.2 ⟨⟨_,rfl,rfl,?_⟩,List.forall_mem_cons.2 ⟨⟨_,rfl,rfl,?_⟩,List.forall_mem_cons.2 ⟨⟨_,rfl,rfl,?_⟩,fun x h=>by cases h⟩⟩⟩⟩
   ·refine zjm (p:=9) (tv:=35) (E':=[(35,.gs 8),(39,.d (.sl 1 [eI wd] (litRd [eI wd])))]) tabOk rfl ?_ rfl rfl rfl rfl rfl (by kernel_rfl) (e8:=8) (by kernel_rfl) (by kernel_rfl) rfl rfl ?_ rfl rfl
    ·intro t b ht;rw [zu]at ht;split at ht
     ·rename_i e;subst e;cases ht;exact⟨List.mem_of_elem_eq_true (by kernel_rfl),.inl ⟨rfl,rfl⟩⟩
     ·rw [zu]at ht;split at ht
      ·rename_i e;subst e;cases ht;exact⟨List.mem_of_elem_eq_true (by kernel_rfl),.inr rfl⟩
      ·cases ht
    ·show((List.map eI (wL l j)).length+1)*8≤140737488355328;rw [List.length_map,z95];omega
   ·exact zmd (p:=9) tabOk rfl (fun _ _ _ h=>h) (by kernel_rfl) rfl rfl rfl rfl hfl (show(4:Nat)≠9 by decide) (show(4:Nat)≠7 by decide) rfl rfl rfl
   ·refine zgy [7,8,4,5,6,9] (e8:=8) (late:=40) (fun _ _ _ h=>h) rfl rfl (by kernel_rfl) (by kernel_rfl) rfl (by kernel_rfl) (by kernel_rfl) (show(7:Nat)≠9 by decide) rfl rfl rfl rfl rfl (zb Tryz.func92 rfl rfl) hcall ⟨⟨_,rfl,.of (by show AObj.cells _ [AV.d (eNds l),.gs 8,.mp 4,vI .i64 (IntKind.i64.wrap ((j:Int)+1))]=_;rw [ej];rfl)⟩,⟨_,rfl,.refl _⟩,⟨_,rfl,.refl _⟩,⟨_,rfl,.of (z3k _ _).symm⟩,⟨_,rfl,.of (z3k _ _).symm⟩,⟨_,rfl,.refl _⟩,trivial⟩ (.refl _) rfl rfl zw ?_;rintro r o ⟨rfl,rfl⟩;refine⟨rfl,?_⟩;show [some (bBt l),some cN,some (cI 0),some cE,some (mpK [(kInit,.mp 5),(kNext,.mp 6)]),some ((mpI s2).ren (rho [7,8,4,5,6,9] 11)),some ((mpI t2).ren (rho [7,8,4,5,6,9] 11)),some (.cells 147 [.d (eNds l),.gs 8,.mp 4,.d (eI ((j:Int)+1))]),some (gIs (wL l j)),some (.hold (.gs 8) vh),some (bNd (nd l j))]=_;rw [z3k,z3k]
   ·exact zjk tabOk rfl (fun _ _ _ h=>h) rfl rfl rfl (show(8:Nat)≠9 by decide) (show(8:Nat)≠7 by decide) trivial rfl rfl rfl
  ·refine yS Tryz.func61 rfl trivial ?_;refine zt (ih (j+1) (by omega) (by omega)) hCo hCl' ⟨⟨_,rfl,.refl _⟩,⟨_,rfl,.refl _⟩,⟨_,rfl,.refl _⟩,⟨_,rfl,.refl _⟩,⟨_,rfl,.refl _⟩,⟨_,rfl,.refl _⟩,⟨_,rfl,.refl _⟩,⟨_,rfl,.of (by rw [z7 (by omega) (by omega)];rfl)⟩,trivial⟩ ⟨.refl _,.refl _,.refl _,.refl _,.refl _,.of ((z9w 8 _).trans (by rw [hs2])),.of ((z9w 8 _).trans (by rw [ht2])),.of ?_,.gL ?_,trivial⟩ rfl ?_ (Nat.zero_le _)
   ·show AObj.cells _ [AV.d (eNds l),.gs 8,.mp 4,.d (eI ((j:Int)+1))]=_;rw [show((j+1:Nat):Int)=(j:Int)+1 by omega]
   ·rw [zg1,List.map_append,hwd];rfl
   ·exact zge _ _ _ _ _
 obtain rfl:j=l.length:=by omega
 clear ih;refine yV Tryz.func61 rfl trivial (z44 l ze hl) (.refl _) ?_;obtain⟨sts,hsts⟩:∃sts,allL l ze l.length=sts:=⟨_,rfl⟩
 have hsl:sts.length≤l.length:=by rw [←hsts];exact z1s _ _ _
 rw [hsts];refine yS Tryz.func61 rfl trivial ?_;refine z8 (α:=Nat×Int) (fun a=>[(2,.ptr 1 0),(3,.ptr 2 0),(4,.ptr 3 0),(5,.ptr 7 0),(45,.d (eIs sts)),(46,vI .i64 (sts.length:Int)),(47,vI .i64 (a.1:Int))])
  (fun a=>[some (bBt l),some cN,some (cI 0),some cE,some (mpK [(kInit,.mp 5),(kNext,.mp 6)]),some (mpI (hadI l kInit l.length)),some (mpI (hadI l kNext l.length)),some (.cells 147 [.d (eNds l),.gs 8,.mp 4,.d (eI a.2)]),some (gIs (wL l l.length))])
  (fun a=>a.1≤sts.length) (fun a=>sts.length-a.1) (0,(l.length:Int)) (Nat.zero_le _) ?_ ?_
 ·exact fun h=>zt h hCo hCl' ⟨⟨_,rfl,.refl _⟩,⟨_,rfl,.refl _⟩,⟨_,rfl,.refl _⟩,⟨_,rfl,.refl _⟩,⟨_,rfl,.refl _⟩,⟨_,rfl,.of (by rw [List.length_map])⟩,⟨_,rfl,.refl _⟩,trivial⟩ ⟨.refl _,.refl _,.refl _,.refl _,.refl _,.refl _,.refl _,.refl _,.refl _,trivial⟩ rfl (zge _ _ _ _ _) (Nat.zero_le _)
 rintro⟨j,id⟩ hj ih;have hj:j≤sts.length:=hj;refine yB Tryz.func61 rfl trivial (fun hb=>?_) (fun hb=>?_)<;>simp only [decide_eq_true_eq,decide_eq_false_iff_not]at hb
 ·have hlt:j<sts.length:=by omega
  have hmem:sts.getD j 0∈sts:=z11 0 hlt;have hnx:sts.getD j 0∈hadI l kNext l.length:=by
   rw [zdq];rw [←hsts]at hmem ⊢;obtain⟨h1,h2,h3⟩:=z88 hmem;have:=ty.ty.nx ((allL l ze l.length).getD j 0-1).toNat (by omega) h3;rwa [show((((allL l ze l.length).getD j 0-1).toNat:Nat):Int)+1=(allL l ze l.length).getD j 0 by omega]at this
  refine yX 24 Tryz.func61 rfl (by simp [andP]<;>omega) ?_;refine z26 tabOk rfl rfl rfl rfl rfl rfl rfl rfl rfl rfl rfl rfl (zmi) rfl ?_;refine yX 1 Tryz.func61 rfl trivial ?_;refine z26 tabOk rfl rfl rfl rfl rfl rfl rfl rfl rfl rfl rfl (z6z _) (zil hnx) rfl ?_;refine yV Tryz.func61 rfl trivial zq ⟨fun _ _ _ _ _=>.dead,.of rfl,fun _ _ _ _ _=>.dead,trivial⟩ ?_;refine yS Tryz.func61 rfl trivial ?_;exact zt (ih (j+1,sts.getD j 0) (show j+1≤sts.length by omega) (show sts.length-(j+1)<sts.length-j by omega)) hCo hCl' ⟨⟨_,rfl,.refl _⟩,⟨_,rfl,.refl _⟩,⟨_,rfl,.refl _⟩,⟨_,rfl,.refl _⟩,⟨_,rfl,.refl _⟩,⟨_,rfl,.refl _⟩,⟨_,rfl,.of (by rw [z7 (by omega) (by omega)];rfl)⟩,trivial⟩ ⟨.refl _,.refl _,.refl _,.refl _,.refl _,.refl _,.refl _,.refl _,.refl _,trivial⟩ rfl (zge _ _ _ _ _) (Nat.zero_le _)
 ·refine zj 8 rfl ?_;exact zoi hD hof (zb Tryz.func91 rfl rfl) zk0 tabOk Tryz.func61 rfl trivial rfl
end Go.Proofs.YtbodbhpdelgpnaaGreatDoor
namespace Ab
open Go
variable [Draws]
section
variable {P:Program}[Globals P]{T:Tab}{n:Nat}{env:Env}{objs:List (Option AObj)}{ops:Array Oper}{K:Env→Prop}{X:Nat→Prop}
theorem zn1{o:Oper}{r:List Oper}{e:Env}{u:Tmp}{name:String}{args:List Operand}{at_:Array TypeId}{t:TypeId}{a x:AV}{g:FuncId}{az bs:List AV}{R':AV→List (Option AObj)→Prop}{r0:AV}{v0:Value}
  (hfree:z4a o r (o.looksAt ops)=true) (halone:z2i o r=true) (hput:putE n o.dst r0 env=some e)
  (hw:wantE ops (restr env (o.looksAt ops)) o=.yes) (hop:o.op=.call { callee:=.invoke (.tmp u) name,args:=⟨args⟩,argTypes:=at_ }) (hu:opnd (restr env (o.looksAt ops)) (.tmp u)=some a) (ha:∀w ok π v,RelV w ok π a v→v=.iface t v0) (hx:∀w ok π,RelV w ok π x v0)
  (hm:∀w,(method (P.types.size+Made.depth) t v0 name).run P w=.ok (g,v0) w) (hargs:opnds (restr env (o.looksAt ops)) args=some az)
  (hc:ACall P g bs [] R') (hen:∀args w,(callFunc g args).run P w=.ok (.enter g args) w) (hr:∀r o,R' r o→r=r0) (hv:VLs (x::az) bs) (hd:refsBs 0 bs=true) (hr0:refsB 0 r0=true)
  (h:DSat P n X objs ops K r e):DSat P n X objs ops K (o::r) env:=by
 refine z6j hfree halone hput (fun envF g1 g2=>?_) h;intro π w tmps hn hmem hgk hlk;have he:=z3i g1 hlk;have hrecv:=zf (ds:=[]) he hu;have hvs:=z3h (ds:=[]) he hargs;have hv1:=ha _ _ _ _ hrecv;have hrun:(execOp (Act.eval ⟨tmps,[]⟩) o).run P w=.ok (.enter g (v0::args.map (Act.eval ⟨tmps,[]⟩)).toArray) w:=by
  unfold execOp;simp only [hop,resolve,invoke,Sem.run_bind,Sem.run_pure,Result.andThen_ok];simp [hv1,callMethod,run_program,hm,hen];rw [List.take_of_length_le (by simp)]
 have hall:RelVs w (okOf X π objs) π (x::az) (v0::args.map (Act.eval ⟨tmps,[]⟩)):=.cons (hx _ _ _) hvs;have h1:RelVs w (okOf (Xof X π objs) [] []) [] bs (v0::args.map (Act.eval ⟨tmps,[]⟩)):=(hv.rel hall).cut (m:=0) (fun b o u a1 a2=>⟨z8o.2 a1,a2⟩) (fun j _ hj=>absurd hj (Nat.not_lt_zero j)) hd;refine .inr ⟨(zm he).1 hw,.inr ⟨g,_,hrun,?_⟩⟩;rcases hc _ _ w _ hgk.nil (zay hmem) h1 with⟨_,hcl⟩|⟨v,w',hcl,_⟩
 ·refine Calls.mono hcl ?_;rintro e2 w2 ⟨v,r2,oo,π2,rfl,hR,hm2,hrel,hhist⟩;have hl:=z59 hhist;have hrr:=hr r2 oo hR;subst hrr;have hrv:RelV w2 (okOf X π objs) π r2 v:=by
   refine hrel.cut (m:=0) (fun b o u a1 a2=>⟨?_,a2⟩) (fun j _ hj=>absurd hj (Nat.not_lt_zero j)) hr0;exact z8o.1 ⟨a1.1,fun i o h h1=>by simp [nth]at h1⟩
  exact⟨v,rfl,hl,fun d hd=>by obtain⟨q1,b,q2,q3⟩:=g2 d hd;exact⟨q1,b,q2,q3 _ _ _ _ hrv⟩⟩
 ·rw [hen]at hcl;cases hcl
end
end Ab
namespace Go.Proofs.YtbodbhpdelgpnaaGreatDoor
open Go Ab
def onN(w x:Nat):Nat:=(bl w x.testBit).count true
def unR(op:List UInt8)(w x:Nat):AV:=
 if op=sNot then tupOf [.d (vN w (2^w-(x+1))),vI .i64 0]
 else if op=sInc then tupOf [.d (vN w ((x+1)%2^w)),vI .i64 0]
 else if op=sDec then tupOf [.d (vN w ((x+(2^w-1))%2^w)),vI .i64 0]
 else if op=sNeg then tupOf [.d (vN w ((0+(2^w-(x+1))+1)%2^w)),vI .i64 0]
 else if op=z62 then tupOf [.d (vN 1 (if onN w x=w then 1 else 0)),vI .i64 0]
 else if op=z97 then tupOf [.d (vN 1 (if 0<onN w x then 1 else 0)),vI .i64 0]
 else if op=z61 then tupOf [.d (vN 1 (if onN w x%2=1 then 1 else 0)),vI .i64 0]
 else tupOf [.d z24,vI .i64 1]
def binR(op:List UInt8)(w x y:Nat):Option (Nat×Nat):=
 if op=sAnd then some (w,x &&& y)else if op=sOr then some (w,x ||| y)else if op=sXor then some (w,x ^^^ y)
 else if op=sAdd then some (w,(x+y)%2^w)else if op=sSub then some (w,(x+(2^w-(y+1))+1)%2^w)else if op=sMul then some (w,x*y%2^w)
 else if op=sUdiv then some (w,quN w x y)else if op=sUrem then some (w,reN x y)
 else if op=sSll then some (w,x*2^(min y w)%2^w)else if op=sSrl then some (w,dnN w x (min y w) false w)else if op=sSra then some (w,dnN w x (min y w) (x.testBit (w-1)) w)
 else if op=sEq then some (1,if x=y then 1 else 0)else if op=sUlt then some (1,if x<y then 1 else 0)
 else if op=sSlt then some (1,if(x.testBit (w-1)&&!y.testBit (w-1))||((x.testBit (w-1)==y.testBit (w-1))&&decide (x<y))then 1 else 0)
 else none
theorem zsp{op:List UInt8}{w x y:Nat}(hx:x<2^w)(hy:y<2^w){p:Nat×Nat}(h:binR op w x y=some p):p.2<2^p.1∧p.1≤max w 1:=by
 have hp:=Nat.two_pow_pos w;unfold binR at h;by_cases c0:op=sAnd
 ·rw [if_pos c0]at h;cases h;exact⟨Nat.lt_of_le_of_lt Nat.and_le_left hx,by omega⟩
 rw [if_neg c0]at h;by_cases c1:op=sOr
 ·rw [if_pos c1]at h;cases h;exact⟨Nat.or_lt_two_pow hx hy,by omega⟩
 rw [if_neg c1]at h;by_cases c2:op=sXor
 ·rw [if_pos c2]at h;cases h;exact⟨Nat.xor_lt_two_pow hx hy,by omega⟩
 rw [if_neg c2]at h;by_cases c3:op=sAdd
 ·rw [if_pos c3]at h;cases h;exact⟨Nat.mod_lt _ hp,by omega⟩
 rw [if_neg c3]at h;by_cases c4:op=sSub
 ·rw [if_pos c4]at h;cases h;exact⟨Nat.mod_lt _ hp,by omega⟩
 rw [if_neg c4]at h;by_cases c5:op=sMul
 ·rw [if_pos c5]at h;cases h;exact⟨Nat.mod_lt _ hp,by omega⟩
 rw [if_neg c5]at h;by_cases c6:op=sUdiv
 ·rw [if_pos c6]at h;cases h;exact⟨zqg hx,by omega⟩
 rw [if_neg c6]at h;by_cases c7:op=sUrem
 ·rw [if_pos c7]at h;cases h;exact⟨Nat.lt_of_le_of_lt (zqf _ _) hx,by omega⟩
 rw [if_neg c7]at h;by_cases c8:op=sSll
 ·rw [if_pos c8]at h;cases h;exact⟨Nat.mod_lt _ hp,by omega⟩
 rw [if_neg c8]at h;by_cases c9:op=sSrl
 ·rw [if_pos c9]at h;cases h;exact⟨z6d _ _,by omega⟩
 rw [if_neg c9]at h;by_cases c10:op=sSra
 ·rw [if_pos c10]at h;cases h;exact⟨z6d _ _,by omega⟩
 rw [if_neg c10]at h;by_cases c11:op=sEq
 ·rw [if_pos c11]at h;cases h;exact⟨by show(if _ then 1 else 0)<2;split<;>omega,by omega⟩
 rw [if_neg c11]at h;by_cases c12:op=sUlt
 ·rw [if_pos c12]at h;cases h;exact⟨by show(if _ then 1 else 0)<2;split<;>omega,by omega⟩
 rw [if_neg c12]at h;by_cases c13:op=sSlt
 ·rw [if_pos c13]at h;cases h;exact⟨by show(if _ then 1 else 0)<2;split<;>omega,by omega⟩
 rw [if_neg c13]at h;cases h
def rbinA:Option (Nat×Nat)→AV
 | some p=>tupOf [.d (vN p.1 p.2),vI .i64 0]
 | none=>tupOf [.d z24,vI .i64 1]
def RepOk:Prop:=∀(c:UInt8) (n:Nat),n≤127→ACall Tryz.prog 208 [vSL [c],vI .i64 n] [] (fun r o=>r=vSL (List.replicate n c))
theorem zsw(w x v y:Nat)(hw:0<w)(hv:0<v)(hwb:w≤128)(hvb:v≤128)(h:w+v≤128):ACall Tryz.prog 234 [vSL z4t,.d (vN w x),.d (vN v y)] [] (fun r o=>r=tupOf [.d (vN (w+v) (jnN w x v y)),vI .i64 0]):=by
 refine yN Tryz.func234 fun C hC hCl hDs hGk=>?_;have hj:=zgt w x v y hw hv hwb hvb;simp only [if_pos h]at hj;refine yB Tryz.func234 rfl trivial (fun _=>?_) (fun h=>(strF (a:=z4t) (b:=z4t) rfl h).elim);refine yV Tryz.func234 rfl trivial hj (.refl _) ?_;exact yR Tryz.func234 rfl trivial rfl
theorem zkb{m x:Nat}(hx:x<2^m):x ^^^ 2^m=2^m+x:=by
 apply Nat.eq_of_testBit_eq;intro j;have h:=Nat.testBit_two_pow_mul_add 1 hx j;rw [Nat.mul_one]at h;rw [h,Nat.testBit_xor,Nat.testBit_two_pow];split
 ·rename_i hj;simp [show ¬m=j by omega]
 ·rename_i hj;rw [Nat.testBit_lt_two_pow (Nat.lt_of_lt_of_le hx (Nat.pow_le_pow_right (by decide) (by omega)))];by_cases e:m=j
  ·subst e;simp
  ·obtain⟨k,hk⟩:∃k,j-m=k+1:=⟨j-m-1,by omega⟩
   rw [hk];simp [e,Nat.testBit_succ]
theorem zg6{m x:Nat}(hx:x<2^(m+1)):x.testBit m=decide (2^m≤x):=by
 rw [Nat.testBit_eq_decide_div_mod_eq];rw [Nat.pow_succ]at hx;have:x / 2^m<2:=by rw [Nat.div_lt_iff_lt_mul (Nat.two_pow_pos _)];omega
 rw [Nat.mod_eq_of_lt this,decide_eq_decide];constructor
 ·intro h;have:=Nat.div_mul_le_self x (2^m);rw [h]at this;omega
 ·intro h;have:=Nat.div_pos h (Nat.two_pow_pos m);omega
theorem zka{m x:Nat}(hx:x<2^(m+1)):x ^^^ 2^m=if x.testBit m then x-2^m else 2^m+x:=by
 rw [zg6 hx];rw [Nat.pow_succ]at hx;by_cases h:2^m≤x
 ·simp only [h,decide_true,if_true];have:=zkb (m:=m) (x:=x-2^m) (by omega);rw [show 2^m+(x-2^m)=x by omega]at this
  conv=>lhs;rw [←this]
  rw [Nat.xor_assoc,Nat.xor_self,Nat.xor_zero]
 ·simp only [h,decide_false,Bool.false_eq_true,if_false];exact zkb (by omega)
theorem zt3{w x y:Nat}(hw:0<w)(hx:x<2^w)(hy:y<2^w):decide (x ^^^ 2^(w-1)<y ^^^ 2^(w-1))=((x.testBit (w-1)&&!y.testBit (w-1))||((x.testBit (w-1)==y.testBit (w-1))&&decide (x<y))):=by
 obtain⟨m,rfl⟩:∃m,w=m+1:=⟨w-1,by omega⟩
 rw [Nat.add_sub_cancel,zka hx,zka hy,zg6 hx,zg6 hy];rw [Nat.pow_succ]at hx hy;by_cases h1:2^m≤x<;>by_cases h2:2^m≤y<;>simp [h1,h2]<;>omega
theorem zqb{w x:Nat}(hw:0<w)(hx:x<2^w):x ^^^ 2^(w-1)<2^w:=Nat.xor_lt_two_pow hx (Nat.pow_lt_pow_right (by decide) (by omega))
theorem zo1{n X j:Nat}(hj:j / 64<n):(lmb n X).set (j / 64) ((lmb n X).getD (j / 64) 0 ^^^ 2^(j%64))=lmb n (X ^^^ 2^j):=by
 have hjl:j / 64<(lmb n X).length:=by rw [zr];exact hj
 refine zb0 (by rw [List.length_set,zr]) (zdu (z14 _ _) (Nat.xor_lt_two_pow (n:=64) (z29 (z14 _ _) _) (pow64 (Nat.mod_lt _ (by omega))))) fun i hi=>?_;rw [z4w,Nat.testBit_xor,Nat.testBit_two_pow,←z4q (n:=n) (X:=X) (i:=i) (by omega),z4w];by_cases e:i / 64=j / 64
 ·have e1:((lmb n X).set (j / 64) ((lmb n X).getD (j / 64) 0 ^^^ 2^(j%64))).getD (i / 64) 0=(lmb n X).getD (j / 64) 0 ^^^ 2^(j%64):=by
   rw [e];simp [hjl]
  rw [e1,Nat.testBit_xor,Nat.testBit_two_pow,e,decide_eq_decide.2 (show j%64=i%64↔j=i by omega)]
 ·have e1:((lmb n X).set (j / 64) ((lmb n X).getD (j / 64) 0 ^^^ 2^(j%64))).getD (i / 64) 0=(lmb n X).getD (i / 64) 0:=by
   simp [List.getElem?_set,Ne.symm e]
  rw [e1];have:¬j=i:=fun h=>e (by rw [h])
  simp [this]
theorem zm1(w x:Nat)(hx:x<2^w)(hwb:w≤100000):ACall Tryz.prog 237 [.d (vN w x)] [] (fun r o=>r=.ag [vI .i64 w,.gs 5]∧o=[none,none,none,none,none,some (gUs (lmb (z6 w) x))]):=by
 refine yN Tryz.func237 fun C hC hCl hDs hGk=>?_;refine yW [] Tryz.func237 rfl trivial (zd0 w 0 (lmb (z6 w) x) (z14 _ _) (zr _ _) hwb (by decide)) trivial (.refl _) ?_;have eup:upI (lmb (z6 w) x) w 0 (w-0)=lmb (z6 w) x:=by
  rw [zd1 (w-0) (Nat.le_refl _),Nat.sub_zero,Nat.mod_eq_of_lt hx,Nat.pow_zero,Nat.mul_one]
 rw [eup];exact yL Tryz.func237 rfl trivial (.refl _) (oAl rfl) ⟨rfl,rfl⟩ (o2:=[none,none,none,none,none,some (gUs (lmb (z6 w) x))])
theorem zeo(w x:Nat)(hx:x<2^w)(hw:0<w)(hwb:w≤100000):ACall Tryz.prog 239 [.d (vN w x),.ptr 0 0] [some (cV1 237)] (fun r o=>r=.ag [vI .i64 w,.gs 8]∧o=[some (cV1 237),none,none,none,none,none,none,none,some (gUs (lmb (z6 w) (x ^^^ 2^(w-1))))]):=by
 refine yN Tryz.func239 fun C hC hCl hDs hGk=>?_;refine yW [] Tryz.func239 rfl trivial (zm1 w x hx hwb) trivial (.refl _) ?_;have e0:IntKind.i64.wrap ((w:Int)-1)=((w-1:Nat):Int):=by rw [z7 (by omega) (by omega)];omega
 have e1:IntKind.i64.wrap (((w-1:Nat):Int).tdiv 64)=(((w-1) / 64:Nat):Int):=by rw [show((w-1:Nat):Int).tdiv 64=(((w-1) / 64:Nat):Int)from rfl,z7 (by omega) (by omega)]
 have e2:((w-1:Nat):Int).tmod 64=(((w-1)%64:Nat):Int):=rfl;have hm:(w-1)%64<64:=Nat.mod_lt _ (by omega);have hat:(w-1) / 64<z6 w:=z1o (by omega);refine yO 13 Tryz.func239 rfl trivial ?_;refine yq rfl ?_ ?_
 ·simp only [e0,e1,e2,Int.toNat_natCast,List.length_map,zr];exact⟨by omega,by decide,hat,⟨by omega,by omega⟩,by decide,trivial⟩
 refine yL Tryz.func239 rfl ?_ (.refl _) ⟨.refl _,.gL ?_,trivial⟩ ⟨rfl,rfl⟩ (o2:=[some (cV1 237),none,none,none,none,none,none,none,some (gUs (lmb (z6 w) (x ^^^ 2^(w-1))))])
 ·simp only [andP,e0,e1,Int.toNat_natCast,List.length_map,zr];exact⟨hat,⟨by omega,by omega⟩,trivial⟩
 ·simp only [e0,e1,e2,Int.toNat_natCast];rw [←zo1 hat,List.map_set];congr 1;show D.v (.int .u64 _)=D.v (.int .u64 _);have e3:IntKind.u64.wrap ((1:Int)*2^(min (((w-1)%64:Nat):Int).toNat IntKind.u64.bits))=((2^((w-1)%64):Nat):Int):=by
   have:=shlU (x:=1) hm;rw [Nat.one_mul,Nat.mod_eq_of_lt (pow64 hm)]at this;exact this
  rw [Int.toNat_natCast]at e3;rw [e3,xorU (z29 (z14 _ _) _) (pow64 hm)]
theorem za5(w x:Nat)(hx:x<2^w)(hw:0<w)(hwb:w≤100000):ACall Tryz.prog 239 [.d (vN w x),.ptr 0 0] [some (cV1 237)] (fun r o=>r=.d (vN w (x ^^^ 2^(w-1)))∧o=[some (cV1 237)]):=
 (zeo w x hx hw hwb).frzO [8] rfl (.agL (.refl _)) (o3:=[some (cV1 237)]) ⟨.refl _,trivial⟩ rfl rfl (Nat.le_refl _)
theorem zkh(w x y:Nat)(hx:x<2^w)(hy:y<2^w)(hw:0<w)(hwb:w≤100000):ACall Tryz.prog 249 [.d (vN w x),.d (vN w y)] [] (fun r o=>r=.d (vN w (quN w x y))):=by
 refine yN Tryz.func249 fun C hC hCl hDs hGk=>?_;refine yV Tryz.func249 rfl trivial (z9h w x y hx hy hw hwb) (.refl _) ?_;exact yR Tryz.func249 rfl trivial rfl
theorem zkg(w x y:Nat)(hx:x<2^w)(hy:y<2^w)(hw:0<w)(hwb:w≤100000):ACall Tryz.prog 251 [.d (vN w x),.d (vN w y)] [] (fun r o=>r=.d (vN w (reN x y))):=by
 refine yN Tryz.func251 fun C hC hCl hDs hGk=>?_;refine yV Tryz.func251 rfl trivial (z9h w x y hx hy hw hwb) (.refl _) ?_;exact yR Tryz.func251 rfl trivial rfl
theorem zo5(w x y:Nat)(hx:x<2^w)(hy:y<2^w)(hw:0<w)(hwb:w≤100000):ACall Tryz.prog 259 [.d (vN w x),.d (vN w y)] [] (fun r o=>r=.d (vN 1 (if x<y then 1 else 0))):=by
 refine yN Tryz.func259 fun C hC hCl hDs hGk=>?_;refine yV Tryz.func259 rfl trivial (z6y w x y hx hy hw (by omega)) (.refl _) ?_;refine yV Tryz.func259 rfl trivial (z40 (decide (x<y))) (.refl _) ?_;refine yR Tryz.func259 rfl trivial ?_;by_cases h:x<y<;>simp [h]<;>rfl
theorem zod(w x y:Nat)(hx:x<2^w)(hy:y<2^w)(hw:0<w)(hwb:w≤100000):ACall Tryz.prog 261 [.d (vN w x),.d (vN w y),.ptr 1 0] [some (cV1 237),some (cV2 239)]
  (fun r o=>r=.d (vN 1 (if(x.testBit (w-1)&&!y.testBit (w-1))||((x.testBit (w-1)==y.testBit (w-1))&&decide (x<y))then 1 else 0))∧o=[some (cV1 237),some (cV2 239)]):=by
 refine yN Tryz.func261 fun C hC hCl hDs hGk=>?_;refine zku 5 2 [0] tabOk Tryz.func261 rfl rfl (objs1:=[some (cV1 237),some (cV2 239),some (bN w x),some (bN w y),some zV]) (r0:=.d (vN w (x ^^^ 2^(w-1)))) trivial (by kernel_rfl) (by decide) (by kernel_rfl) rfl (yq rfl trivial rfl) (yq rfl trivial rfl) rfl rfl rfl rfl (zb Tryz.func239 rfl rfl) (za5 w x hx hw hwb) ⟨⟨_,rfl,.refl _⟩,trivial⟩ (.refl _) rfl rfl rfl ?_ rfl ?_
 ·rintro r o ⟨rfl,rfl⟩;exact⟨rfl,rfl⟩
 refine yW [0] Tryz.func261 rfl trivial (za5 w y hy hw hwb) ⟨⟨_,rfl,.refl _⟩,trivial⟩ (.refl _) ?_;refine yV Tryz.func261 rfl trivial (z6y w (x ^^^ 2^(w-1)) (y ^^^ 2^(w-1)) (zqb hw hx) (zqb hw hy) hw (by omega)) (.refl _) ?_;rw [zt3 hw hx hy];refine yV Tryz.func261 rfl trivial (z40 _) (.refl _) ?_;exact yL Tryz.func261 rfl trivial (.refl _) (oAl rfl) ⟨rfl,rfl⟩ (o2:=[some (cV1 237),some (cV2 239)])
theorem zgg(w x:Nat)(hx:x<2^w)(hwb:w≤100000):ACall Tryz.prog 222 [.d (vN w x)] [] (fun r o=>r=.d (vN 1 (if cnt x.testBit w=w then 1 else 0))):=by
 refine yN Tryz.func222 fun C hC hCl hDs hGk=>?_;refine yO 4 Tryz.func222 rfl trivial ?_;refine yQ Tryz.func224 rfl trivial (zaq w x hx (by omega)) (.refl _) ?_;refine yq rfl trivial ?_;refine yV Tryz.func222 rfl trivial (z40 _) (.refl _) ?_;refine yR Tryz.func222 rfl trivial ?_;by_cases h:cnt x.testBit w=w
 ·rw [if_pos h,h];simp;rfl
 ·have:¬((cnt x.testBit w:Nat):Int)=(w:Int):=by omega
  rw [if_neg h];simp [this];rfl
theorem zj9(w x:Nat)(hx:x<2^w)(hwb:w≤100000):ACall Tryz.prog 225 [.d (vN w x)] [] (fun r o=>r=.d (vN 1 (if 0<cnt x.testBit w then 1 else 0))):=by
 refine yN Tryz.func225 fun C hC hCl hDs hGk=>?_;refine yV Tryz.func225 rfl trivial (zaq w x hx (by omega)) (.refl _) ?_;refine yV Tryz.func225 rfl trivial (z40 _) (.refl _) ?_;refine yR Tryz.func225 rfl trivial ?_;by_cases h:0<cnt x.testBit w
 ·have:((cnt x.testBit w:Nat):Int)>0:=by omega
  rw [if_pos h];simp [h];rfl
 ·have:¬((cnt x.testBit w:Nat):Int)>0:=by omega
  rw [if_neg h];simp [h];rfl
theorem zgf(w x:Nat)(hx:x<2^w)(hwb:w≤100000):ACall Tryz.prog 226 [.d (vN w x)] [] (fun r o=>r=.d (vN 1 (if cnt x.testBit w%2=1 then 1 else 0))):=by
 refine yN Tryz.func226 fun C hC hCl hDs hGk=>?_;refine yV Tryz.func226 rfl trivial (zaq w x hx (by omega)) (.refl _) ?_;refine yV Tryz.func226 rfl ⟨by decide,trivial⟩ (z40 _) (.refl _) ?_;refine yR Tryz.func226 rfl trivial ?_;have e:((cnt x.testBit w:Nat):Int).tmod 2=((cnt x.testBit w%2:Nat):Int):=rfl;have e2:((((cnt x.testBit w).cast:Int).tmod 2)==1)=decide (cnt x.testBit w%2=1):=by
  rw [e];by_cases h:cnt x.testBit w%2=1
  ·rw [h];rfl
  ·have h0:cnt x.testBit w%2=0:=by omega
   rw [h0];rfl
 rw [e2];by_cases h:cnt x.testBit w%2=1<;>simp [h]<;>rfl
theorem zro(w x:Nat):onN w x=cnt x.testBit w:=zfv _ _
theorem z19{k j:List UInt8}{a:AV}{r:List (List UInt8×AV)}(h:¬k=j):z2m k ((j,a)::r)=z2m k r:=by
 rw [z2m,if_neg fun e=>h e.symm]
theorem ztn(op:List UInt8)(w x:Nat)(hx:x<2^w)(hw:0<w)(hwb:w≤128):ACall Tryz.prog 214 [vSL op,.d (vN w x)] [] (fun r o=>r=unR op w x):=by
 have hdec:=zpu w x hw (by omega);have hp:2≤2^w:=by
  have:=Nat.pow_le_pow_right (n:=2) (by decide) hw;rwa [Nat.pow_one]at this
 rw [show x+(2^w-(1+1))+1=x+(2^w-1)by omega]at hdec;unfold unR;rw [zro];by_cases h0:op=sNot
 ·rw [if_pos h0];subst h0;exact Un_fn sNot _ w x _ _ rfl (z2s w x hx hw (by omega))
 by_cases h1:op=sInc
 ·rw [if_neg h0,if_pos h1];subst h1;exact Un_cl sInc _ w x _ _ rfl (zpa w x hw (by omega))
 by_cases h2:op=sDec
 ·rw [if_neg h0,if_neg h1,if_pos h2];subst h2;exact Un_cl sDec _ w x _ _ rfl (hdec)
 by_cases h3:op=sNeg
 ·rw [if_neg h0,if_neg h1,if_neg h2,if_pos h3];subst h3;exact Un_fn sNeg _ w x _ _ rfl (zoy w x hx hw (by omega))
 by_cases h4:op=z62
 ·rw [if_neg h0,if_neg h1,if_neg h2,if_neg h3,if_pos h4];subst h4;exact Un_fn z62 _ w x _ _ rfl (zgg w x hx (by omega))
 by_cases h5:op=z97
 ·rw [if_neg h0,if_neg h1,if_neg h2,if_neg h3,if_neg h4,if_pos h5];subst h5;exact Un_fn z97 _ w x _ _ rfl (zj9 w x hx (by omega))
 by_cases h6:op=z61
 ·rw [if_neg h0,if_neg h1,if_neg h2,if_neg h3,if_neg h4,if_neg h5,if_pos h6];subst h6;exact Un_fn z61 _ w x _ _ rfl (zgf w x hx (by omega))
 rw [if_neg h0,if_neg h1,if_neg h2,if_neg h3,if_neg h4,if_neg h5,if_neg h6];refine Un_no op w x ?_;unfold unsE;rw [z19 h0,z19 h1,z19 h2,z19 h3,z19 h4,z19 h5,z19 h6];rfl
theorem zsx(op:List UInt8)(w x y:Nat)(hc:op≠z4t)(hx:x<2^w)(hy:y<2^w)(hw:0<w)(hwb:w≤128):ACall Tryz.prog 234 [vSL op,.d (vN w x),.d (vN w y)] [] (fun r o=>r=rbinA (binR op w x y)):=by
 unfold binR;by_cases h0:op=sAnd
 ·rw [if_pos h0];subst h0;exact z5g sAnd _ w x y _ _ hc rfl (znm w x y hx hw (by omega))
 by_cases h1:op=sOr
 ·rw [if_neg h0,if_pos h1];subst h1;exact z5g sOr _ w x y _ _ hc rfl (zoo w x y hx hy hw (by omega))
 by_cases h2:op=sXor
 ·rw [if_neg h0,if_neg h1,if_pos h2];subst h2;exact z5g sXor _ w x y _ _ hc rfl (zkc w x y hx hy hw (by omega))
 by_cases h3:op=sAdd
 ·rw [if_neg h0,if_neg h1,if_neg h2,if_pos h3];subst h3;exact z5g sAdd _ w x y _ _ hc rfl (zq4 w x y hw (by omega))
 by_cases h4:op=sSub
 ·rw [if_neg h0,if_neg h1,if_neg h2,if_neg h3,if_pos h4];subst h4;exact z5g sSub _ w x y _ _ hc rfl (zoa w x y hy hw (by omega))
 by_cases h5:op=sMul
 ·rw [if_neg h0,if_neg h1,if_neg h2,if_neg h3,if_neg h4,if_pos h5];subst h5;exact z5g sMul _ w x y _ _ hc rfl (zdf w x y hy hw (by omega))
 by_cases h6:op=sUdiv
 ·rw [if_neg h0,if_neg h1,if_neg h2,if_neg h3,if_neg h4,if_neg h5,if_pos h6];subst h6;exact z5g sUdiv _ w x y _ _ hc rfl (zkh w x y hx hy hw (by omega))
 by_cases h7:op=sUrem
 ·rw [if_neg h0,if_neg h1,if_neg h2,if_neg h3,if_neg h4,if_neg h5,if_neg h6,if_pos h7];subst h7;exact z5g sUrem _ w x y _ _ hc rfl (zkg w x y hx hy hw (by omega))
 by_cases h8:op=sSll
 ·rw [if_neg h0,if_neg h1,if_neg h2,if_neg h3,if_neg h4,if_neg h5,if_neg h6,if_neg h7,if_pos h8];subst h8;exact z5g sSll _ w x y _ _ hc rfl (zoe w x y hy hw hwb)
 by_cases h9:op=sSrl
 ·rw [if_neg h0,if_neg h1,if_neg h2,if_neg h3,if_neg h4,if_neg h5,if_neg h6,if_neg h7,if_neg h8,if_pos h9];subst h9;exact z5g sSrl _ w x y _ _ hc rfl (zob w x y hy hw hwb)
 by_cases h10:op=sSra
 ·rw [if_neg h0,if_neg h1,if_neg h2,if_neg h3,if_neg h4,if_neg h5,if_neg h6,if_neg h7,if_neg h8,if_neg h9,if_pos h10];subst h10;exact z5g sSra _ w x y _ _ hc rfl (zoc w x y hy hw hwb)
 by_cases h11:op=sEq
 ·rw [if_neg h0,if_neg h1,if_neg h2,if_neg h3,if_neg h4,if_neg h5,if_neg h6,if_neg h7,if_neg h8,if_neg h9,if_neg h10,if_pos h11];subst h11;exact z5g sEq _ w x y _ _ hc rfl (zsd w x y hx hy)
 by_cases h12:op=sUlt
 ·rw [if_neg h0,if_neg h1,if_neg h2,if_neg h3,if_neg h4,if_neg h5,if_neg h6,if_neg h7,if_neg h8,if_neg h9,if_neg h10,if_neg h11,if_pos h12];subst h12;exact z5g sUlt _ w x y _ _ hc rfl (zo5 w x y hx hy hw (by omega))
 by_cases h13:op=sSlt
 ·rw [if_neg h0,if_neg h1,if_neg h2,if_neg h3,if_neg h4,if_neg h5,if_neg h6,if_neg h7,if_neg h8,if_neg h9,if_neg h10,if_neg h11,if_neg h12,if_pos h13];subst h13;exact zts sSlt _ w x y _ _ hc rfl (zod w x y hx hy hw (by omega))
 rw [if_neg h0,if_neg h1,if_neg h2,if_neg h3,if_neg h4,if_neg h5,if_neg h6,if_neg h7,if_neg h8,if_neg h9,if_neg h10,if_neg h11,if_neg h12,if_neg h13];refine ztr op z24 z24 w w _ _ hc ?_;unfold binsE;rw [z19 h0,z19 h1,z19 h2,z19 h3,z19 h4,z19 h5,z19 h6,z19 h7,z19 h8,z19 h9,z19 h10,z19 h11,z19 h12,z19 h13];rfl
end Go.Proofs.YtbodbhpdelgpnaaGreatDoor
