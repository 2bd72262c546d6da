/- A part of the proof. -/
import Derived.Test.YtbodbhpdelgpnaaGreatDoorP16
import Derived.Tactics
import Derived.Tactics2
set_option linter.unusedVariables false
set_option linter.unusedSimpArgs false
set_option linter.unusedSectionVars false
set_option maxRecDepth 100000
set_option maxHeartbeats 8000000
namespace Go.Proofs.YtbodbhpdelgpnaaGreatDoor
open Go Ab
theorem z4k(l:List Nd)(op:List UInt8)(hl:l.length<1000000):ACall Tryz.prog 62 [.d (eBt l),vSL op] [] (fun r o=>r=.d (eIs (allL l op l.length))):=by
 refine yN Tryz.func62 fun C hC hCl hDs hGk=>?_;refine yS Tryz.func62 rfl trivial ?_;refine z1j (s:=1) (e:=3) (t:=5) (.inl rfl) (fun i=>eI (([]:List Int).getD i 0)) ?_;refine z8 (α:=Nat) (fun j=>[(1,vSL op),(5,.gs 1),(9,.d (eNds l)),(10,vI .i64 (l.length:Int)),(11,vI .i64 (j:Int))]) (fun j=>[some (bBt l),some (gIs (allL l op j))]) (fun j=>j≤l.length) (fun j=>l.length-j) 0 (Nat.zero_le _) ?_ ?_
 ·exact fun h=>yE h ⟨erl rfl,erl rfl,erl rfl,⟨_,rfl,.of (by rw [List.length_map])⟩,erl rfl,trivial⟩ (oAl rfl)
 rintro j hj ih;have hal:=z1f l op j;refine yB Tryz.func62 rfl trivial (fun hb=>?_) (fun hb=>?_)<;>simp only [decide_eq_true_eq,decide_eq_false_iff_not]at hb
 ·have hlt:j<l.length:=by omega
  have ej:IntKind.i64.wrap ((j:Int)+1)=(j:Int)+1:=by rw [z6 (by omega) (by omega)]
  refine yB Tryz.func62 rfl (by simp [andP]<;>omega) (fun h1=>?_) (fun h1=>?_)
  ·have h1:((⟨(nd l j).op.toArray⟩:ByteArray).toList==(⟨op.toArray⟩:ByteArray).toList)=true:=h1;rw [strB,decide_eq_true_eq]at h1;refine yS Tryz.func62 rfl ?_ ?_
   ·show((List.map eI (allL l op j)).length+1)*8≤140737488355328∧True;rw [List.length_map];exact⟨by omega,trivial⟩
   refine yE (ih (j+1) (by omega) (by omega)) ⟨erl rfl,erl rfl,erl rfl,erl rfl,erw rfl,trivial⟩ ⟨.refl _,.gL ?_,trivial⟩;rw [z3b,if_pos h1,List.map_append];show _++[eI (IntKind.i64.wrap ((j:Int)+1))]=_;rw [ej];rfl
  ·have h1:((⟨(nd l j).op.toArray⟩:ByteArray).toList==(⟨op.toArray⟩:ByteArray).toList)=false:=h1;rw [strB,decide_eq_false_iff_not]at h1;refine yS Tryz.func62 rfl trivial ?_;refine yE (ih (j+1) (by omega) (by omega)) ⟨erl rfl,erl rfl,erl rfl,erl rfl,erw rfl,trivial⟩ ⟨.refl _,.gL ?_,trivial⟩;rw [z3b,if_neg h1,List.append_nil]
 ·obtain rfl:j=l.length:=by omega
  refine za 1 rfl ?_;exact yR Tryz.func62 rfl trivial rfl
theorem zik(l:List Nd)(op:List UInt8)(st:Int)(hl:l.length<1000000)(ha:∀j,j<l.length→(nd l j).op=op→(nd l j).a.length=2):
  ACall Tryz.prog 63 [.d (eBt l),vSL op,vI .i64 st] [] (fun r o=>r=tupOf [vI .i64 (ofV l op st),vB (ofJ l op st).isSome]):=by
 refine yN Tryz.func63 fun C hC hCl hDs hGk=>?_;refine yS Tryz.func63 rfl trivial ?_;refine z8 (α:=Nat) (fun j=>[(1,vSL op),(2,vI .i64 st),(11,.d (eNds l)),(12,vI .i64 (l.length:Int)),(13,vI .i64 (j:Int))]) (fun j=>[some (bBt l)]) (fun j=>j≤l.length∧∀q,q<j→¬((nd l q).op=op∧(nd l q).a.getD 0 0=st)) (fun j=>l.length-j) 0 ⟨Nat.zero_le _,fun q hq=>by omega⟩ ?_ ?_
 ·exact fun h=>yE h ⟨erl rfl,erl rfl,erl rfl,⟨_,rfl,.of (by rw [List.length_map])⟩,erl rfl,trivial⟩ (oAl rfl)
 rintro j ⟨hj,hall⟩ ih;refine yB Tryz.func63 rfl trivial (fun hb=>?_) (fun hb=>?_)<;>simp only [decide_eq_true_eq,decide_eq_false_iff_not]at hb
 ·have hlt:j<l.length:=by omega
  have next:¬((nd l j).op=op∧(nd l j).a.getD 0 0=st)→∀q,q<j+1→¬((nd l q).op=op∧(nd l q).a.getD 0 0=st):=fun h q hq=>by
   rcases Nat.lt_or_ge q j with h2|h2
   ·exact hall q h2
   ·obtain rfl:q=j:=by omega
    exact h
  refine yB Tryz.func63 rfl (by simp [andP]<;>omega) (fun h1=>?_) (fun h1=>?_)
  ·have h1:((⟨(nd l j).op.toArray⟩:ByteArray).toList==(⟨op.toArray⟩:ByteArray).toList)=true:=h1;rw [strB,decide_eq_true_eq]at h1;have hal:=ha j hlt h1;refine yB Tryz.func63 rfl trivial (fun h3=>?_) (fun h3=>?_);rotate_left
   ·have h3:decide ((((nd l j).a.map eI).length:Int)>1)=false:=h3;rw [List.length_map,decide_eq_false_iff_not]at h3;omega
   refine yB Tryz.func63 rfl ⟨⟨Int.le_refl _,by rw [List.length_map];show(0:Int)<(((nd l j).a.length:Nat):Int);omega⟩,trivial⟩ (fun h2=>?_) (fun h2=>?_)
   ·have h2:((nd l j).a.getD 0 0==st)=true:=h2;refine yR Tryz.func63 rfl ⟨⟨by decide,by rw [List.length_map];show(1:Int)<(((nd l j).a.length:Nat):Int);omega⟩,trivial⟩ ?_;rw [ofV,zj0 hlt h1 (eq_of_beq h2) hall];rfl
   ·have h2:((nd l j).a.getD 0 0==st)=false:=h2;refine yS Tryz.func63 rfl trivial ?_;exact yE (ih (j+1) ⟨by omega,next fun hh=>by rw [hh.2]at h2;simp at h2⟩ (by omega)) ⟨erl rfl,erl rfl,erl rfl,erl rfl,erw rfl,trivial⟩ (oAl rfl)
  ·have h1:((⟨(nd l j).op.toArray⟩:ByteArray).toList==(⟨op.toArray⟩:ByteArray).toList)=false:=h1;rw [strB,decide_eq_false_iff_not]at h1;refine yF Tryz.func63 rfl trivial ?_;refine yF Tryz.func63 rfl trivial ?_;refine yS Tryz.func63 rfl trivial ?_;exact yE (ih (j+1) ⟨by omega,next fun hh=>h1 hh.1⟩ (by omega)) ⟨erl rfl,erl rfl,erl rfl,erl rfl,erw rfl,trivial⟩ (oAl rfl)
 ·obtain rfl:j=l.length:=by omega
  refine yR Tryz.func63 rfl trivial ?_;rw [ofV,zj1 hall];rfl
theorem zl1(caps:Array Value)(w:World)(hc:caps.size=3):CallsD Tryz.prog 91 caps .returning w fun e u' w'=>(∃v,e=.returned v)∧u'=.returning∧Later w w':=by
 obtain⟨a,b,c,rfl⟩:∃a b c,caps = #[a,b,c]:=by
  obtain⟨l⟩:=caps
  match l,hc with
  | [a,b,c],_=>exact⟨a,b,c,rfl⟩
 refine callsD_of_wpS Tryz.func91 rfl fun c₀ cs hu=>?_;apply wpS_seq;apply wpS_region;simp [wpOpsS,go_sem,recoverD,hu,Exit.thenS];apply wpS_seq;apply wpS_seq;apply wpS_region;simp [wpOpsS,go_sem,Exit.thenS];refine wpS_cond (t:=true) (by simp [Act.eval]) ?_;simp only [if_true];refine wpS_of_wp (wp_ret ?_);cases c₀
 simp_all [bodyPostS,results,Exit.thenS,Later.refl]
@[reducible] def cN:AObj:=.cells 47 [.d (.v (.slice none 0 0))]
@[reducible] def cE:AObj:=.cells 32 [.d (eI 0)]
@[reducible] def wO1(l:List Nd)(j:Nat)(id:Int)(s t:List Int)(vh:Value)(x:Nd):List (Option AObj):=
 [some (bBt l),some cN,some (cI 0),some cE,some (mpK [(kInit,.mp 5),(kNext,.mp 6)]),some (mpI s),some (mpI t),some (.cells 147 [.d (eNds l),.gs 8,.mp 4,.d (eI id)]),some (gIs (wL l j)),some (.hold (.gs 8) vh),some (bNd x)]
@[reducible] def wO2(l:List Nd)(j:Nat)(id:Int)(s t:List Int)(vh:Value)(x:Nd)(wd:Int):List (Option AObj):=
 zb (dropO 8 (wO1 l j id s t vh x)) 8 (some (.grow 3 1 ((wL l j).map eI++[eI wd]) (catRd ((wL l j).map eI).length (fun i=>eI ((wL l j).getD i 0)) (litRd [eI wd]))))
@[reducible] def wB(l:List Nd)(j:Nat)(id:Int)(s t:List Int):List (Option AObj):=
 [some (bBt l),some cN,some (cI 0),some cE,some (mpK [(kInit,.mp 5),(kNext,.mp 6)]),some (mpI s),some (mpI t),some (.cells 147 [.d (eNds l),.gs 8,.mp 4,.d (eI id)]),some (gIs (wL l j))]
theorem zhb(l:List Nd)(j:Nat)(id:Int)(s t:List Int):refsO 9 (wB l j id s t)=true:=by
 simp only [refsO,z6m,zb2,gL];rfl
theorem znr:MFind (strK kNext) (([(kInit,AV.mp 5),(kNext,AV.mp 6)]:List (List UInt8×AV)).map fun p=>(strK p.1,p.2)) (some (.mp 6)):=.miss (ze2 (by decide)) .hit
theorem z9f(l:List Nd)(hm:MdB l)(ty:Ty l):ACall Tryz.prog 61 [.d (eBt l)] [] (fun r o=>r=tupOf [.d (eIs (wL l l.length)),vI .i64 0,vI .i64 0]):=by
 refine yN Tryz.func61 fun C hC hCl hDs hGk=>?_;have hl:=ty.small;refine yX 10 Tryz.func61 rfl trivial ?_;refine zly rfl rfl rfl rfl rfl (fun d hoff=>?_);obtain⟨C',hC'⟩:∃C',{ C with ds:=d::C.ds }=C':=⟨_,rfl⟩
 have hD:C'.ds=[d]:=by rw [←hC',hDs]
 have hCo:C'.objs=[]:=by rw [←hC'];exact hC
 have hCl':C'.π.length=C'.objs.length:=by rw [←hC'];exact hCl
 have hGk':GOk Tryz.prog C'.π C'.objs C'.w:=by rw [←hC'];exact hGk
 rw [hC'];clear hC' hDs hCl hC hGk;have hof:OffTo 91 3 d:=hoff;refine yX 6 Tryz.func61 rfl trivial ?_;refine zn (es':=([(kInit,AV.mp 5)]:List (List UInt8×AV)).map fun p=>(strK p.1,p.2)) tabOk rfl rfl rfl rfl rfl rfl rfl rfl rfl rfl rfl rfl (by kernel_rfl) ?_ ?_
 ·exact zz (k:=kInit) (es:=[]) (by intro p hp;cases hp)
 refine zv (env':=[(1,.ptr 0 0),(2,.ptr 1 0),(3,.ptr 2 0),(4,.ptr 3 0),(11,.d (eBt l)),(12,.mp 4),(13,.mp 5)]) (objs':=[some (bBt l),some cN,some (cI 0),some cE,some (mpK [(kInit,.mp 5)]),some (mpI [])]) ?_ hCo hCl' ⟨⟨_,rfl,.refl _⟩,⟨_,rfl,.refl _⟩,⟨_,rfl,.refl _⟩,⟨_,rfl,.refl _⟩,⟨_,rfl,.refl _⟩,⟨_,rfl,.refl _⟩,⟨_,rfl,.refl _⟩,trivial⟩ ⟨.refl _,.refl _,.refl _,.refl _,.refl _,.refl _,trivial⟩ rfl rfl (Nat.zero_le _);refine yX 1 Tryz.func61 rfl trivial ?_;refine zn (es':=([(kInit,AV.mp 5),(kNext,AV.mp 6)]:List (List UInt8×AV)).map fun p=>(strK p.1,p.2)) tabOk rfl rfl rfl rfl rfl rfl rfl rfl rfl rfl rfl rfl (by kernel_rfl) ?_ ?_
 ·exact zz (k:=kNext) (es:=[(kInit,AV.mp 5)]) (by intro p hp;revert p;decide)
 refine zv (env':=[(1,.ptr 0 0),(2,.ptr 1 0),(3,.ptr 2 0),(4,.ptr 3 0),(11,.d (eBt l)),(12,.mp 4)]) (objs':=[some (bBt l),some cN,some (cI 0),some cE,some (mpK [(kInit,.mp 5),(kNext,.mp 6)]),some (mpI []),some (mpI [])]) ?_ hCo hCl' ⟨⟨_,rfl,.refl _⟩,⟨_,rfl,.refl _⟩,⟨_,rfl,.refl _⟩,⟨_,rfl,.refl _⟩,⟨_,rfl,.refl _⟩,⟨_,rfl,.refl _⟩,trivial⟩ ⟨.refl _,.refl _,.refl _,.refl _,.refl _,.refl _,.refl _,trivial⟩ rfl rfl (Nat.zero_le _);refine yS Tryz.func61 rfl trivial ?_;refine z2r 7 1 (e':=3) (s:=1) (fun i=>eI (([]:List Int).getD i 0)) rfl rfl ?_;refine z8 (α:=Nat) (fun j=>[(2,.ptr 1 0),(3,.ptr 2 0),(4,.ptr 3 0),(1,.ptr 0 0),(5,.ptr 7 0),(19,.d (eNds l)),(20,vI .i64 (l.length:Int)),(21,vI .i64 (j:Int))])
  (fun j=>[some (bBt l),some cN,some (cI 0),some cE,some (mpK [(kInit,.mp 5),(kNext,.mp 6)]),some (mpI (hadI l kInit j)),some (mpI (hadI l kNext j)),some (.cells 147 [.d (eNds l),.gs 8,.mp 4,.d (eI j)]),some (gIs (wL l j))])
  (fun j=>j≤l.length) (fun j=>l.length-j) 0 (Nat.zero_le _) ?_ ?_
 ·exact fun h=>zv h hCo hCl' ⟨⟨_,rfl,.refl _⟩,⟨_,rfl,.refl _⟩,⟨_,rfl,.refl _⟩,⟨_,rfl,.refl _⟩,⟨_,rfl,.refl _⟩,⟨_,rfl,.refl _⟩,⟨_,rfl,.of (by rw [List.length_map])⟩,⟨_,rfl,.refl _⟩,trivial⟩ ⟨.refl _,.refl _,.refl _,.refl _,.refl _,.refl _,.refl _,.refl _,.refl _,trivial⟩ rfl rfl (Nat.zero_le _)
 rintro j hj ih;refine yB Tryz.func61 rfl trivial (fun hb=>?_) (fun hb=>?_)<;>simp only [decide_eq_true_eq,decide_eq_false_iff_not]at hb
 ·have hlt:j<l.length:=by omega
  have ej:IntKind.i64.wrap ((j:Int)+1)=(j:Int)+1:=by rw [z6 (by omega) (by omega)]
  refine zav 8 rfl (fun vh hfl=>?_);obtain⟨wd,hwd⟩:∃wd,wN l (nd l j)=wd:=⟨_,rfl⟩
  obtain⟨s2,hs2⟩:∃s2,hadI l kInit (j+1)=s2:=⟨_,rfl⟩
  obtain⟨t2,ht2⟩:∃t2,hadI l kNext (j+1)=t2:=⟨_,rfl⟩
  have hcall:=znb l hm (by omega) j hlt ty.node ty.ty (hadI l kInit j) (hadI l kNext j) vh rfl rfl;rw [hwd,hs2,ht2]at hcall;refine zk5 10 9 7 [(9,some (40,.gs 8)),(4,some (35,.d (.v vh))),(7,some (38,vI .i64 wd)),(8,some (39,.d (.sl 1 [eI wd] (litRd [eI wd]))))]
   (wO1 l j ((j:Int)+1) s2 t2 vh (nd l j)) (wO2 l j ((j:Int)+1) s2 t2 vh (nd l j) wd) _ tabOk Tryz.func61 rfl rfl ?_ (by kernel_rfl) (by kernel_rfl) rfl rfl rfl rfl (yq rfl trivial rfl) (yq rfl trivial rfl) (yq rfl trivial rfl) ?_ ?_
  ·exact(by simp [andP]<;>omega)
  ·refine List.forall_mem_cons.2 ⟨⟨_,rfl,rfl,?_⟩,List.forall_mem_cons.2 ⟨⟨_,rfl,rfl,?_⟩,List.forall_mem_cons.2 ⟨⟨_,rfl,rfl,?_⟩,List.forall_mem_cons.2 ⟨⟨_,rfl,rfl,?_⟩,fun x h=>by cases h⟩⟩⟩⟩
   ·refine zko (p:=9) (tv:=35) (E':=[(35,.gs 8),(39,.d (.sl 1 [eI wd] (litRd [eI wd])))]) tabOk rfl ?_ rfl rfl rfl rfl rfl (by kernel_rfl) (e8:=8) (by kernel_rfl) (by kernel_rfl) rfl rfl ?_ rfl rfl
    ·intro t b ht;rw [zx]at ht;split at ht
     ·rename_i e;subst e;cases ht;exact⟨List.mem_of_elem_eq_true (by kernel_rfl),.inl ⟨rfl,rfl⟩⟩
     ·rw [zx]at ht;split at ht
      ·rename_i e;subst e;cases ht;exact⟨List.mem_of_elem_eq_true (by kernel_rfl),.inr rfl⟩
      ·cases ht
    ·show((List.map eI (wL l j)).length+1)*8≤140737488355328;rw [List.length_map,z9e];omega
   ·exact znn (p:=9) tabOk rfl (fun _ _ _ h=>h) (by kernel_rfl) rfl rfl rfl rfl hfl (show(4:Nat)≠9 by decide) (show(4:Nat)≠7 by decide) rfl rfl rfl
   ·refine zhw [7,8,4,5,6,9] (e8:=8) (late:=40) (fun _ _ _ h=>h) rfl rfl (by kernel_rfl) (by kernel_rfl) rfl (by kernel_rfl) (by kernel_rfl) (show(7:Nat)≠9 by decide) rfl rfl rfl rfl rfl (zf Tryz.func92 rfl rfl) hcall ⟨⟨_,rfl,.of (by show AObj.cells _ [AV.d (eNds l),.gs 8,.mp 4,vI .i64 (IntKind.i64.wrap ((j:Int)+1))]=_;rw [ej];rfl)⟩,⟨_,rfl,.refl _⟩,⟨_,rfl,.refl _⟩,⟨_,rfl,.of (z3w _ _).symm⟩,⟨_,rfl,.of (z3w _ _).symm⟩,⟨_,rfl,.refl _⟩,trivial⟩ (.refl _) rfl rfl zy ?_;rintro r o ⟨rfl,rfl⟩;refine⟨rfl,?_⟩;show [some (bBt l),some cN,some (cI 0),some cE,some (mpK [(kInit,.mp 5),(kNext,.mp 6)]),some ((mpI s2).ren (rho [7,8,4,5,6,9] 11)),some ((mpI t2).ren (rho [7,8,4,5,6,9] 11)),some (.cells 147 [.d (eNds l),.gs 8,.mp 4,.d (eI ((j:Int)+1))]),some (gIs (wL l j)),some (.hold (.gs 8) vh),some (bNd (nd l j))]=_;rw [z3w,z3w]
   ·exact zkm tabOk rfl (fun _ _ _ h=>h) rfl rfl rfl (show(8:Nat)≠9 by decide) (show(8:Nat)≠7 by decide) trivial rfl rfl rfl
  ·refine yS Tryz.func61 rfl trivial ?_;refine zv (ih (j+1) (by omega) (by omega)) hCo hCl' ⟨⟨_,rfl,.refl _⟩,⟨_,rfl,.refl _⟩,⟨_,rfl,.refl _⟩,⟨_,rfl,.refl _⟩,⟨_,rfl,.refl _⟩,⟨_,rfl,.refl _⟩,⟨_,rfl,.refl _⟩,⟨_,rfl,.of (by rw [z6 (by omega) (by omega)];rfl)⟩,trivial⟩ ⟨.refl _,.refl _,.refl _,.refl _,.refl _,.of ((za8 8 _).trans (by rw [hs2])),.of ((za8 8 _).trans (by rw [ht2])),.of ?_,.gL ?_,trivial⟩ rfl ?_ (Nat.zero_le _)
   ·show AObj.cells _ [AV.d (eNds l),.gs 8,.mp 4,.d (eI ((j:Int)+1))]=_;rw [show((j+1:Nat):Int)=(j:Int)+1 by omega]
   ·rw [zgv,List.map_append,hwd];rfl
   ·exact zhb _ _ _ _ _
 obtain rfl:j=l.length:=by omega
 clear ih;refine yV Tryz.func61 rfl trivial (z4k l ze hl) (.refl _) ?_;obtain⟨sts,hsts⟩:∃sts,allL l ze l.length=sts:=⟨_,rfl⟩
 have hsl:sts.length≤l.length:=by rw [←hsts];exact z1f _ _ _
 rw [hsts];refine yS Tryz.func61 rfl trivial ?_;refine z8 (α:=Nat×Int) (fun a=>[(2,.ptr 1 0),(3,.ptr 2 0),(4,.ptr 3 0),(5,.ptr 7 0),(45,.d (eIs sts)),(46,vI .i64 (sts.length:Int)),(47,vI .i64 (a.1:Int))])
  (fun a=>[some (bBt l),some cN,some (cI 0),some cE,some (mpK [(kInit,.mp 5),(kNext,.mp 6)]),some (mpI (hadI l kInit l.length)),some (mpI (hadI l kNext l.length)),some (.cells 147 [.d (eNds l),.gs 8,.mp 4,.d (eI a.2)]),some (gIs (wL l l.length))])
  (fun a=>a.1≤sts.length) (fun a=>sts.length-a.1) (0,(l.length:Int)) (Nat.zero_le _) ?_ ?_
 ·exact fun h=>zv h hCo hCl' ⟨⟨_,rfl,.refl _⟩,⟨_,rfl,.refl _⟩,⟨_,rfl,.refl _⟩,⟨_,rfl,.refl _⟩,⟨_,rfl,.refl _⟩,⟨_,rfl,.of (by rw [List.length_map])⟩,⟨_,rfl,.refl _⟩,trivial⟩ ⟨.refl _,.refl _,.refl _,.refl _,.refl _,.refl _,.refl _,.refl _,.refl _,trivial⟩ rfl (zhb _ _ _ _ _) (Nat.zero_le _)
 rintro⟨j,id⟩ hj ih;have hj:j≤sts.length:=hj;refine yB Tryz.func61 rfl trivial (fun hb=>?_) (fun hb=>?_)<;>simp only [decide_eq_true_eq,decide_eq_false_iff_not]at hb
 ·have hlt:j<sts.length:=by omega
  have hmem:sts.getD j 0∈sts:=zw 0 hlt;have hnx:sts.getD j 0∈hadI l kNext l.length:=by
   rw [zel];rw [←hsts]at hmem ⊢;obtain⟨h1,h2,h3⟩:=z8m hmem;have:=ty.ty.nx ((allL l ze l.length).getD j 0-1).toNat (by omega) h3;rwa [show((((allL l ze l.length).getD j 0-1).toNat:Nat):Int)+1=(allL l ze l.length).getD j 0 by omega]at this
  refine yX 24 Tryz.func61 rfl (by simp [andP]<;>omega) ?_;refine z27 tabOk rfl rfl rfl rfl rfl rfl rfl rfl rfl rfl rfl rfl (znr) rfl ?_;refine yX 1 Tryz.func61 rfl trivial ?_;refine z27 tabOk rfl rfl rfl rfl rfl rfl rfl rfl rfl rfl rfl (z7h _) (zjj hnx) rfl ?_;refine yV Tryz.func61 rfl trivial zu ⟨fun _ _ _ _ _=>.dead,.of rfl,fun _ _ _ _ _=>.dead,trivial⟩ ?_;refine yS Tryz.func61 rfl trivial ?_;exact zv (ih (j+1,sts.getD j 0) (show j+1≤sts.length by omega) (show sts.length-(j+1)<sts.length-j by omega)) hCo hCl' ⟨⟨_,rfl,.refl _⟩,⟨_,rfl,.refl _⟩,⟨_,rfl,.refl _⟩,⟨_,rfl,.refl _⟩,⟨_,rfl,.refl _⟩,⟨_,rfl,.refl _⟩,⟨_,rfl,.of (by rw [z6 (by omega) (by omega)];rfl)⟩,trivial⟩ ⟨.refl _,.refl _,.refl _,.refl _,.refl _,.refl _,.refl _,.refl _,.refl _,trivial⟩ rfl (zhb _ _ _ _ _) (Nat.zero_le _)
 ·refine za 8 rfl ?_;exact zpv hD hof (zf Tryz.func91 rfl rfl) zl1 tabOk Tryz.func61 rfl trivial rfl
end Go.Proofs.YtbodbhpdelgpnaaGreatDoor
namespace Ab
open Go
variable [Draws]
section
variable {P:Program}[Globals P]{T:Tab}{n:Nat}{env:Env}{objs:List (Option AObj)}{ops:Array Oper}{K:Env→Prop}{X:Nat→Prop}
theorem zob{o:Oper}{r:List Oper}{e:Env}{u:Tmp}{name:String}{args:List Operand}{at_:Array TypeId}{t:TypeId}{a x:AV}{g:FuncId}{az bs:List AV}{R':AV→List (Option AObj)→Prop}{r0:AV}{v0:Value}
  (hfree:z4x o r (o.looksAt ops)=true) (halone:z2t o r=true) (hput:putE n o.dst r0 env=some e)
  (hw:wantE ops (restr env (o.looksAt ops)) o=.yes) (hop:o.op=.call { callee:=.invoke (.tmp u) name,args:=⟨args⟩,argTypes:=at_ }) (hu:opnd (restr env (o.looksAt ops)) (.tmp u)=some a) (ha:∀w ok π v,RelV w ok π a v→v=.iface t v0) (hx:∀w ok π,RelV w ok π x v0)
  (hm:∀w,(method (P.types.size+Made.depth) t v0 name).run P w=.ok (g,v0) w) (hargs:opnds (restr env (o.looksAt ops)) args=some az)
  (hc:ACall P g bs [] R') (hen:∀args w,(callFunc g args).run P w=.ok (.enter g args) w) (hr:∀r o,R' r o→r=r0) (hv:VLs (x::az) bs) (hd:refsBs 0 bs=true) (hr0:refsB 0 r0=true)
  (h:DSat P n X objs ops K r e):DSat P n X objs ops K (o::r) env:=by
 refine z6u hfree halone hput (fun envF g1 g2=>?_) h;intro π w tmps hn hmem hgk hlk;have he:=z3s g1 hlk;have hrecv:=zh (ds:=[]) he hu;have hvs:=z3q (ds:=[]) he hargs;have hv1:=ha _ _ _ _ hrecv;have hrun:(execOp (Act.eval ⟨tmps,[]⟩) o).run P w=.ok (.enter g (v0::args.map (Act.eval ⟨tmps,[]⟩)).toArray) w:=by
  unfold execOp;simp only [hop,resolve,invoke,Sem.run_bind,Sem.run_pure,Result.andThen_ok];simp [hv1,callMethod,run_program,hm,hen];rw [List.take_of_length_le (by simp)]
 have hall:RelVs w (okOf X π objs) π (x::az) (v0::args.map (Act.eval ⟨tmps,[]⟩)):=.cons (hx _ _ _) hvs;have h1:RelVs w (okOf (Xof X π objs) [] []) [] bs (v0::args.map (Act.eval ⟨tmps,[]⟩)):=(hv.rel hall).cut (m:=0) (fun b o u a1 a2=>⟨z92.2 a1,a2⟩) (fun j _ hj=>absurd hj (Nat.not_lt_zero j)) hd;refine .inr ⟨(zt he).1 hw,.inr ⟨g,_,hrun,?_⟩⟩;rcases hc _ _ w _ hgk.nil (zbp hmem) h1 with⟨_,hcl⟩|⟨v,w',hcl,_⟩
 ·refine Calls.mono hcl ?_;rintro e2 w2 ⟨v,r2,oo,π2,rfl,hR,hm2,hrel,hhist⟩;have hl:=z5h hhist;have hrr:=hr r2 oo hR;subst hrr;have hrv:RelV w2 (okOf X π objs) π r2 v:=by
   refine hrel.cut (m:=0) (fun b o u a1 a2=>⟨?_,a2⟩) (fun j _ hj=>absurd hj (Nat.not_lt_zero j)) hr0;exact z92.1 ⟨a1.1,fun i o h h1=>by simp [nth]at h1⟩
  exact⟨v,rfl,hl,fun d hd=>by obtain⟨q1,b,q2,q3⟩:=g2 d hd;exact⟨q1,b,q2,q3 _ _ _ _ hrv⟩⟩
 ·rw [hen]at hcl;cases hcl
end
end Ab
namespace Go.Proofs.YtbodbhpdelgpnaaGreatDoor
open Go Ab
theorem zsl{r m:Nat}{b:Bool}(hr:r<2^m):ofB (shF r.testBit (m+1) 1 b) (m+1)=2*r+if b then 1 else 0:=zbh (by rw [Nat.pow_succ];split<;>omega) fun j hj=>by
 rw [shF];cases j with
 | zero=>cases b<;>simp
 | succ j=>
  rw [if_pos (by omega),show(((j+1:Nat):Int)-1).toNat=j by omega,Nat.testBit_succ];congr 1;split<;>omega
theorem _root_.Ab.VLe.tp2{cs ds:List AV}(h:VLs cs ds):VLe (.tp cs) (.tp ds):=fun w ok π v hv=>by
 cases hv with|tp h2=>exact .tp (h.rel h2)
theorem bl_tb(n:Nat)(f:Nat→Bool):bl n f=bl n (ofB f n).testBit:=z7l fun i hi=>(zbg f hi).symm
theorem zbk{m y:Nat}(hy:y<2^m):ofB (fun i=>!y.testBit i) m=2^m-(y+1):=zbh (by omega) fun j hj=>by
 rw [Nat.testBit_two_pow_sub_succ hy];simp [hj]
theorem by_bl{m y:Nat}(hy:y<2^m):bl m y.testBit++[false]=bl (m+1) y.testBit:=by
 rw [z2j,tb_ge hy (Nat.le_refl _)]
theorem ztp{m x y k:Nat}(hk:k<m)(h:(quN m x y).testBit (m-1-k)=true):(bl m (dvQ m x y k)).set (m-1-k) true=bl m (dvQ m x y (k+1)):=by
 apply List.ext_getElem?;intro i;rw [List.getElem?_set];simp only [zi];by_cases hi:i<m
 ·have e1:(bl m (dvQ m x y k))[i]?=some (dvQ m x y k i):=by simp [bl,hi]
  have e2:(bl m (dvQ m x y (k+1)))[i]?=some (dvQ m x y (k+1) i):=by simp [bl,hi]
  rw [e1,e2];by_cases e:m-1-k=i
  ·subst e;simp only [if_true,hi];simp [dvQ,h];omega
  ·rw [if_neg e];simp only [dvQ];congr 2;exact decide_eq_decide.2 (by omega)
 ·rw [if_neg (by omega),List.getElem?_eq_none (by rw [zi];omega),List.getElem?_eq_none (by rw [zi];omega)]
theorem zqz{m x y k:Nat}(hk:k<m)(h:(quN m x y).testBit (m-1-k)=false):bl m (dvQ m x y k)=bl m (dvQ m x y (k+1)):=z7l fun i hi=>by
 simp only [dvQ];by_cases e:m-1-k=i
 ·subst e;simp [h]
 ·congr 1;exact decide_eq_decide.2 (by omega)
theorem zg2(m x y:Nat)(hx:x<2^m)(hy:y<2^m)(hb:m≤100000):ACall Tryz.prog 177 [.d (eBs (bl m x.testBit)),.d (eBs (bl m y.testBit))] [] (fun r o=>r=.tp [.d (eBs (bl m (quN m x y).testBit)),.d (eBs (bl m (reN x y).testBit))]):=by
 refine yN Tryz.func177 fun C hC hCl hDs hGk=>?_;have em:IntKind.i64.wrap ((m:Int)+1)=((m+1:Nat):Int):=by rw [z6 (by omega) (by omega)];omega
 refine yS Tryz.func177 rfl ?_ ?_
 ·simp only [List.length_map,zi,andP,em];exact⟨show(m+1)*1≤140737488355328 by omega,by omega,⟨by omega,by omega,show((m+1:Nat):Int)*(1:Int)≤_ by omega⟩,⟨by omega,by omega,show(m:Int)*(1:Int)≤_ by omega⟩,trivial⟩
 refine za 1 rfl ?_;refine za 2 rfl ?_;refine z8 (α:=Nat) (fun k=>[(0,.d (eBs (bl m x.testBit))),(6,.gs 0),(7,.d (eBs (bl (m+1) (dvR m x y k).testBit))),(8,.d (eBs (bl (m+1) y.testBit))),(9,vI .i64 ((m:Int)-1-k))]) (fun k=>[some (gBs (bl m (dvQ m x y k)))]) (fun k=>k≤m) (fun k=>m-k) 0 (Nat.zero_le _) ?_ ?_
 ·refine fun h=>yE h ⟨erl rfl,erl rfl,⟨_,rfl,.eL ?_⟩,⟨_,rfl,.eL ?_⟩,⟨_,rfl,.of ?_⟩,trivial⟩ ⟨.gL ?_,trivial⟩
  ·rw [List.length_map,zi,em,Int.toNat_natCast,zjl hx,zds fun i=>Nat.zero_testBit i];rfl
  ·rw [←by_bl hy,List.map_append];rfl
  ·show vI .i64 (IntKind.i64.wrap ((((bl m x.testBit).map eB).length:Int)-1))=_;rw [List.length_map,zi,z6 (by omega) (by omega)];simp
  ·rw [List.length_map,zi,Int.toNat_natCast,z7l (g:=fun _=>false) fun i hi=>zjn hi,zds fun i=>rfl];rfl
 rintro k hk ih;refine yB Tryz.func177 rfl trivial (fun hb=>?_) (fun hb=>?_)<;>simp only [decide_eq_true_eq,decide_eq_false_iff_not]at hb
 ·have en:((m:Int)-1-k).toNat=m-1-k:=by omega
  have hlt:m-1-k<m:=by omega
  have ef:(bl m x.testBit).getD ((m:Int)-1-k).toNat false=x.testBit (m-1-k):=by rw [en];exact z3a hlt
  have ew:IntKind.i64.wrap ((m:Int)-1-k-1)=(m:Int)-1-((k+1:Nat):Int):=by rw [z6 (by omega) (by omega)];omega
  have hin:((0:Int)≤(m:Int)-1-k∧(m:Int)-1-k<(((bl m x.testBit).map eB).length:Nat)):=by rw [List.length_map,zi];omega
  have hR:dvR m x y k<2^m:=Nat.lt_of_lt_of_le (zo7 hx (by omega)) (Nat.pow_le_pow_right (by decide) (by omega));have hs:=zjm (x:=x) (y:=y) (show k<m by omega);have hq:=zjo (x:=x) (y:=y) (show k<m by omega);have hsh:=bl_tb (m+1) (shF (dvR m x y k).testBit (m+1) 1 (x.testBit (m-1-k)));rw [zsl hR]at hsh;have h2:2*dvR m x y k+(if x.testBit (m-1-k)then 1 else 0)<2^(m+1):=by rw [Nat.pow_succ];split<;>omega
  have q1:=z7a (m+1) (dvR m x y k).testBit 1 (x.testBit (m-1-k)) (by omega) (by omega);rw [hsh]at q1;generalize hR2:2*dvR m x y k+(if x.testBit (m-1-k)then 1 else 0)=R2 at *;have hy2:y<2^(m+1):=Nat.lt_trans hy (Nat.pow_lt_pow_right (by decide) (by omega));have q2:=z96 (m+1) R2.testBit y.testBit (by omega);rw [z2f h2,z2f hy2]at q2;refine yV Tryz.func177 rfl ⟨hin,trivial⟩ q1 ⟨.refl _,.refl _,.of (by show vB ((bl m x.testBit).getD ((m:Int)-1-k).toNat false)=_;rw [ef]),trivial⟩ ?_;refine yV Tryz.func177 rfl trivial q2 (.refl _) ?_;refine yB Tryz.func177 rfl trivial (fun h=>?_) (fun h=>?_)
  ·have h:¬R2<y:=by simpa using h
   rw [if_neg h]at hs;rw [decide_eq_false h]at hq;have q3:=zb6 (m+1) R2.testBit y.testBit (by omega);rw [zcd,z2f h2,zbk hy2,show(R2+(2^(m+1)-(y+1))+(if true=true then 1 else 0))=(R2-y)+2^(m+1)by simp only [if_true];omega,Nat.add_mod_right,Nat.mod_eq_of_lt (by omega),←hs]at q3;refine yV Tryz.func177 rfl trivial q3 (.refl _) ?_;refine yS Tryz.func177 rfl ?_ ?_
   ·simp only [List.length_map,zi,andP];exact⟨by omega,⟨by omega,by omega⟩,trivial⟩
   refine yE (ih (k+1) (by omega) (by omega)) ⟨erl rfl,erl rfl,erl rfl,erl rfl,⟨_,rfl,.of (by rw [←ew])⟩,trivial⟩ ⟨.gL ?_,trivial⟩;rw [←ztp (by omega) hq,List.map_set,en];rfl
  ·have h:R2<y:=by simpa using h
   rw [if_pos h]at hs;rw [decide_eq_true h]at hq;refine yS Tryz.func177 rfl trivial ?_;refine yE (ih (k+1) (by omega) (by omega)) ⟨erl rfl,erl rfl,⟨_,rfl,.of (by rw [hs])⟩,erl rfl,⟨_,rfl,.of (by rw [←ew])⟩,trivial⟩ ⟨.of (by rw [zqz (by omega) hq]),trivial⟩
 ·obtain rfl:k=m:=by omega
  refine za 0 rfl ?_;refine yO 6 Tryz.func177 rfl trivial ?_;refine yq rfl ?_ ?_
  ·simp only [List.length_map,zi];exact⟨⟨by omega,by omega,by omega⟩,trivial⟩
  refine yL Tryz.func177 rfl trivial (.tp2 ⟨.of ?_,.eL ?_,trivial⟩) trivial rfl (r2:=.tp [.d (eBs (bl k (quN k x y).testBit)),.d (eBs (bl k (reN x y).testBit))]) (o2:=[])
  ·rw [z7l (g:=(quN k x y).testBit) fun i hi=>zo9 k x y i];rfl
  ·rw [List.length_map,zi,zo8,z2j];simp [bl,List.take_append]
def onN(w x:Nat):Nat:=(bl w x.testBit).count true
def unR(op:List UInt8)(w x:Nat):AV:=
 if op=sNot then tupOf [.d (vN w (2^w-(x+1))),vI .i64 0]
 else if op=sInc then tupOf [.d (vN w ((x+1)%2^w)),vI .i64 0]
 else if op=sDec then tupOf [.d (vN w ((x+(2^w-1))%2^w)),vI .i64 0]
 else if op=sNeg then tupOf [.d (vN w ((0+(2^w-(x+1))+1)%2^w)),vI .i64 0]
 else if op=z3v then tupOf [.d (vN 1 (if onN w x=w then 1 else 0)),vI .i64 0]
 else if op=z6a then tupOf [.d (vN 1 (if 0<onN w x then 1 else 0)),vI .i64 0]
 else if op=z3u then tupOf [.d (vN 1 (if onN w x%2=1 then 1 else 0)),vI .i64 0]
 else tupOf [.d z24,vI .i64 1]
theorem zez(b:Bool):ofB (fun _=>b) 1=if b then 1 else 0:=by cases b<;>rfl
theorem beqN(a b:Nat):((a:Int)==(b:Int))=decide (a=b):=by
 by_cases h:a=b
 ·subst h;simp
 ·have:(a:Int)≠b:=by omega
  simp [h,this]
theorem zae(w N:Nat)(hN:N<2^w)(hb:w≤1000000):ACall Tryz.prog 102 [.d (eBs (bl w N.testBit))] [] (fun r o=>r=.d (vN w N)):=by
 have:=z58 w N.testBit hb;rwa [z2f hN]at this
theorem zpz(op:List UInt8)(w x:Nat)(hx:x<2^w)(hw:0<w)(hb:w≤128):ACall Tryz.prog 143 [vSL op,.d (vN w x)] [] (fun r o=>r=unR op w x):=by
 refine yN Tryz.func143 fun C hC hCl hDs hGk=>?_;have hcw:(bl w x.testBit).count true≤w:=by
  have:=List.count_le_length (a:=true) (l:=bl w x.testBit);rwa [zi]at this
 have hst:∀k:List UInt8,((⟨op.toArray⟩:ByteArray).toList==(⟨k.toArray⟩:ByteArray).toList)=decide (op=k):=fun k=>strE op k
 refine yV Tryz.func143 rfl trivial (z77 w x (by omega)) (.refl _) ?_;refine yB Tryz.func143 rfl ?_ (fun h=>?_) (fun h1=>?_)
 ·simp only [List.length_map,zi,andP];exact⟨⟨by omega,by omega,show(w:Int)*(1:Int)≤_ by omega⟩,trivial⟩
 ·have h:=(hst sNot).symm.trans h;have h:op=sNot:=by simpa using h
  refine yV Tryz.func143 rfl trivial (zei w x.testBit (by omega)) (.refl _) ?_;refine yV Tryz.func143 rfl trivial (z58 w (fun i=>!x.testBit i) (by omega)) (.refl _) ?_;refine yR Tryz.func143 rfl trivial ?_;rw [unR,if_pos h,zbk hx];rfl
 have h1:=(hst sNot).symm.trans h1;have h1:¬op=sNot:=by simpa using h1
 refine za 2 rfl ?_;refine zv (env':=[(4,.ptr 1 0),(6,.d (eBs (bl w x.testBit))),(7,.d (eBs (bl w fun _=>false))),(13,vSL op),(14,.lit false)]) (objs':=[none,some zV]) ?_ hC hCl ⟨⟨_,rfl,.refl _⟩,⟨_,rfl,.refl _⟩,⟨_,rfl,.eL ?_⟩,⟨_,rfl,.refl _⟩,⟨_,rfl,.refl _⟩,trivial⟩ ⟨.refl _,trivial⟩ rfl rfl (Nat.zero_le _);rotate_left
 ·rw [List.length_map,zi,Int.toNat_natCast,zds fun i=>rfl];rfl
 have hp:0<2^w:=Nat.two_pow_pos w;have z0:∀n,ofB (fun _=>false) n=0:=fun n=>by
  induction n with
  | zero=>rfl
  | succ n ih=>simp [ofB,ih]
 have z1:ofB (fun _=>!false) w=2^w-1:=by
  have:=zbk (m:=w) (y:=0) hp;simpa using this
 have a1:=z6n w x.testBit (fun _=>false) true (by omega);rw [zcd,z2f hx,z0,Nat.add_zero,if_pos rfl]at a1;have a2:=zei w (fun _=>false) (by omega);have a3:=z6n w x.testBit (fun _=>!false) false (by omega);rw [zcd,z2f hx,z1,if_neg (by simp),Nat.add_zero]at a3;have a4:=zb6 w (fun _=>false) x.testBit (by omega);rw [zcd,z0,zbk hx,if_pos rfl]at a4;have a5:=zn7 w x.testBit (by omega);have hcn:(bl w x.testBit).count true=onN w x:=rfl;rw [hcn]at a5 hcw;generalize hcn2:onN w x=cn at a5 hcw hcn;have o1:=zae w ((x+1)%2^w) (Nat.mod_lt _ hp) (by omega);have o2:=zae w ((x+(2^w-1))%2^w) (Nat.mod_lt _ hp) (by omega);have o3:=zae w ((0+(2^w-(x+1))+1)%2^w) (Nat.mod_lt _ hp) (by omega);refine yB Tryz.func143 rfl trivial (fun h=>?_) (fun h2=>?_)
 ·have h:=(hst sInc).symm.trans h;have h:op=sInc:=by simpa using h
  refine yV Tryz.func143 rfl trivial a1 (.refl _) ?_;refine yV Tryz.func143 rfl trivial o1 (.refl _) ?_;refine yR Tryz.func143 rfl trivial ?_;rw [unR,if_neg h1,if_pos h];rfl
 have h2:=(hst sInc).symm.trans h2;have h2:¬op=sInc:=by simpa using h2
 refine yB Tryz.func143 rfl trivial (fun h=>?_) (fun h3=>?_)
 ·have h:=(hst sDec).symm.trans h;have h:op=sDec:=by simpa using h
  refine yV Tryz.func143 rfl trivial a2 (.refl _) ?_;refine yV Tryz.func143 rfl trivial a3 (.refl _) ?_;refine yV Tryz.func143 rfl trivial o2 (.refl _) ?_;refine yR Tryz.func143 rfl trivial ?_;rw [unR,if_neg h1,if_neg h2,if_pos h];rfl
 have h3:=(hst sDec).symm.trans h3;have h3:¬op=sDec:=by simpa using h3
 refine yB Tryz.func143 rfl trivial (fun h=>?_) (fun h4=>?_)
 ·have h:=(hst sNeg).symm.trans h;have h:op=sNeg:=by simpa using h
  refine yV Tryz.func143 rfl trivial a4 (.refl _) ?_;refine yV Tryz.func143 rfl trivial o3 (.refl _) ?_;refine yR Tryz.func143 rfl trivial ?_;rw [unR,if_neg h1,if_neg h2,if_neg h3,if_pos h];rfl
 have h4:=(hst sNeg).symm.trans h4;have h4:¬op=sNeg:=by simpa using h4
 refine yB Tryz.func143 rfl trivial (fun h=>?_) (fun h5=>?_)
 ·have h:=(hst z3v).symm.trans h;have h:op=z3v:=by simpa using h
  refine yV Tryz.func143 rfl trivial a5 (.refl _) ?_;refine yV Tryz.func143 rfl trivial (z28 (decide (cn=w))) ⟨.of ?_,trivial⟩ ?_
  ·show vB (((cn:Nat):Int)==((((bl w x.testBit).map eB).length:Nat):Int))=_;rw [List.length_map,zi,beqN]
  refine yV Tryz.func143 rfl trivial (z58 1 (fun _=>decide (cn=w)) (by decide)) (.refl _) ?_;refine yR Tryz.func143 rfl trivial ?_;rw [unR,if_neg h1,if_neg h2,if_neg h3,if_neg h4,if_pos h,zez,hcn2];simp only [decide_eq_true_eq];rfl
 have h5:=(hst z3v).symm.trans h5;have h5:¬op=z3v:=by simpa using h5
 refine yB Tryz.func143 rfl trivial (fun h=>?_) (fun h6=>?_)
 ·have h:=(hst z6a).symm.trans h;have h:op=z6a:=by simpa using h
  refine yV Tryz.func143 rfl trivial a5 (.refl _) ?_;refine yV Tryz.func143 rfl trivial (z28 (decide (0<cn))) ⟨.of ?_,trivial⟩ ?_
  ·show vB (decide (((cn:Nat):Int)>0))=_;rw [decide_eq_decide.2 (show((cn:Nat):Int)>0↔0<cn by omega)]
  refine yV Tryz.func143 rfl trivial (z58 1 (fun _=>decide (0<cn)) (by decide)) (.refl _) ?_;refine yR Tryz.func143 rfl trivial ?_;rw [unR,if_neg h1,if_neg h2,if_neg h3,if_neg h4,if_neg h5,if_pos h,zez,hcn2];simp only [decide_eq_true_eq];rfl
 have h6:=(hst z6a).symm.trans h6;have h6:¬op=z6a:=by simpa using h6
 refine yB Tryz.func143 rfl trivial (fun h=>?_) (fun h7=>?_)
 ·have h:=(hst z3u).symm.trans h;have h:op=z3u:=by simpa using h
  refine yV Tryz.func143 rfl trivial a5 (.refl _) ?_;refine yV Tryz.func143 rfl ⟨by decide,trivial⟩ (z28 (decide (cn%2=1))) ⟨.of ?_,trivial⟩ ?_
  ·show vB ((((cn:Nat):Int).tmod ((2:Nat):Int))==((1:Nat):Int))=_;rw [tmodN,beqN]
  refine yV Tryz.func143 rfl trivial (z58 1 (fun _=>decide (cn%2=1)) (by decide)) (.refl _) ?_;refine yR Tryz.func143 rfl trivial ?_;rw [unR,if_neg h1,if_neg h2,if_neg h3,if_neg h4,if_neg h5,if_neg h6,if_pos h,zez,hcn2];simp only [decide_eq_true_eq];rfl
 have h7:=(hst z3u).symm.trans h7;have h7:¬op=z3u:=by simpa using h7
 refine yR Tryz.func143 rfl trivial ?_;rw [unR,if_neg h1,if_neg h2,if_neg h3,if_neg h4,if_neg h5,if_neg h6,if_neg h7];rfl
theorem z88(b:Bool):bl 1 (fun _=>b)=bl 1 (if b then 1 else 0:Nat).testBit:=by cases b<;>rfl
theorem zua(x w s:Nat)(b:Bool):ofB (shF x.testBit w (-(s:Int)) b) w=dnN w x s b w:=by
 rw [dnN];congr 1;funext j;simp only [shF];by_cases h:j+s<w
 ·rw [if_pos (by omega),if_pos h,show((j:Int) - -(s:Int)).toNat=j+s by omega]
 ·rw [if_neg (by omega),if_neg h]
def binR(op:List UInt8)(w x y:Nat):Option (Nat×Nat):=
 if op=sAnd then some (w,x &&& y)else if op=sOr then some (w,x ||| y)else if op=sXor then some (w,x ^^^ y)
 else if op=sAdd then some (w,(x+y)%2^w)else if op=sSub then some (w,(x+(2^w-(y+1))+1)%2^w)else if op=sMul then some (w,x*y%2^w)
 else if op=sUdiv then some (w,quN w x y)else if op=sUrem then some (w,reN x y)
 else if op=sSll then some (w,x*2^(min y w)%2^w)else if op=sSrl then some (w,dnN w x (min y w) false w)else if op=sSra then some (w,dnN w x (min y w) (x.testBit (w-1)) w)
 else if op=sEq then some (1,if x=y then 1 else 0)else if op=sUlt then some (1,if x<y then 1 else 0)
 else if op=sSlt then some (1,if(x.testBit (w-1)&&!y.testBit (w-1))||((x.testBit (w-1)==y.testBit (w-1))&&decide (x<y))then 1 else 0)
 else none
def binA:Option (Nat×Nat)→AV
 | some p=>.tp [.d (eBs (bl p.1 p.2.testBit)),vB true]
 | none=>.tp [.d (.v (.slice none 0 0)),vB false]
theorem zjx(op:List UInt8)(w x y:Nat)(hx:x<2^w)(hy:y<2^w)(hw:0<w)(hb:w≤128):ACall Tryz.prog 168 [vSL op,.d (eBs (bl w x.testBit)),.d (eBs (bl w y.testBit))] [] (fun r o=>r=binA (binR op w x y)):=by
 refine yN Tryz.func168 fun C hC hCl hDs hGk=>?_;have hst:∀k:List UInt8,((⟨op.toArray⟩:ByteArray).toList==(⟨k.toArray⟩:ByteArray).toList)=decide (op=k):=fun k=>strE op k
 refine yB Tryz.func168 rfl trivial (fun h=>?_) (fun h1=>?_)
 ·have h:=(hst sAnd).symm.trans h;have h:op=sAnd:=by simpa using h
  subst h;refine yS Tryz.func168 rfl trivial ?_;refine z1j (s:=1) (e:=4) (t:=9) (.inl rfl) (fun i=>eB (([]:List Bool).getD i false)) ?_;refine z8 (α:=Nat) (fun i=>[(0,vSL sAnd),(1,.d (eBs (bl w x.testBit))),(2,.d (eBs (bl w y.testBit))),(9,.gs 0),(10,vI .i64 i)]) (fun i=>[some (gBs (bl i (x &&& y).testBit))]) (fun i=>i≤w) (fun i=>w-i) 0 (Nat.zero_le _) ?_ ?_
  ·exact fun h=>yE h (eAl rfl) (oAl rfl)
  rintro i hi ih;refine yB Tryz.func168 rfl trivial (fun hb=>?_) (fun hb=>?_)<;>simp only [decide_eq_true_eq,decide_eq_false_iff_not,List.length_map,zi]at hb
  ·have ex:((bl w x.testBit).getD ((i:Nat):Int).toNat false)=x.testBit i:=z3a (f:=x.testBit) (show i<w by omega);have ey:((bl w y.testBit).getD ((i:Nat):Int).toNat false)=y.testBit i:=z3a (f:=y.testBit) (show i<w by omega);have fin:∀b:Bool,b=(x &&& y).testBit i→(bl i (x &&& y).testBit).map eB++[D.v (.bool b)]=(bl (i+1) (x &&& y).testBit).map eB:=fun b hb=>by rw [z2j,List.map_append,hb];rfl
   refine yO 8 Tryz.func168 rfl trivial ?_;refine yq rfl (by simp only [List.length_map,zi,and_true];omega) ?_;refine yB Tryz.func168 rfl trivial (fun _=>?_) (fun hc=>(strF rfl hc).elim);refine yB Tryz.func168 rfl (by simp only [List.length_map,zi,and_true];omega) (fun ha=>?_) (fun ha=>?_)<;>rw [ex]at ha
   ·refine yS Tryz.func168 rfl ?_ ?_
    ·simp only [List.length_map,zi,andP];first|exact⟨show(i+1)*1≤140737488355328 by omega,trivial⟩|exact⟨show(i+1)*1≤140737488355328 by omega,⟨by omega,by omega⟩,trivial⟩
    refine yE (ih (i+1) (by omega) (by omega)) ⟨erl rfl,erl rfl,erl rfl,erl rfl,erw rfl,trivial⟩ ⟨.gL (fin _ ?_),trivial⟩;show(bl w y.testBit).getD ((i:Nat):Int).toNat false=_;rw [ey,Nat.testBit_and,ha];rfl
   ·refine yS Tryz.func168 rfl ?_ ?_
    ·simp only [List.length_map,zi,andP];first|exact⟨show(i+1)*1≤140737488355328 by omega,trivial⟩|exact⟨show(i+1)*1≤140737488355328 by omega,⟨by omega,by omega⟩,trivial⟩
    refine yE (ih (i+1) (by omega) (by omega)) ⟨erl rfl,erl rfl,erl rfl,erl rfl,erw rfl,trivial⟩ ⟨.gL (fin _ ?_),trivial⟩;rw [Nat.testBit_and,ha];rfl
  ·obtain rfl:i=w:=by omega
   refine za 0 rfl ?_;refine yR Tryz.func168 rfl trivial ?_;rfl
 have h1:=(hst sAnd).symm.trans h1;have h1:¬op=sAnd:=by simpa using h1
 refine yB Tryz.func168 rfl trivial (fun h=>?_) (fun h2=>?_)
 ·have h:=(hst sOr).symm.trans h;have h:op=sOr:=by simpa using h
  subst h;refine yS Tryz.func168 rfl trivial ?_;refine z1j (s:=1) (e:=4) (t:=9) (.inl rfl) (fun i=>eB (([]:List Bool).getD i false)) ?_;refine z8 (α:=Nat) (fun i=>[(0,vSL sOr),(1,.d (eBs (bl w x.testBit))),(2,.d (eBs (bl w y.testBit))),(9,.gs 0),(10,vI .i64 i)]) (fun i=>[some (gBs (bl i (x ||| y).testBit))]) (fun i=>i≤w) (fun i=>w-i) 0 (Nat.zero_le _) ?_ ?_
  ·exact fun h=>yE h (eAl rfl) (oAl rfl)
  rintro i hi ih;refine yB Tryz.func168 rfl trivial (fun hb=>?_) (fun hb=>?_)<;>simp only [decide_eq_true_eq,decide_eq_false_iff_not,List.length_map,zi]at hb
  ·have ex:((bl w x.testBit).getD ((i:Nat):Int).toNat false)=x.testBit i:=z3a (f:=x.testBit) (show i<w by omega);have ey:((bl w y.testBit).getD ((i:Nat):Int).toNat false)=y.testBit i:=z3a (f:=y.testBit) (show i<w by omega);have fin:∀b:Bool,b=(x ||| y).testBit i→(bl i (x ||| y).testBit).map eB++[D.v (.bool b)]=(bl (i+1) (x ||| y).testBit).map eB:=fun b hb=>by rw [z2j,List.map_append,hb];rfl
   refine yO 8 Tryz.func168 rfl trivial ?_;refine yq rfl (by simp only [List.length_map,zi,and_true];omega) ?_;refine yB Tryz.func168 rfl trivial (fun hc=>by rw [show(⟨#[97,110,100]⟩:ByteArray)=⟨([97,110,100]:List UInt8).toArray⟩from rfl,strE]at hc;exact absurd hc (by decide)) (fun _=>?_);refine yB Tryz.func168 rfl trivial (fun _=>?_) (fun hc=>(strF rfl hc).elim);refine yB Tryz.func168 rfl (by simp only [List.length_map,zi,and_true];omega) (fun ha=>?_) (fun ha=>?_)<;>rw [ex]at ha
   ·refine yS Tryz.func168 rfl ?_ ?_
    ·simp only [List.length_map,zi,andP];first|exact⟨show(i+1)*1≤140737488355328 by omega,trivial⟩|exact⟨show(i+1)*1≤140737488355328 by omega,⟨by omega,by omega⟩,trivial⟩
    refine yE (ih (i+1) (by omega) (by omega)) ⟨erl rfl,erl rfl,erl rfl,erl rfl,erw rfl,trivial⟩ ⟨.gL (fin _ ?_),trivial⟩;rw [Nat.testBit_or,ha];rfl
   ·refine yS Tryz.func168 rfl ?_ ?_
    ·simp only [List.length_map,zi,andP];first|exact⟨show(i+1)*1≤140737488355328 by omega,trivial⟩|exact⟨show(i+1)*1≤140737488355328 by omega,⟨by omega,by omega⟩,trivial⟩
    refine yE (ih (i+1) (by omega) (by omega)) ⟨erl rfl,erl rfl,erl rfl,erl rfl,erw rfl,trivial⟩ ⟨.gL (fin _ ?_),trivial⟩;show(bl w y.testBit).getD ((i:Nat):Int).toNat false=_;rw [ey,Nat.testBit_or,ha];rfl
  ·obtain rfl:i=w:=by omega
   refine za 0 rfl ?_;refine yR Tryz.func168 rfl trivial ?_;rfl
 have h2:=(hst sOr).symm.trans h2;have h2:¬op=sOr:=by simpa using h2
 refine yB Tryz.func168 rfl trivial (fun h=>?_) (fun h3=>?_)
 ·have h:=(hst sXor).symm.trans h;have h:op=sXor:=by simpa using h
  subst h;refine yS Tryz.func168 rfl trivial ?_;refine z1j (s:=1) (e:=4) (t:=9) (.inl rfl) (fun i=>eB (([]:List Bool).getD i false)) ?_;refine z8 (α:=Nat) (fun i=>[(0,vSL sXor),(1,.d (eBs (bl w x.testBit))),(2,.d (eBs (bl w y.testBit))),(9,.gs 0),(10,vI .i64 i)]) (fun i=>[some (gBs (bl i (x ^^^ y).testBit))]) (fun i=>i≤w) (fun i=>w-i) 0 (Nat.zero_le _) ?_ ?_
  ·exact fun h=>yE h (eAl rfl) (oAl rfl)
  rintro i hi ih;refine yB Tryz.func168 rfl trivial (fun hb=>?_) (fun hb=>?_)<;>simp only [decide_eq_true_eq,decide_eq_false_iff_not,List.length_map,zi]at hb
  ·have ex:((bl w x.testBit).getD ((i:Nat):Int).toNat false)=x.testBit i:=z3a (f:=x.testBit) (show i<w by omega);have ey:((bl w y.testBit).getD ((i:Nat):Int).toNat false)=y.testBit i:=z3a (f:=y.testBit) (show i<w by omega);have fin:∀b:Bool,b=(x ^^^ y).testBit i→(bl i (x ^^^ y).testBit).map eB++[D.v (.bool b)]=(bl (i+1) (x ^^^ y).testBit).map eB:=fun b hb=>by rw [z2j,List.map_append,hb];rfl
   refine yO 8 Tryz.func168 rfl trivial ?_;refine yq rfl (by simp only [List.length_map,zi,and_true];omega) ?_;refine yB Tryz.func168 rfl trivial (fun hc=>by rw [show(⟨#[97,110,100]⟩:ByteArray)=⟨([97,110,100]:List UInt8).toArray⟩from rfl,strE]at hc;exact absurd hc (by decide)) (fun _=>?_);refine yB Tryz.func168 rfl trivial (fun hc=>by rw [show(⟨#[111,114]⟩:ByteArray)=⟨([111,114]:List UInt8).toArray⟩from rfl,strE]at hc;exact absurd hc (by decide)) (fun _=>?_);refine yS Tryz.func168 rfl ?_ ?_
   ·simp only [List.length_map,zi,andP];first|exact⟨show(i+1)*1≤140737488355328 by omega,trivial⟩|exact⟨show(i+1)*1≤140737488355328 by omega,⟨by omega,by omega⟩,trivial⟩
   refine yE (ih (i+1) (by omega) (by omega)) ⟨erl rfl,erl rfl,erl rfl,erl rfl,erw rfl,trivial⟩ ⟨.gL (fin _ ?_),trivial⟩;show((bl w x.testBit).getD ((i:Nat):Int).toNat false !=(bl w y.testBit).getD ((i:Nat):Int).toNat false)=_;rw [ex,ey,Nat.testBit_xor]
  ·obtain rfl:i=w:=by omega
   refine za 0 rfl ?_;refine yR Tryz.func168 rfl trivial ?_;rfl
 have h3:=(hst sXor).symm.trans h3;have h3:¬op=sXor:=by simpa using h3
 refine yB Tryz.func168 rfl trivial (fun h=>?_) (fun h4=>?_)
 ·have h:=(hst sAdd).symm.trans h;have h:op=sAdd:=by simpa using h
  have q:=z6n w x.testBit y.testBit false (by omega);rw [zcd,z2f hx,z2f hy,if_neg (by simp),Nat.add_zero]at q;refine yV Tryz.func168 rfl trivial q (.refl _) ?_;refine yR Tryz.func168 rfl trivial ?_;rw [binR,if_neg h1,if_neg h2,if_neg h3,if_pos h];rfl
 have h4:=(hst sAdd).symm.trans h4;have h4:¬op=sAdd:=by simpa using h4
 refine yB Tryz.func168 rfl trivial (fun h=>?_) (fun h5=>?_)
 ·have h:=(hst sSub).symm.trans h;have h:op=sSub:=by simpa using h
  have q:=zb6 w x.testBit y.testBit (by omega);rw [zcd,z2f hx,zbk hy,if_pos rfl]at q;refine yV Tryz.func168 rfl trivial q (.refl _) ?_;refine yR Tryz.func168 rfl trivial ?_;rw [binR,if_neg h1,if_neg h2,if_neg h3,if_neg h4,if_pos h];rfl
 have h5:=(hst sSub).symm.trans h5;have h5:¬op=sSub:=by simpa using h5
 refine yB Tryz.func168 rfl trivial (fun h=>?_) (fun h6=>?_)
 ·have h:=(hst sMul).symm.trans h;have h:op=sMul:=by simpa using h
  refine yV Tryz.func168 rfl trivial (zm6 w x y hy (by omega)) (.refl _) ?_;refine yR Tryz.func168 rfl trivial ?_;rw [binR,if_neg h1,if_neg h2,if_neg h3,if_neg h4,if_neg h5,if_pos h];rfl
 have h6:=(hst sMul).symm.trans h6;have h6:¬op=sMul:=by simpa using h6
 refine yB Tryz.func168 rfl trivial (fun h=>?_) (fun h7=>?_)
 ·have h:=(hst sUdiv).symm.trans h;have h:op=sUdiv:=by simpa using h
  refine yV Tryz.func168 rfl trivial (zg2 w x y hx hy (by omega)) (.refl _) ?_;refine yR Tryz.func168 rfl trivial ?_;rw [binR,if_neg h1,if_neg h2,if_neg h3,if_neg h4,if_neg h5,if_neg h6,if_pos h];rfl
 have h7:=(hst sUdiv).symm.trans h7;have h7:¬op=sUdiv:=by simpa using h7
 refine yB Tryz.func168 rfl trivial (fun h=>?_) (fun h8=>?_)
 ·have h:=(hst sUrem).symm.trans h;have h:op=sUrem:=by simpa using h
  refine yV Tryz.func168 rfl trivial (zg2 w x y hx hy (by omega)) (.refl _) ?_;refine yR Tryz.func168 rfl trivial ?_;rw [binR,if_neg h1,if_neg h2,if_neg h3,if_neg h4,if_neg h5,if_neg h6,if_neg h7,if_pos h];rfl
 have h8:=(hst sUrem).symm.trans h8;have h8:¬op=sUrem:=by simpa using h8
 have hmin:min y w≤w:=Nat.min_le_right _ _;have f1:=zqu w y.testBit (by omega);rw [z2f hy]at f1;have s1:=z7a w x.testBit ((min y w:Nat):Int) false (by omega) (by omega);rw [bl_tb w (shF _ _ _ _),zrs]at s1;have s2:=fun b=>z7a w x.testBit (-((min y w:Nat):Int)) b (by omega) (by omega)
 have s3:∀b,bl w (shF x.testBit w (-((min y w:Nat):Int)) b)=bl w (dnN w x (min y w) b w).testBit:=fun b=>by
  rw [bl_tb w (shF _ _ _ _),zua]
 simp only [s3]at s2;have en:IntKind.i64.wrap (0-((min y w:Nat):Int))=-((min y w:Nat):Int):=by rw [z6 (by omega) (by omega)];omega
 have l1:=z96 w x.testBit y.testBit (by omega);have l2:=z96 w y.testBit x.testBit (by omega);rw [z2f hx,z2f hy]at l1 l2;refine yB Tryz.func168 rfl trivial (fun h=>?_) (fun h9=>?_)
 ·have h:=(hst sSll).symm.trans h;have h:op=sSll:=by simpa using h
  refine yV Tryz.func168 rfl trivial f1 (.refl _) ?_;refine yV Tryz.func168 rfl trivial s1 (.refl _) ?_;refine yR Tryz.func168 rfl trivial ?_;rw [binR,if_neg h1,if_neg h2,if_neg h3,if_neg h4,if_neg h5,if_neg h6,if_neg h7,if_neg h8,if_pos h];rfl
 have h9:=(hst sSll).symm.trans h9;have h9:¬op=sSll:=by simpa using h9
 refine yB Tryz.func168 rfl trivial (fun h=>?_) (fun h10=>?_)
 ·have h:=(hst sSrl).symm.trans h;have h:op=sSrl:=by simpa using h
  refine yV Tryz.func168 rfl trivial f1 (.refl _) ?_;refine yV Tryz.func168 rfl trivial (s2 false) ⟨.refl _,.of (by show vI .i64 (IntKind.i64.wrap (0-((min y w:Nat):Int)))=_;rw [en]),.refl _,trivial⟩ ?_;refine yR Tryz.func168 rfl trivial ?_;rw [binR,if_neg h1,if_neg h2,if_neg h3,if_neg h4,if_neg h5,if_neg h6,if_neg h7,if_neg h8,if_neg h9,if_pos h];rfl
 have h10:=(hst sSrl).symm.trans h10;have h10:¬op=sSrl:=by simpa using h10
 have ei:IntKind.i64.wrap ((w:Int)-1)=((w-1:Nat):Int):=by rw [z6 (by omega) (by omega)];omega
 have etop:∀z:Nat,(bl w z.testBit).getD (IntKind.i64.wrap ((((bl w x.testBit).map eB).length:Int)-1)).toNat false=z.testBit (w-1):=fun z=>by
  rw [List.length_map,zi,ei,Int.toNat_natCast];exact z3a (by omega)
 refine yB Tryz.func168 rfl trivial (fun h=>?_) (fun h11=>?_)
 ·have h:=(hst sSra).symm.trans h;have h:op=sSra:=by simpa using h
  refine yO 8 Tryz.func168 rfl trivial ?_;refine yQ Tryz.func179 rfl trivial (f1) (.refl _) ?_;refine yq rfl ?_ ?_
  ·simp only [List.length_map,zi,ei];exact⟨⟨by omega,by omega⟩,trivial⟩
  refine yV Tryz.func168 rfl trivial (s2 (x.testBit (w-1))) ⟨.refl _,.of (by show vI .i64 (IntKind.i64.wrap (0-((min y w:Nat):Int)))=_;rw [en]),.of (by show vB ((bl w x.testBit).getD (IntKind.i64.wrap ((((bl w x.testBit).map eB).length:Int)-1)).toNat false)=_;rw [etop]),trivial⟩ ?_;refine yR Tryz.func168 rfl trivial ?_;rw [binR,if_neg h1,if_neg h2,if_neg h3,if_neg h4,if_neg h5,if_neg h6,if_neg h7,if_neg h8,if_neg h9,if_neg h10,if_pos h];rfl
 have h11:=(hst sSra).symm.trans h11;have h11:¬op=sSra:=by simpa using h11
 refine yB Tryz.func168 rfl trivial (fun h=>?_) (fun h12=>?_)
 ·have h:=(hst sEq).symm.trans h;have h:op=sEq:=by simpa using h
  refine yV Tryz.func168 rfl trivial l1 (.refl _) ?_;refine yB Tryz.func168 rfl trivial (fun h'=>?_) (fun h'=>?_)
  ·refine yV Tryz.func168 rfl trivial l2 (.refl _) ?_;refine yV Tryz.func168 rfl trivial (z28 (!decide (y<x))) (.refl _) ?_;refine yR Tryz.func168 rfl trivial ?_;have h':¬x<y:=by simpa using h'
   rw [binR,if_neg h1,if_neg h2,if_neg h3,if_neg h4,if_neg h5,if_neg h6,if_neg h7,if_neg h8,if_neg h9,if_neg h10,if_neg h11,if_pos h,z88];have:(if(!decide (y<x))=true then 1 else 0)=(if x=y then 1 else 0):=by
    by_cases e:x=y
    ·subst e;simp
    ·simp [e];omega
   rw [this];rfl
  ·refine yV Tryz.func168 rfl trivial (z28 false) (.refl _) ?_;refine yR Tryz.func168 rfl trivial ?_;have h':x<y:=by simpa using h'
   rw [binR,if_neg h1,if_neg h2,if_neg h3,if_neg h4,if_neg h5,if_neg h6,if_neg h7,if_neg h8,if_neg h9,if_neg h10,if_neg h11,if_pos h,z88,if_neg (by omega:¬x=y)];rfl
 have h12:=(hst sEq).symm.trans h12;have h12:¬op=sEq:=by simpa using h12
 refine yB Tryz.func168 rfl trivial (fun h=>?_) (fun h13=>?_)
 ·have h:=(hst sUlt).symm.trans h;have h:op=sUlt:=by simpa using h
  refine yV Tryz.func168 rfl trivial l1 (.refl _) ?_;refine yV Tryz.func168 rfl trivial (z28 (decide (x<y))) (.refl _) ?_;refine yR Tryz.func168 rfl trivial ?_;rw [binR,if_neg h1,if_neg h2,if_neg h3,if_neg h4,if_neg h5,if_neg h6,if_neg h7,if_neg h8,if_neg h9,if_neg h10,if_neg h11,if_neg h12,if_pos h,z88];simp only [decide_eq_true_eq];rfl
 have h13:=(hst sUlt).symm.trans h13;have h13:¬op=sUlt:=by simpa using h13
 refine yB Tryz.func168 rfl trivial (fun h=>?_) (fun h14=>?_)
 ·have h:=(hst sSlt).symm.trans h;have h:op=sSlt:=by simpa using h
  cases hsx:x.testBit (w-1)<;>cases hsy:y.testBit (w-1)
  ·refine yO 24 Tryz.func168 rfl trivial ?_;refine yb rfl (by simp only [List.length_map,zi,ei,and_true];omega) (fun h=>by rw [etop,hsx]at h;cases h) (fun _=>?_);refine yb rfl trivial (fun h=>by cases h) (fun _=>?_);refine yb rfl (by simp only [List.length_map,zi,ei,and_true];omega) (fun _=>?_) (fun h=>by rw [etop,etop,hsx,hsy]at h;cases h);refine yq rfl trivial ?_;refine yV Tryz.func168 rfl trivial l1 (.refl _) ?_;refine yV Tryz.func168 rfl trivial (z28 (decide (x<y))) (.refl _) ?_;refine yR Tryz.func168 rfl trivial ?_;rw [binR,if_neg h1,if_neg h2,if_neg h3,if_neg h4,if_neg h5,if_neg h6,if_neg h7,if_neg h8,if_neg h9,if_neg h10,if_neg h11,if_neg h12,if_neg h13,if_pos h,z88,hsx,hsy];simp;rfl
  ·refine yO 24 Tryz.func168 rfl trivial ?_;refine yb rfl (by simp only [List.length_map,zi,ei,and_true];omega) (fun h=>by rw [etop,hsx]at h;cases h) (fun _=>?_);refine yb rfl trivial (fun h=>by cases h) (fun _=>?_);refine yb rfl (by simp only [List.length_map,zi,ei,and_true];omega) (fun h=>by rw [etop,etop,hsx,hsy]at h;cases h) (fun _=>?_);refine yq rfl trivial ?_;refine yV Tryz.func168 rfl trivial (z28 (false)) (.refl _) ?_;refine yR Tryz.func168 rfl trivial ?_;rw [binR,if_neg h1,if_neg h2,if_neg h3,if_neg h4,if_neg h5,if_neg h6,if_neg h7,if_neg h8,if_neg h9,if_neg h10,if_neg h11,if_neg h12,if_neg h13,if_pos h,z88,hsx,hsy];simp;rfl
  ·refine yO 24 Tryz.func168 rfl trivial ?_;refine yb rfl (by simp only [List.length_map,zi,ei,and_true];omega) (fun _=>?_) (fun h=>by rw [etop,hsx]at h;cases h);refine yb rfl (by simp only [List.length_map,zi,ei,and_true];omega) (fun _=>?_) (fun h=>by rw [etop,hsy]at h;cases h);refine yq rfl trivial ?_;refine yV Tryz.func168 rfl trivial (z28 (true)) (.refl _) ?_;refine yR Tryz.func168 rfl trivial ?_;rw [binR,if_neg h1,if_neg h2,if_neg h3,if_neg h4,if_neg h5,if_neg h6,if_neg h7,if_neg h8,if_neg h9,if_neg h10,if_neg h11,if_neg h12,if_neg h13,if_pos h,z88,hsx,hsy];simp;rfl
  ·refine yO 24 Tryz.func168 rfl trivial ?_;refine yb rfl (by simp only [List.length_map,zi,ei,and_true];omega) (fun _=>?_) (fun h=>by rw [etop,hsx]at h;cases h);refine yb rfl (by simp only [List.length_map,zi,ei,and_true];omega) (fun h=>by rw [etop,hsy]at h;cases h) (fun _=>?_);refine yb rfl (by simp only [List.length_map,zi,ei,and_true];omega) (fun _=>?_) (fun h=>by rw [etop,etop,hsx,hsy]at h;cases h);refine yq rfl trivial ?_;refine yV Tryz.func168 rfl trivial l1 (.refl _) ?_;refine yV Tryz.func168 rfl trivial (z28 (decide (x<y))) (.refl _) ?_;refine yR Tryz.func168 rfl trivial ?_;rw [binR,if_neg h1,if_neg h2,if_neg h3,if_neg h4,if_neg h5,if_neg h6,if_neg h7,if_neg h8,if_neg h9,if_neg h10,if_neg h11,if_neg h12,if_neg h13,if_pos h,z88,hsx,hsy];simp;rfl
 have h14:=(hst sSlt).symm.trans h14;have h14:¬op=sSlt:=by simpa using h14
 refine yR Tryz.func168 rfl trivial ?_;rw [binR,if_neg h1,if_neg h2,if_neg h3,if_neg h4,if_neg h5,if_neg h6,if_neg h7,if_neg h8,if_neg h9,if_neg h10,if_neg h11,if_neg h12,if_neg h13,if_neg h14];rfl
def binK(op:List UInt8):Bool:=(binR op 1 0 0).isSome
theorem zoq(op:List UInt8)(w x y:Nat):(binR op w x y).isSome=binK op:=by
 unfold binK binR;simp only [apply_ite Option.isSome,Option.isSome_some,Option.isSome_none]
theorem zor{op:List UInt8}{w x y:Nat}(hx:x<2^w)(hy:y<2^w){p:Nat×Nat}(h:binR op w x y=some p):p.2<2^p.1∧p.1≤max w 1:=by
 have hp:=Nat.two_pow_pos w;unfold binR at h;by_cases c0:op=sAnd
 ·rw [if_pos c0]at h;cases h;exact⟨Nat.lt_of_le_of_lt Nat.and_le_left hx,by omega⟩
 rw [if_neg c0]at h;by_cases c1:op=sOr
 ·rw [if_pos c1]at h;cases h;exact⟨Nat.or_lt_two_pow hx hy,by omega⟩
 rw [if_neg c1]at h;by_cases c2:op=sXor
 ·rw [if_pos c2]at h;cases h;exact⟨Nat.xor_lt_two_pow hx hy,by omega⟩
 rw [if_neg c2]at h;by_cases c3:op=sAdd
 ·rw [if_pos c3]at h;cases h;exact⟨Nat.mod_lt _ hp,by omega⟩
 rw [if_neg c3]at h;by_cases c4:op=sSub
 ·rw [if_pos c4]at h;cases h;exact⟨Nat.mod_lt _ hp,by omega⟩
 rw [if_neg c4]at h;by_cases c5:op=sMul
 ·rw [if_pos c5]at h;cases h;exact⟨Nat.mod_lt _ hp,by omega⟩
 rw [if_neg c5]at h;by_cases c6:op=sUdiv
 ·rw [if_pos c6]at h;cases h;exact⟨zru hx,by omega⟩
 rw [if_neg c6]at h;by_cases c7:op=sUrem
 ·rw [if_pos c7]at h;cases h;exact⟨Nat.lt_of_le_of_lt (zrt _ _) hx,by omega⟩
 rw [if_neg c7]at h;by_cases c8:op=sSll
 ·rw [if_pos c8]at h;cases h;exact⟨Nat.mod_lt _ hp,by omega⟩
 rw [if_neg c8]at h;by_cases c9:op=sSrl
 ·rw [if_pos c9]at h;cases h;exact⟨z3r _ _,by omega⟩
 rw [if_neg c9]at h;by_cases c10:op=sSra
 ·rw [if_pos c10]at h;cases h;exact⟨z3r _ _,by omega⟩
 rw [if_neg c10]at h;by_cases c11:op=sEq
 ·rw [if_pos c11]at h;cases h;exact⟨by show(if _ then 1 else 0)<2;split<;>omega,by omega⟩
 rw [if_neg c11]at h;by_cases c12:op=sUlt
 ·rw [if_pos c12]at h;cases h;exact⟨by show(if _ then 1 else 0)<2;split<;>omega,by omega⟩
 rw [if_neg c12]at h;by_cases c13:op=sSlt
 ·rw [if_pos c13]at h;cases h;exact⟨by show(if _ then 1 else 0)<2;split<;>omega,by omega⟩
 rw [if_neg c13]at h;cases h
theorem zki(op:List UInt8):ACall Tryz.prog 167 [vSL op] [] (fun r o=>r=vB (binK op)):=by
 refine yN Tryz.func167 fun C hC hCl hDs hGk=>?_;have q:=zjx op 1 0 0 (by decide) (by decide) (by decide) (by decide);refine yC Tryz.func167 rfl trivial q ⟨.refl _,.eL ?_,.eL ?_,trivial⟩ ?_ (hr:=by rintro r o rfl;unfold binA;split<;>rfl)
 ·rfl
 ·rfl
 rintro r o rfl;unfold binK;cases hb:binR op 1 0 0 with
 | none=>exact yR Tryz.func167 rfl trivial rfl
 | some p=>exact yR Tryz.func167 rfl trivial rfl
def rbinA:Option (Nat×Nat)→AV
 | some p=>tupOf [.d (vN p.1 p.2),vI .i64 0]
 | none=>tupOf [.d z24,vI .i64 1]
theorem zme(op:List UInt8)(w x y:Nat)(hc:op≠z2z)(hx:x<2^w)(hy:y<2^w)(hw:0<w)(hb:w≤128):ACall Tryz.prog 144 [vSL op,.d (vN w x),.d (vN w y)] [] (fun r o=>r=rbinA (binR op w x y)):=by
 refine yN Tryz.func144 fun C hC hCl hDs hGk=>?_;have q:=zjx op w x y hx hy hw hb;have hs:=zoq op w x y;refine yB Tryz.func144 rfl trivial (fun h=>?_) (fun h=>?_)<;>rw [show((⟨#[99,111,110,99,97,116]⟩:ByteArray))=⟨z2z.toArray⟩from rfl,strE]at h
 ·simp at h;exact absurd h hc
 refine yV Tryz.func144 rfl trivial (zki op) (.refl _) ?_;refine yB Tryz.func144 rfl trivial (fun h1=>?_) (fun h1=>?_)
 ·refine yR Tryz.func144 rfl trivial ?_;have h1:binK op=false:=by simpa using h1
  rw [h1]at hs;cases hr:binR op w x y with
  | none=>rfl
  | some p=>rw [hr]at hs;cases hs
 have h1:binK op=true:=by simpa using h1
 rw [h1]at hs;obtain⟨p,hr⟩:=Option.isSome_iff_exists.1 hs;obtain⟨hp1,hp2⟩:=zor hx hy hr;rw [hr]at q ⊢;refine yB Tryz.func144 rfl trivial (fun h=>?_) (fun _=>?_)
 ·have h:((w:Int) !=(w:Int))=true:=h;simp at h
 refine yO 10 Tryz.func144 rfl trivial ?_;refine yQ Tryz.func161 rfl trivial (z77 w x (by omega)) (.refl _) ?_;refine yQ Tryz.func161 rfl trivial (z77 w y (by omega)) (.refl _) ?_;refine yQ Tryz.func168 rfl trivial (q) (.refl _) ?_;refine yq rfl trivial ?_;refine yV Tryz.func144 rfl trivial (zae p.1 p.2 hp1 (by omega)) (.refl _) ?_;exact yR Tryz.func144 rfl trivial rfl
def RepOk:Prop:=∀(c:UInt8) (n:Nat),n≤127→ACall Tryz.prog 208 [vSL [c],vI .i64 n] [] (fun r o=>r=vSL (List.replicate n c))
theorem zu3(w x v y:Nat)(hw:0<w)(hv:0<v)(hwb:w≤128)(hvb:v≤128)(h:w+v≤128):ACall Tryz.prog 234 [vSL z2z,.d (vN w x),.d (vN v y)] [] (fun r o=>r=tupOf [.d (vN (w+v) (jnN w x v y)),vI .i64 0]):=by
 refine yN Tryz.func234 fun C hC hCl hDs hGk=>?_;have hj:=zhr w x v y hw hv hwb hvb;simp only [if_pos h]at hj;refine yB Tryz.func234 rfl trivial (fun _=>?_) (fun h=>(strF (a:=z2z) (b:=z2z) rfl h).elim);refine yV Tryz.func234 rfl trivial hj (.refl _) ?_;exact yR Tryz.func234 rfl trivial rfl
theorem zld{m x:Nat}(hx:x<2^m):x ^^^ 2^m=2^m+x:=by
 apply Nat.eq_of_testBit_eq;intro j;have h:=Nat.testBit_two_pow_mul_add 1 hx j;rw [Nat.mul_one]at h;rw [h,Nat.testBit_xor,Nat.testBit_two_pow];split
 ·rename_i hj;simp [show ¬m=j by omega]
 ·rename_i hj;rw [Nat.testBit_lt_two_pow (Nat.lt_of_lt_of_le hx (Nat.pow_le_pow_right (by decide) (by omega)))];by_cases e:m=j
  ·subst e;simp
  ·obtain⟨k,hk⟩:∃k,j-m=k+1:=⟨j-m-1,by omega⟩
   rw [hk];simp [e,Nat.testBit_succ]
theorem zh0{m x:Nat}(hx:x<2^(m+1)):x.testBit m=decide (2^m≤x):=by
 rw [Nat.testBit_eq_decide_div_mod_eq];rw [Nat.pow_succ]at hx;have:x / 2^m<2:=by rw [Nat.div_lt_iff_lt_mul (Nat.two_pow_pos _)];omega
 rw [Nat.mod_eq_of_lt this,decide_eq_decide];constructor
 ·intro h;have:=Nat.div_mul_le_self x (2^m);rw [h]at this;omega
 ·intro h;have:=Nat.div_pos h (Nat.two_pow_pos m);omega
theorem zlc{m x:Nat}(hx:x<2^(m+1)):x ^^^ 2^m=if x.testBit m then x-2^m else 2^m+x:=by
 rw [zh0 hx];rw [Nat.pow_succ]at hx;by_cases h:2^m≤x
 ·simp only [h,decide_true,if_true];have:=zld (m:=m) (x:=x-2^m) (by omega);rw [show 2^m+(x-2^m)=x by omega]at this
  conv=>lhs;rw [←this]
  rw [Nat.xor_assoc,Nat.xor_self,Nat.xor_zero]
 ·simp only [h,decide_false,Bool.false_eq_true,if_false];exact zld (by omega)
theorem zu8{w x y:Nat}(hw:0<w)(hx:x<2^w)(hy:y<2^w):decide (x ^^^ 2^(w-1)<y ^^^ 2^(w-1))=((x.testBit (w-1)&&!y.testBit (w-1))||((x.testBit (w-1)==y.testBit (w-1))&&decide (x<y))):=by
 obtain⟨m,rfl⟩:∃m,w=m+1:=⟨w-1,by omega⟩
 rw [Nat.add_sub_cancel,zlc hx,zlc hy,zh0 hx,zh0 hy];rw [Nat.pow_succ]at hx hy;by_cases h1:2^m≤x<;>by_cases h2:2^m≤y<;>simp [h1,h2]<;>omega
theorem zrn{w x:Nat}(hw:0<w)(hx:x<2^w):x ^^^ 2^(w-1)<2^w:=Nat.xor_lt_two_pow hx (Nat.pow_lt_pow_right (by decide) (by omega))
theorem zpe{n X j:Nat}(hj:j / 64<n):(lmb n X).set (j / 64) ((lmb n X).getD (j / 64) 0 ^^^ 2^(j%64))=lmb n (X ^^^ 2^j):=by
 have hjl:j / 64<(lmb n X).length:=by rw [zr];exact hj
 refine zbr (by rw [List.length_set,zr]) (zep (z10 _ _) (Nat.xor_lt_two_pow (n:=64) (z1y (z10 _ _) _) (pow64 (Nat.mod_lt _ (by omega))))) fun i hi=>?_;rw [z57,Nat.testBit_xor,Nat.testBit_two_pow,←z4a (n:=n) (X:=X) (i:=i) (by omega),z57];by_cases e:i / 64=j / 64
 ·have e1:((lmb n X).set (j / 64) ((lmb n X).getD (j / 64) 0 ^^^ 2^(j%64))).getD (i / 64) 0=(lmb n X).getD (j / 64) 0 ^^^ 2^(j%64):=by
   rw [e];simp [hjl]
  rw [e1,Nat.testBit_xor,Nat.testBit_two_pow,e,decide_eq_decide.2 (show j%64=i%64↔j=i by omega)]
 ·have e1:((lmb n X).set (j / 64) ((lmb n X).getD (j / 64) 0 ^^^ 2^(j%64))).getD (i / 64) 0=(lmb n X).getD (i / 64) 0:=by
   simp [List.getElem?_set,Ne.symm e]
  rw [e1];have:¬j=i:=fun h=>e (by rw [h])
  simp [this]
theorem zn8(w x:Nat)(hx:x<2^w)(hwb:w≤100000):ACall Tryz.prog 237 [.d (vN w x)] [] (fun r o=>r=.ag [vI .i64 w,.gs 5]∧o=[none,none,none,none,none,some (gUs (lmb (z7 w) x))]):=by
 refine yN Tryz.func237 fun C hC hCl hDs hGk=>?_;refine yW [] Tryz.func237 rfl trivial (zdv w 0 (lmb (z7 w) x) (z10 _ _) (zr _ _) hwb (by decide)) trivial (.refl _) ?_;have eup:upI (lmb (z7 w) x) w 0 (w-0)=lmb (z7 w) x:=by
  rw [zdw (w-0) (Nat.le_refl _),Nat.sub_zero,Nat.mod_eq_of_lt hx,Nat.pow_zero,Nat.mul_one]
 rw [eup];exact yL Tryz.func237 rfl trivial (.refl _) (oAl rfl) ⟨rfl,rfl⟩ (o2:=[none,none,none,none,none,some (gUs (lmb (z7 w) x))])
theorem zfj(w x:Nat)(hx:x<2^w)(hw:0<w)(hwb:w≤100000):ACall Tryz.prog 239 [.d (vN w x),.ptr 0 0] [some (cV1 237)] (fun r o=>r=.ag [vI .i64 w,.gs 8]∧o=[some (cV1 237),none,none,none,none,none,none,none,some (gUs (lmb (z7 w) (x ^^^ 2^(w-1))))]):=by
 refine yN Tryz.func239 fun C hC hCl hDs hGk=>?_;refine yW [] Tryz.func239 rfl trivial (zn8 w x hx hwb) trivial (.refl _) ?_;have e0:IntKind.i64.wrap ((w:Int)-1)=((w-1:Nat):Int):=by rw [z6 (by omega) (by omega)];omega
 have e1:IntKind.i64.wrap (((w-1:Nat):Int).tdiv 64)=(((w-1) / 64:Nat):Int):=by rw [show((w-1:Nat):Int).tdiv 64=(((w-1) / 64:Nat):Int)from rfl,z6 (by omega) (by omega)]
 have e2:((w-1:Nat):Int).tmod 64=(((w-1)%64:Nat):Int):=rfl;have hm:(w-1)%64<64:=Nat.mod_lt _ (by omega);have hat:(w-1) / 64<z7 w:=z1l (by omega);refine yO 13 Tryz.func239 rfl trivial ?_;refine yq rfl ?_ ?_
 ·simp only [e0,e1,e2,Int.toNat_natCast,List.length_map,zr];exact⟨by omega,by decide,hat,⟨by omega,by omega⟩,by decide,trivial⟩
 refine yL Tryz.func239 rfl ?_ (.refl _) ⟨.refl _,.gL ?_,trivial⟩ ⟨rfl,rfl⟩ (o2:=[some (cV1 237),none,none,none,none,none,none,none,some (gUs (lmb (z7 w) (x ^^^ 2^(w-1))))])
 ·simp only [andP,e0,e1,Int.toNat_natCast,List.length_map,zr];exact⟨hat,⟨by omega,by omega⟩,trivial⟩
 ·simp only [e0,e1,e2,Int.toNat_natCast];rw [←zpe hat,List.map_set];congr 1;show D.v (.int .u64 _)=D.v (.int .u64 _);have e3:IntKind.u64.wrap ((1:Int)*2^(min (((w-1)%64:Nat):Int).toNat IntKind.u64.bits))=((2^((w-1)%64):Nat):Int):=by
   have:=shlU (x:=1) hm;rw [Nat.one_mul,Nat.mod_eq_of_lt (pow64 hm)]at this;exact this
  rw [Int.toNat_natCast]at e3;rw [e3,xorU (z1y (z10 _ _) _) (pow64 hm)]
theorem zan(w x:Nat)(hx:x<2^w)(hw:0<w)(hwb:w≤100000):ACall Tryz.prog 239 [.d (vN w x),.ptr 0 0] [some (cV1 237)] (fun r o=>r=.d (vN w (x ^^^ 2^(w-1)))∧o=[some (cV1 237)]):=
 (zfj w x hx hw hwb).frzO [8] rfl (.agL (.refl _)) (o3:=[some (cV1 237)]) ⟨.refl _,trivial⟩ rfl rfl (Nat.le_refl _)
theorem zli(w x y:Nat)(hx:x<2^w)(hy:y<2^w)(hw:0<w)(hwb:w≤100000):ACall Tryz.prog 249 [.d (vN w x),.d (vN w y)] [] (fun r o=>r=.d (vN w (quN w x y))):=by
 refine yN Tryz.func249 fun C hC hCl hDs hGk=>?_;refine yV Tryz.func249 rfl trivial (z9t w x y hx hy hw hwb) (.refl _) ?_;exact yR Tryz.func249 rfl trivial rfl
theorem zlh(w x y:Nat)(hx:x<2^w)(hy:y<2^w)(hw:0<w)(hwb:w≤100000):ACall Tryz.prog 251 [.d (vN w x),.d (vN w y)] [] (fun r o=>r=.d (vN w (reN x y))):=by
 refine yN Tryz.func251 fun C hC hCl hDs hGk=>?_;refine yV Tryz.func251 rfl trivial (z9t w x y hx hy hw hwb) (.refl _) ?_;exact yR Tryz.func251 rfl trivial rfl
theorem zpi(w x y:Nat)(hx:x<2^w)(hy:y<2^w)(hw:0<w)(hwb:w≤100000):ACall Tryz.prog 259 [.d (vN w x),.d (vN w y)] [] (fun r o=>r=.d (vN 1 (if x<y then 1 else 0))):=by
 refine yN Tryz.func259 fun C hC hCl hDs hGk=>?_;refine yV Tryz.func259 rfl trivial (z7g w x y hx hy hw (by omega)) (.refl _) ?_;refine yV Tryz.func259 rfl trivial (z4f (decide (x<y))) (.refl _) ?_;refine yR Tryz.func259 rfl trivial ?_;by_cases h:x<y<;>simp [h]<;>rfl
theorem zpq(w x y:Nat)(hx:x<2^w)(hy:y<2^w)(hw:0<w)(hwb:w≤100000):ACall Tryz.prog 261 [.d (vN w x),.d (vN w y),.ptr 1 0] [some (cV1 237),some (cV2 239)]
  (fun r o=>r=.d (vN 1 (if(x.testBit (w-1)&&!y.testBit (w-1))||((x.testBit (w-1)==y.testBit (w-1))&&decide (x<y))then 1 else 0))∧o=[some (cV1 237),some (cV2 239)]):=by
 refine yN Tryz.func261 fun C hC hCl hDs hGk=>?_;refine zlv 5 2 [0] tabOk Tryz.func261 rfl rfl (objs1:=[some (cV1 237),some (cV2 239),some (bN w x),some (bN w y),some zV]) (r0:=.d (vN w (x ^^^ 2^(w-1)))) trivial (by kernel_rfl) (by decide) (by kernel_rfl) rfl (yq rfl trivial rfl) (yq rfl trivial rfl) rfl rfl rfl rfl (zf Tryz.func239 rfl rfl) (zan w x hx hw hwb) ⟨⟨_,rfl,.refl _⟩,trivial⟩ (.refl _) rfl rfl rfl ?_ rfl ?_
 ·rintro r o ⟨rfl,rfl⟩;exact⟨rfl,rfl⟩
 refine yW [0] Tryz.func261 rfl trivial (zan w y hy hw hwb) ⟨⟨_,rfl,.refl _⟩,trivial⟩ (.refl _) ?_;refine yV Tryz.func261 rfl trivial (z7g w (x ^^^ 2^(w-1)) (y ^^^ 2^(w-1)) (zrn hw hx) (zrn hw hy) hw (by omega)) (.refl _) ?_;rw [zu8 hw hx hy];refine yV Tryz.func261 rfl trivial (z4f _) (.refl _) ?_;exact yL Tryz.func261 rfl trivial (.refl _) (oAl rfl) ⟨rfl,rfl⟩ (o2:=[some (cV1 237),some (cV2 239)])
theorem zhd(w x:Nat)(hx:x<2^w)(hwb:w≤100000):ACall Tryz.prog 222 [.d (vN w x)] [] (fun r o=>r=.d (vN 1 (if cnt x.testBit w=w then 1 else 0))):=by
 refine yN Tryz.func222 fun C hC hCl hDs hGk=>?_;refine yO 4 Tryz.func222 rfl trivial ?_;refine yQ Tryz.func224 rfl trivial (zbe w x hx (by omega)) (.refl _) ?_;refine yq rfl trivial ?_;refine yV Tryz.func222 rfl trivial (z4f _) (.refl _) ?_;refine yR Tryz.func222 rfl trivial ?_;by_cases h:cnt x.testBit w=w
 ·rw [if_pos h,h];simp;rfl
 ·have:¬((cnt x.testBit w:Nat):Int)=(w:Int):=by omega
  rw [if_neg h];simp [this];rfl
theorem zk9(w x:Nat)(hx:x<2^w)(hwb:w≤100000):ACall Tryz.prog 225 [.d (vN w x)] [] (fun r o=>r=.d (vN 1 (if 0<cnt x.testBit w then 1 else 0))):=by
 refine yN Tryz.func225 fun C hC hCl hDs hGk=>?_;refine yV Tryz.func225 rfl trivial (zbe w x hx (by omega)) (.refl _) ?_;refine yV Tryz.func225 rfl trivial (z4f _) (.refl _) ?_;refine yR Tryz.func225 rfl trivial ?_;by_cases h:0<cnt x.testBit w
 ·have:((cnt x.testBit w:Nat):Int)>0:=by omega
  rw [if_pos h];simp [h];rfl
 ·have:¬((cnt x.testBit w:Nat):Int)>0:=by omega
  rw [if_neg h];simp [h];rfl
theorem zhc(w x:Nat)(hx:x<2^w)(hwb:w≤100000):ACall Tryz.prog 226 [.d (vN w x)] [] (fun r o=>r=.d (vN 1 (if cnt x.testBit w%2=1 then 1 else 0))):=by
 refine yN Tryz.func226 fun C hC hCl hDs hGk=>?_;refine yV Tryz.func226 rfl trivial (zbe w x hx (by omega)) (.refl _) ?_;refine yV Tryz.func226 rfl ⟨by decide,trivial⟩ (z4f _) (.refl _) ?_;refine yR Tryz.func226 rfl trivial ?_;have e:((cnt x.testBit w:Nat):Int).tmod 2=((cnt x.testBit w%2:Nat):Int):=rfl;have e2:((((cnt x.testBit w).cast:Int).tmod 2)==1)=decide (cnt x.testBit w%2=1):=by
  rw [e];by_cases h:cnt x.testBit w%2=1
  ·rw [h];rfl
  ·have h0:cnt x.testBit w%2=0:=by omega
   rw [h0];rfl
 rw [e2];by_cases h:cnt x.testBit w%2=1<;>simp [h]<;>rfl
theorem zur(v w:Nat)(f g:Nat→Bool):bl v f++bl w g=bl (v+w) (fun i=>if i<v then f i else g (i-v)):=by
 refine List.ext_getElem (by simp [bl]) fun i h1 h2=>?_;simp only [bl,List.getElem_append,List.getElem_map,List.getElem_range,List.length_map,List.length_range];split
 ·rename_i h;simp [h]
 ·rename_i h;simp [h]
theorem zq1(w x v y:Nat)(hwb:w≤128)(hvb:v≤128)(h:w+v≤128):ACall Tryz.prog 144 [vSL z2z,.d (vN w x),.d (vN v y)] [] (fun r o=>r=tupOf [.d (vN (w+v) (jnN w x v y)),vI .i64 0]):=by
 refine yN Tryz.func144 fun C hC hCl hDs hGk=>?_;have hpl:C.π.length=0:=by rw [hCl,hC];rfl
 have ew:IntKind.i64.wrap ((w:Int)+v)=((w+v:Nat):Int):=by rw [z6 (by omega) (by omega)];omega
 refine yB Tryz.func144 rfl trivial (fun _=>?_) (fun hc=>?_);rotate_left
 ·rw [show((⟨#[99,111,110,99,97,116]⟩:ByteArray))=⟨z2z.toArray⟩from rfl,strE]at hc;simp at hc
 refine yB Tryz.func144 rfl trivial (fun hc=>?_) (fun _=>?_)
 ·have hc:decide (IntKind.i64.wrap ((w:Int)+v)>128)=true:=hc;rw [ew]at hc;simp only [decide_eq_true_eq]at hc;omega
 refine z4l 3 1 [(1,some (21,.gs 3))]
  (fun L=>[some (bN w x),some (bN v y),some zV,some (sel 1 L (gBs (bl v y.testBit)) HD)]) _
  (objsF:=[some (bN w x),some (bN v y),some zV,some (gBs (bl v y.testBit))])
  tabOk Tryz.func144 rfl rfl trivial (by kernel_rfl) (by kernel_rfl) ?_ ?_ ?_ rfl (fun L=>yq rfl trivial rfl) ?_ ?_
 ·rfl
 ·intro L hL;simp only [z7v (hL 1 (by decide))]
 ·intro j L hb;simp only [actB,List.any_cons,List.any_nil,Bool.or_false]at hb;have n1:=Nat.ne_of_beq_eq_false hb;simp only [z2y (fun e=>n1 e.symm)]
 ·refine List.forall_mem_cons.2 ⟨⟨_,rfl,rfl,?_⟩,fun x h=>by cases h⟩;refine zbx (p:=3) (a:=.gs 0) (q0:=1) (o1:=gBs (bl v y.testBit)) rfl rfl (fun _ _ _ h=>h) (zdq v y (by omega)) (zf Tryz.func161 rfl rfl) (by rintro r oz ⟨rfl,rfl⟩;exact⟨rfl,rfl⟩) (.refl _) rfl rfl rfl rfl rfl rfl (by omega) ?_ ?_
  ·intro L h;show some (some (sel 1 L _ _))=_;rw [zaq h]
  ·intro L;simp only [z5v];rfl
 refine yV Tryz.func144 rfl trivial (z77 w x (by omega)) (.refl _) ?_;refine zlz [3] tabOk Tryz.func144 rfl ?_ rfl (z58 (v+w) (fun i=>if i<v then y.testBit i else x.testBit (i-v)) (by omega)) ⟨.eL ?_,trivial⟩ rfl ⟨_,rfl⟩ (by rintro r o rfl;rfl) ?_
 ·simp only [List.length_map,zi,andP];exact⟨by show(v+w)*1≤140737488355328;omega,trivial⟩
 ·rw [←zur,List.map_append]
 rintro r o rfl;refine yR Tryz.func144 rfl trivial ?_;rw [jnN,Nat.add_comm w v];rfl
theorem zsz(w x:Nat):onN w x=cnt x.testBit w:=zgo _ _
theorem z16{k j:List UInt8}{a:AV}{r:List (List UInt8×AV)}(h:¬k=j):z2o k ((j,a)::r)=z2o k r:=by
 rw [z2o,if_neg fun e=>h e.symm]
theorem zut(op:List UInt8)(w x:Nat)(hx:x<2^w)(hw:0<w)(hwb:w≤128):ACall Tryz.prog 214 [vSL op,.d (vN w x)] [] (fun r o=>r=unR op w x):=by
 have hdec:=zr4 w x hw (by omega);have hp:2≤2^w:=by
  have:=Nat.pow_le_pow_right (n:=2) (by decide) hw;rwa [Nat.pow_one]at this
 rw [show x+(2^w-(1+1))+1=x+(2^w-1)by omega]at hdec;unfold unR;rw [zsz];by_cases h0:op=sNot
 ·rw [if_pos h0];subst h0;exact Un_fn sNot _ w x _ _ rfl (z2u w x hx hw (by omega))
 by_cases h1:op=sInc
 ·rw [if_neg h0,if_pos h1];subst h1;exact Un_cl sInc _ w x _ _ rfl (zqn w x hw (by omega))
 by_cases h2:op=sDec
 ·rw [if_neg h0,if_neg h1,if_pos h2];subst h2;exact Un_cl sDec _ w x _ _ rfl (hdec)
 by_cases h3:op=sNeg
 ·rw [if_neg h0,if_neg h1,if_neg h2,if_pos h3];subst h3;exact Un_fn sNeg _ w x _ _ rfl (zqc w x hx hw (by omega))
 by_cases h4:op=z3v
 ·rw [if_neg h0,if_neg h1,if_neg h2,if_neg h3,if_pos h4];subst h4;exact Un_fn z3v _ w x _ _ rfl (zhd w x hx (by omega))
 by_cases h5:op=z6a
 ·rw [if_neg h0,if_neg h1,if_neg h2,if_neg h3,if_neg h4,if_pos h5];subst h5;exact Un_fn z6a _ w x _ _ rfl (zk9 w x hx (by omega))
 by_cases h6:op=z3u
 ·rw [if_neg h0,if_neg h1,if_neg h2,if_neg h3,if_neg h4,if_neg h5,if_pos h6];subst h6;exact Un_fn z3u _ w x _ _ rfl (zhc w x hx (by omega))
 rw [if_neg h0,if_neg h1,if_neg h2,if_neg h3,if_neg h4,if_neg h5,if_neg h6];refine Un_no op w x ?_;unfold unsE;rw [z16 h0,z16 h1,z16 h2,z16 h3,z16 h4,z16 h5,z16 h6];rfl
theorem zu4(op:List UInt8)(w x y:Nat)(hc:op≠z2z)(hx:x<2^w)(hy:y<2^w)(hw:0<w)(hwb:w≤128):ACall Tryz.prog 234 [vSL op,.d (vN w x),.d (vN w y)] [] (fun r o=>r=rbinA (binR op w x y)):=by
 unfold binR;by_cases h0:op=sAnd
 ·rw [if_pos h0];subst h0;exact z5o sAnd _ w x y _ _ hc rfl (zoy w x y hx hw (by omega))
 by_cases h1:op=sOr
 ·rw [if_neg h0,if_pos h1];subst h1;exact z5o sOr _ w x y _ _ hc rfl (zq4 w x y hx hy hw (by omega))
 by_cases h2:op=sXor
 ·rw [if_neg h0,if_neg h1,if_pos h2];subst h2;exact z5o sXor _ w x y _ _ hc rfl (zle w x y hx hy hw (by omega))
 by_cases h3:op=sAdd
 ·rw [if_neg h0,if_neg h1,if_neg h2,if_pos h3];subst h3;exact z5o sAdd _ w x y _ _ hc rfl (zrg w x y hw (by omega))
 by_cases h4:op=sSub
 ·rw [if_neg h0,if_neg h1,if_neg h2,if_neg h3,if_pos h4];subst h4;exact z5o sSub _ w x y _ _ hc rfl (zpn w x y hy hw (by omega))
 by_cases h5:op=sMul
 ·rw [if_neg h0,if_neg h1,if_neg h2,if_neg h3,if_neg h4,if_pos h5];subst h5;exact z5o sMul _ w x y _ _ hc rfl (zea w x y hy hw (by omega))
 by_cases h6:op=sUdiv
 ·rw [if_neg h0,if_neg h1,if_neg h2,if_neg h3,if_neg h4,if_neg h5,if_pos h6];subst h6;exact z5o sUdiv _ w x y _ _ hc rfl (zli w x y hx hy hw (by omega))
 by_cases h7:op=sUrem
 ·rw [if_neg h0,if_neg h1,if_neg h2,if_neg h3,if_neg h4,if_neg h5,if_neg h6,if_pos h7];subst h7;exact z5o sUrem _ w x y _ _ hc rfl (zlh w x y hx hy hw (by omega))
 by_cases h8:op=sSll
 ·rw [if_neg h0,if_neg h1,if_neg h2,if_neg h3,if_neg h4,if_neg h5,if_neg h6,if_neg h7,if_pos h8];subst h8;exact z5o sSll _ w x y _ _ hc rfl (zpr w x y hy hw hwb)
 by_cases h9:op=sSrl
 ·rw [if_neg h0,if_neg h1,if_neg h2,if_neg h3,if_neg h4,if_neg h5,if_neg h6,if_neg h7,if_neg h8,if_pos h9];subst h9;exact z5o sSrl _ w x y _ _ hc rfl (zpo w x y hy hw hwb)
 by_cases h10:op=sSra
 ·rw [if_neg h0,if_neg h1,if_neg h2,if_neg h3,if_neg h4,if_neg h5,if_neg h6,if_neg h7,if_neg h8,if_neg h9,if_pos h10];subst h10;exact z5o sSra _ w x y _ _ hc rfl (zpp w x y hy hw hwb)
 by_cases h11:op=sEq
 ·rw [if_neg h0,if_neg h1,if_neg h2,if_neg h3,if_neg h4,if_neg h5,if_neg h6,if_neg h7,if_neg h8,if_neg h9,if_neg h10,if_pos h11];subst h11;exact z5o sEq _ w x y _ _ hc rfl (ztl w x y hx hy)
 by_cases h12:op=sUlt
 ·rw [if_neg h0,if_neg h1,if_neg h2,if_neg h3,if_neg h4,if_neg h5,if_neg h6,if_neg h7,if_neg h8,if_neg h9,if_neg h10,if_neg h11,if_pos h12];subst h12;exact z5o sUlt _ w x y _ _ hc rfl (zpi w x y hx hy hw (by omega))
 by_cases h13:op=sSlt
 ·rw [if_neg h0,if_neg h1,if_neg h2,if_neg h3,if_neg h4,if_neg h5,if_neg h6,if_neg h7,if_neg h8,if_neg h9,if_neg h10,if_neg h11,if_neg h12,if_pos h13];subst h13;exact zuy sSlt _ w x y _ _ hc rfl (zpq w x y hx hy hw (by omega))
 rw [if_neg h0,if_neg h1,if_neg h2,if_neg h3,if_neg h4,if_neg h5,if_neg h6,if_neg h7,if_neg h8,if_neg h9,if_neg h10,if_neg h11,if_neg h12,if_neg h13];refine zux op z24 z24 w w _ _ hc ?_;unfold binsE;rw [z16 h0,z16 h1,z16 h2,z16 h3,z16 h4,z16 h5,z16 h6,z16 h7,z16 h8,z16 h9,z16 h10,z16 h11,z16 h12,z16 h13];rfl
end Go.Proofs.YtbodbhpdelgpnaaGreatDoor
