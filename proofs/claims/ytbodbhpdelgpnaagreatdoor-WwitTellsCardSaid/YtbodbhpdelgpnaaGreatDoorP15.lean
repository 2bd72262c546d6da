/- A part of the proof. -/
import Derived.Test.YtbodbhpdelgpnaaGreatDoorP14
import Derived.RangeFuncNested
import Derived.RangeFuncBox
import Derived.RangeFuncLeaves
import Derived.Shelf.Abstract
import Derived.WalkKit
import Derived.OwnWalkIn
import Derived.TacticsInMore
import Derived.LoopNIn
import Derived.LoopIn
set_option linter.unusedVariables false
set_option linter.unusedSimpArgs false
set_option linter.unusedSectionVars false
set_option maxRecDepth 100000
set_option maxHeartbeats 8000000
namespace Go.Proofs.YtbodbhpdelgpnaaGreatDoor
open Go Ab Go.RowKit Go.Shelf
attribute [local go_sem] Oper.semAt_some
def ups(n k:Nat):List Nat:=(List.range k).map fun j=>n-1-j
theorem zii(n k:Nat):ups n (k+1)=ups n k++[n-1-k]:=by simp [ups,List.range_succ]
theorem zse(n k:Nat):(ups n k).length=k:=by simp [ups]
set_option maxRecDepth 100000 in
set_option maxHeartbeats 2000000 in
theorem zuq(F:Fence)(n:Nat)(h8:F.fn 264)(hro:F.round=none)(hn:1≤n)(l Bs n₀ b off len cap:Nat)(a:Nat→Nat)(hreach:len*8≤140737488351232)(hb:b<n₀)(J Jx:List (Fin len)→World→Prop)
  (hY:∀pre x W,J pre W→pre.length<len→YieldAt F (n-1) Tryz.prog l #[.int .i64 (x.1:Int),.int .u64 (a x.1:Int)] W fun e W'=>
   (e=.returned (.bool true)∧J (pre++[x]) W'∧Below n₀ W W')∨(e=.returned (.bool false)∧Jx (pre++[x]) W'))
  (W:World) (hBs:W.cell? ⟨Bs,0,none⟩=some (.slice (some ⟨b,off,none⟩) len cap)) (hc:∀j,j<len→W.cell? ⟨b,off+j,none⟩=some (.int .u64 (a j:Int))) (hBn:Bs<n₀) (h0:J [] W) :
  CallsIn F n Tryz.prog 264 #[.func (.yield l) #[] #[],.pointer (some ⟨Bs,0,none⟩)] W fun e W'=>(∃v,e=.returned v) ∧
   ((∃ys,ys.map (·.1)=ups len len∧J ys W')∨(∃pre,(∃k,k≤len∧pre.map (·.1)=ups len k)∧Jx pre W')):=by
 refine callsIn_of_wp Tryz.func264 rfl h8 ?_ hro;simp only [Tryz.ntmps264,List.size_toArray,List.length_cons,List.length_nil,Nat.reduceAdd,Nat.reduceSub,Array.replicate_succ,Array.replicate_zero,List.push_toArray,List.append_toArray,List.nil_append,List.cons_append]
 gi_wp2
 gi_loopw [3] (fun i wr=>∃(k:Nat) (pre:List (Fin len)),pre.map (·.1)=ups len k∧J pre wr∧Below n₀ W wr∧((∃m:Nat,k+(m+1)=len∧i=.int .i64 (m:Int))∨(k=len∧i=.int .i64 (-1))))
  (fun i _=>(intOf i+1).toNat)
 case atStart=>
  refine⟨0,[],rfl,h0,Below.refl _ _,?_⟩;rcases Nat.eq_zero_or_pos len with h|h
  ·subst h;exact .inr ⟨rfl,by simp⟩
  ·refine .inl ⟨len-1,by omega,?_⟩;simp;omega
 case round=>
  obtain⟨k,pre,hpre,hJs,hnx,hi⟩:=hrel;rcases hi with⟨m,hk,rfl⟩|⟨rfl,rfl⟩
  ·have hcx:wr.cell? ⟨b,off+m,none⟩=some (.int .u64 (a m:Int)):=(hnx.cell (p:=⟨b,off+m,none⟩) hb).trans (hc m (by omega));have hBx:wr.cell? ⟨Bs,0,none⟩=some (.slice (some ⟨b,off,none⟩) len cap):=(hnx.cell (p:=⟨Bs,0,none⟩) hBn).trans hBs;have hlen:pre.length=k:=by rw [←zse len k,←hpre,List.length_map]
   obtain⟨fn,tmps,assign,body,hy,hR⟩:=hY _ ⟨m,by omega⟩ wr hJs (by omega)
   dsimp only at hy
   have hml:m<len:=by omega
   have hpre':(pre++[(⟨m,hml⟩:Fin len)]).map (·.1)=ups len (k+1):=by
    rw [List.map_append,hpre,zii];simp;omega
   gi_wp2
   refine hR.mono ?_;rintro e W3 (⟨rfl,hJ3,hk3⟩|⟨rfl,hJx3⟩)
   ·gi_wp2
    go_roundw
    case rel=>
     refine⟨k+1,_,hpre',hJ3,hnx.trans hk3,?_⟩;cases m with
     | zero=>exact .inr ⟨by omega,by simp⟩
     | succ m=>exact .inl ⟨m,by omega,by simp⟩
    case measure=>first|(simp [intOf];done)|(simp [intOf];omega)
   ·gi_wp2
    refine bodyPost_ret (results_none rfl _ _ _) rfl ?_;exact⟨⟨_,rfl⟩,.inr ⟨_,⟨k+1,by omega,hpre'⟩,hJx3⟩⟩
  ·gi_wp2
   go_end0
   exact⟨⟨_,rfl⟩,.inl ⟨_,hpre,hJs⟩⟩
set_option maxHeartbeats 1000000 in
theorem bw_in(F:Fence)(n:Nat)(h6:F.fn 263)(hro:F.round=none)(a:Option Addr)(len cap:Nat)(w:World):
  CallsIn F n Tryz.prog 263 #[.slice a len cap] w fun e w'=>e=.returned (.func (.func 264) #[] #[.pointer (some ⟨w.heap.size,0,none⟩)])∧w'=w.alloc (.cells #[.slice a len cap] 116):=by
 refine callsIn_of_wp Tryz.func263 rfl h6 ?_ hro;simp only [Tryz.ntmps263,List.size_toArray,List.length_cons,List.length_nil,Nat.reduceAdd,Nat.reduceSub,Array.replicate_succ,Array.replicate_zero,List.push_toArray,List.append_toArray,List.nil_append,List.cons_append]
 gi_wp2
 go_ret
 exact⟨rfl,rfl⟩
theorem zr8(F:Fence)(n:Nat)(h8:F.fn 264)(hro:F.round=none)(hn:1≤n)(Bs n₀ b off len cap:Nat)(a:Nat→Nat)(hreach:len*8≤140737488351232)(w:World)(hBs:Bs<n₀)(hn₀:n₀≤w.heap.size)(hb:b<n₀)
  (hc:w.cell? ⟨Bs,0,none⟩=some (.slice (some ⟨b,off,none⟩) len cap)) (hI:∀j,j<len→w.cell? ⟨b,off+j,none⟩=some (.int .u64 (a j:Int))) :
  SeqStopsK F n Tryz.prog 264 #[.pointer (some ⟨Bs,0,none⟩)] (fun x:Fin len=>#[Value.int .i64 (x.1:Int),Value.int .u64 (a x.1:Int)]) (Below n₀) (fun ys=>ys.map (·.1)=ups len len)
   (fun pre=>∃k,k≤len∧pre.map (·.1)=ups len k) len w:=fun l J Jx W hW _ _ hY h0=>by
 have hc':=(hW.cell (p:=⟨Bs,0,none⟩) (Nat.lt_of_lt_of_le hBs hn₀)).trans hc;exact zuq F n h8 hro hn l Bs n₀ b off len cap a hreach hb J Jx hY W hc' (fun j hj=>(hW.cell (p:=⟨b,off+j,none⟩) (Nat.lt_of_lt_of_le hb hn₀)).trans (hI j hj)) hBs h0
def zp7(n:Nat)(x y:Nat→Nat)(v:Bool):Prop:=
 (v=false∧∀j,j<n→x j=y j)∨∃m,m<n∧x m≠y m∧(∀j,m<j→j<n→x j=y j)∧v=decide (x m<y m)
set_option maxRecDepth 100000 in
set_option maxHeartbeats 4000000 in
theorem zt8(F:Fence)(n:Nat)(h4:F.fn 260)(h6:F.fn 263)(h8:F.fn 264)(hro:F.round=none)(hn:3≤n)(wa wb:Int)(ba oa ca bb ob cb len:Nat)(x y:Nat→Nat)(hx:∀j,x j<18446744073709551616)(hy:∀j,y j<18446744073709551616)(hreach:len*8≤140737488351232)(w:World)
  (hba:ba<w.heap.size) (hbb:bb<w.heap.size) (hIa:∀j,j<len→w.cell? ⟨ba,oa+j,none⟩=some (.int .u64 (x j:Int))) (hIb:∀j,j<len→w.cell? ⟨bb,ob+j,none⟩=some (.int .u64 (y j:Int))) :
  CallsIn F n Tryz.prog 260 #[.agg #[.int .i64 wa,.slice (some ⟨ba,oa,none⟩) len ca],.agg #[.int .i64 wb,.slice (some ⟨bb,ob,none⟩) len cb]] w fun e W'=>
   (∃v,e=.returned (.bool v)∧zp7 len x y v)∧Below w.heap.size w W':=by
 have h1:1≤n:=by omega
 refine callsIn_of_wp_marks Tryz.func260 rfl h4 ?_ hro;simp only [Tryz.ntmps260,List.size_toArray,List.length_cons,List.length_nil,Nat.reduceAdd,Nat.reduceSub,Array.replicate_succ,Array.replicate_zero,List.push_toArray,List.append_toArray,List.nil_append,List.cons_append]
 gi_wp2_with (gi_at_call 263;refine(bw_in F (n-1) h6 hro _ _ _ _).mono ?_;rintro e w' ⟨rfl,rfl⟩)
 obtain⟨w1,hw1⟩:∃w1,w.alloc (.cells #[.int .i64 wa,.slice (some ⟨ba,oa,none⟩) len ca] 118)=w1:=⟨_,rfl⟩
 obtain⟨w2,hw2⟩:∃w2,w1.alloc (.cells #[.int .i64 wb,.slice (some ⟨bb,ob,none⟩) len cb] 118)=w2:=⟨_,rfl⟩
 obtain⟨w3,hw3⟩:∃w3,w2.alloc (.cells #[.bool false] 4)=w3:=⟨_,rfl⟩
 obtain⟨W0,hW0⟩:∃W0,w3.alloc (.cells #[.slice (some ⟨ba,oa,none⟩) len ca] 116)=W0:=⟨_,rfl⟩
 rw [hw1,hw2,hw3,hW0];have s1:w1.heap.size=w.heap.size+1:=by rw [←hw1];simp
 have s2:w2.heap.size=w.heap.size+1+1:=by rw [←hw2,World.size_alloc,s1]
 have s3:w3.heap.size=w.heap.size+1+1+1:=by rw [←hw3,World.size_alloc,s2]
 have hs0:W0.heap.size=w.heap.size+1+1+1+1:=by rw [←hW0,World.size_alloc,s3]
 have hb0:Below w.heap.size w W0:=by
  rw [←hW0,←hw3,←hw2,←hw1];exact((((Below.refl _ w).alloc (Nat.le_refl _) _).alloc (by simp) _).alloc (by simp;omega) _).alloc (by simp;omega) _
 have k1:W0.heap[w.heap.size+1]?=some (.cells #[.int .i64 wb,.slice (some ⟨bb,ob,none⟩) len cb] 118):=by
  rw [←hW0,Below.heap_alloc _ _ _ (by omega),←hw3,Below.heap_alloc _ _ _ (by omega),←hw2,←s1];exact World.alloc_heap_new _ _
 have k2:W0.heap[w.heap.size+1+1]?=some (.cells #[.bool false] 4):=by
  rw [←hW0,Below.heap_alloc _ _ _ (by omega),←hw3,←s2];exact World.alloc_heap_new _ _
 have k3:W0.heap[w.heap.size+1+1+1]?=some (.cells #[.slice (some ⟨ba,oa,none⟩) len ca] 116):=by
  rw [←hW0,←s3];exact World.alloc_heap_new _ _
 have c1:W0.cell? ⟨w.heap.size+1,1,none⟩=some (.slice (some ⟨bb,ob,none⟩) len cb):=by rw [Lib.cell_of_heap k1];rfl
 have c2:W0.cell? ⟨w.heap.size+1+1,0,none⟩=some (.bool false):=by rw [Lib.cell_of_heap k2];rfl
 have f2:W0.frozen? ⟨w.heap.size+1+1,0,none⟩=false:=Lib.frozen_of_heap k2 0;have c3:W0.cell? ⟨w.heap.size+1+1+1,0,none⟩=some (.slice (some ⟨ba,oa,none⟩) len ca):=by rw [Lib.cell_of_heap k3];rfl
 clear hw1 hw2 hw3 k1 k2 k3 s1 s2 s3;clear hW0;refine wpIn_rangeFunc_ownG hro h1 (gf:=264) (lb:=#[.pointer (some ⟨w.heap.size+1+1+1,0,none⟩)]) rfl h8 (enters_of Tryz.func264 (by kernel_rfl) rfl)
  (zr8 F (n-1) h8 hro (by omega) (w.heap.size+1+1+1) W0.heap.size ba oa len ca x hreach W0 (by omega) (Nat.le_refl _) (by omega) c3 (fun j hj=>(hb0.cell (p:=⟨ba,oa+j,none⟩) hba).trans (hIa j hj))) belowK_t (belowK_b (Nat.le_refl _)) (Below.refl _ _) (fun _=>rfl)
  (fun pre W=>(∀p∈pre,x p.1=y p.1)∧Below W0.heap.size W0 W)
  (fun c pre W=>(c=.ret∧∃ini last,pre=ini++[last]∧(∀p∈ini,x p.1=y p.1)∧x last.1≠y last.1∧W.cell? ⟨w.heap.size+1+1,0,none⟩=some (.bool (decide (x last.1<y last.1))))∧Below w.heap.size w W)
  (OwnFrom.and (Own.from (fun s A B row hs hg hr=>hs) _) (ownFrom_below (Nat.le_refl _) (Nat.le_refl _)))
  (fun c=>OwnFrom.and (Own.from (fun s A B row hs hg hr=>by obtain⟨hc,ini,last,e1,e2,e3,e4⟩:=hs;exact⟨hc,ini,last,e1,e2,e3,cell_kept e4 hg hr⟩) _) (ownFrom_below (Nat.le_refl _) hb0.size))
  ⟨by simp,Below.refl _ _⟩
  (fun x'=>{ tmps:=#[.agg #[.int .i64 wa,.slice (some ⟨ba,oa,none⟩) len ca],.agg #[.int .i64 wb,.slice (some ⟨bb,ob,none⟩) len cb],.pointer (some ⟨w.heap.size,0,none⟩),.pointer (some ⟨w.heap.size+1,0,none⟩),.pointer (some ⟨w.heap.size+1+1,0,none⟩),.int .i64 (x'.1:Int),.int .u64 (x x'.1:Int),.pointer (some ⟨w.heap.size,1,none⟩),.slice (some ⟨ba,oa,none⟩) len ca,.func (.func 264) #[] #[.pointer (some ⟨w.heap.size+1+1+1,0,none⟩)],.int .i64 (x'.1:Int),.int .u64 (x x'.1:Int),undef,undef,undef,undef,undef,undef,undef,undef,undef,undef,undef,undef,undef,undef],defers:=[] }) ?assign ?body ?done ?stop
 case assign=>
  intro l x W K hK
  gi_wp2
  exact hK
 case body=>
  rintro l pre ⟨m,hm⟩ W ⟨hp,hB⟩ _
  dsimp only
  have d1:=(hB.cell (p:=⟨w.heap.size+1,1,none⟩) (by show w.heap.size+1<_;omega)).trans c1;have d2:=(hB.cell (p:=⟨w.heap.size+1+1,0,none⟩) (by show w.heap.size+1+1<_;omega)).trans c2;have g2:W.frozen? ⟨w.heap.size+1+1,0,none⟩=false:=by
   have:W.heap[w.heap.size+1+1]?=W0.heap[w.heap.size+1+1]?:=hB.block _ (by omega);rw [←f2];simp only [World.frozen?,this]
  have dy:=(hB.cell (p:=⟨bb,ob+m,none⟩) (by show bb<_;omega)).trans ((hb0.cell (p:=⟨bb,ob+m,none⟩) hbb).trans (hIb m hm))
  gi_wp2
  ·have hne:(((x m:Nat):Int) !=((y m:Nat):Int))=true:=by assumption
   have hne:x m≠y m:=by
    intro e;rw [e]at hne;simp at hne
   exact⟨(KeepsOthers.setCell _ _ _).from _,⟨rfl,pre,⟨m,hm⟩,rfl,hp,hne,World.cell?_setCell_same' _ _ _ (by rw [d2];rfl)⟩,(hb0.trans (hB.mono hb0.size)).setCell (p:=⟨w.heap.size+1+1,0,none⟩) (by show w.heap.size≤w.heap.size+1+1;omega) _⟩
  ·have hne:(((x m:Nat):Int) !=((y m:Nat):Int))=false:=by assumption
   have hne:((x m:Nat):Int)=((y m:Nat):Int):=by simpa using hne
   have hne:x m=y m:=by omega
   exact⟨KeepsFrom.refl _ _,Below.refl _ _,fun p hp'=>(List.mem_append.1 hp').elim (hp p) (fun e=>by simp at e;subst e;exact hne),hB⟩
 case done=>
  rintro D ys W hD hys ⟨hp,hB⟩ hK;have d2:=(hB.cell (p:=⟨w.heap.size+1+1,0,none⟩) (by show w.heap.size+1+1<_;omega)).trans c2;have g2:W.frozen? ⟨w.heap.size+1+1,0,none⟩=false:=by
   have:W.heap[w.heap.size+1+1]?=W0.heap[w.heap.size+1+1]?:=hB.block _ (by omega);rw [←f2];simp only [World.frozen?,this]
  gi_wp2
  have hK':=(KeepsOthers.setCell W ⟨w.heap.size+1+1,0,none⟩ (.bool false)).same D _ hK rfl;refine⟨by simp,.inl ⟨_,_,rfl,run_takeDeferred hK',?_⟩⟩;have hc5:=cell_kept (World.cell?_setCell_same' W ⟨w.heap.size+1+1,0,none⟩ (.bool false) (by rw [d2];rfl)) (grownBy_putObj' _ D (.deferred none)) (fun r e=>by cases e;exact⟨_,hK',rfl⟩);have hBW:=(hb0.trans (hB.mono hb0.size)).setCell (p:=⟨w.heap.size+1+1,0,none⟩) (by show w.heap.size≤w.heap.size+1+1;omega) (.bool false);refine⟨.bool false,?_,⟨false,rfl,.inl ⟨rfl,fun j hj=>?_⟩⟩,hBW.trans (belowK_b (w:=w) (Nat.le_refl _) _ D _ _ (by omega) hK' rfl rfl)⟩
  ·simp [results,Tryz.f260,go_sem,hc5]
  ·have:j∈ys.map (·.1):=by
    rw [hys,ups,List.mem_map];exact⟨len-1-j,by simp;omega,by omega⟩
   obtain⟨p,hpm,rfl⟩:=List.mem_map.1 this;exact hp p hpm
 case stop=>
  rintro D c pre W hD ⟨k,hk,hpre⟩ ⟨⟨rfl,ini,last,e1,e2,e3,hcr⟩,hB⟩ hK
  gi_wp2
  refine⟨by simp,.inl ⟨_,_,rfl,run_takeDeferred hK,?_⟩⟩;have hc5:=cell_kept hcr (grownBy_putObj' _ D (.deferred none)) (fun r e=>by cases e;exact⟨_,hK,rfl⟩);refine⟨.bool (decide (x last.1<y last.1)),?_,⟨_,rfl,.inr ⟨last.1,last.2,e3,fun j h1 h2=>?_,rfl⟩⟩,hB.trans (belowK_b (w:=w) (Nat.le_refl _) W D _ _ (by omega) hK rfl rfl)⟩
  ·simp [results,Tryz.f260,go_sem,hc5]
  ·subst e1;cases k with
   | zero=>simp [ups]at hpre
   | succ k=>
    rw [zii,List.map_append]at hpre;obtain⟨q1,q2⟩:=List.append_inj' hpre rfl;have q2:last.1=len-1-k:=by simpa using q2
    have:j∈ini.map (·.1):=by
     rw [q1,ups,List.mem_map];exact⟨len-1-j,by simp;omega,by omega⟩
    obtain⟨p,hpm,rfl⟩:=List.mem_map.1 this;exact e2 p hpm
theorem zhp{n x y:Nat}(hx:x<2^(64*n))(hy:y<2^(64*n)){v:Bool}(h:zp7 n (fun j=>lw x j) (fun j=>lw y j) v):v=decide (x<y):=by
 rcases h with⟨rfl,h⟩|⟨m,hm,h1,h2,rfl⟩
 ·have:x=y:=by
   apply zna hx hy;unfold lmb;exact List.map_congr_left fun j hj=>h j (List.mem_range.1 hj)
  subst this;simp
 ·have hup:x / 2^(64*(m+1))=y / 2^(64*(m+1)):=by
   apply Nat.eq_of_testBit_eq;intro i;rw [Nat.testBit_div_two_pow,Nat.testBit_div_two_pow];by_cases hi:i+64*(m+1)<64*n
   ·have hj:=h2 ((i+64*(m+1)) / 64) (by omega) (by omega);have:=congrArg (fun z=>z.testBit ((i+64*(m+1))%64)) hj;simp only [lw_tb,show(i+64*(m+1))%64<64 by omega,decide_true,Bool.true_and]at this;rw [show 64*((i+64*(m+1)) / 64)+(i+64*(m+1))%64=i+64*(m+1)by omega]at this;exact this
   ·rw [Nat.testBit_lt_two_pow (Nat.lt_of_lt_of_le hx (Nat.pow_le_pow_right (by decide) (by omega))),Nat.testBit_lt_two_pow (Nat.lt_of_lt_of_le hy (Nat.pow_le_pow_right (by decide) (by omega)))]
  have ex:=z9y x m;have ey:=z9y y m;have dx:=Nat.div_add_mod x (2^(64*(m+1)));have dy:=Nat.div_add_mod y (2^(64*(m+1)));rw [hup]at dx;have lx:x%2^(64*m)<2^(64*m):=Nat.mod_lt _ (Nat.two_pow_pos _);have ly:y%2^(64*m)<2^(64*m):=Nat.mod_lt _ (Nat.two_pow_pos _);have key:∀a b:Nat,a<b→2^(64*m)*a+2^(64*m)≤2^(64*m)*b:=fun a b h=>by
   have:2^(64*m)*(a+1)≤2^(64*m)*b:=Nat.mul_le_mul_left _ h;rwa [Nat.mul_add,Nat.mul_one]at this
  have h1:lw x m≠lw y m:=h1;show decide (lw x m<lw y m)=decide (x<y);rw [decide_eq_decide];constructor
  ·intro h;have:=key _ _ h;omega
  ·intro h;rcases Nat.lt_or_ge (lw x m) (lw y m)with h3|h3
   ·exact h3
   ·have:=key _ _ (show lw y m<lw x m by omega);omega
theorem us_of{w:World}{ok:Nat→Prop}{l:List Nat}{v:Value}(h:RelD w ok (eUs l) v)(hl:l≠[]):∃b o c,v=.slice (some ⟨b,o,none⟩) l.length c∧∀j,j<l.length→b<w.heap.size∧w.cell? ⟨b,o+j,none⟩=some (.int .u64 (l.getD j 0:Int)):=by
 have hlen:(l.map eU).length=l.length:=by simp
 unfold eUs eL at h;generalize hxs:l.map eU=xs at h hlen;cases h with
 | nil hb=>exact absurd (List.map_eq_nil_iff.1 hxs) hl
 | sl he hm hc hb hr=>
  rename_i b o c us;subst hxs;have hus:us=l.map fun x:Nat=>Value.int .u64 (x:Int):=by
   clear hm hc hr hlen hl;generalize hn:l.length=k;induction l generalizing us k with
   | nil=>cases he;rfl
   | cons x r ih=>
    cases he with
    | cons h hl2 t=>
     cases h with
     | cons h hf t'=>
      cases t';cases h;rw [ih t _ rfl];rfl
  subst hus;refine⟨b,o,c,by rw [hlen],fun j hj=>?_⟩;obtain⟨h1,h2⟩:=hm j (by simpa using hj);have h3:w.cell? ⟨b,o+j,none⟩=some (.int .u64 (l.getD j 0:Int)):=by
   rw [h2];simp [hj]
  exact⟨z39 h3,h3⟩
set_option maxRecDepth 100000 in
theorem z7g(w x y:Nat)(hx:x<2^w)(hy:y<2^w)(hw:0<w)(hwb:w≤1000000):ACall Tryz.prog 260 [.d (vN w x),.d (vN w y)] [] (fun r o=>r=vB (decide (x<y))):=by
 intro X π W vs hgk m hv;have hl:∀z,lmb (z7 w) z≠[]:=fun z e=>by
  have:=congrArg List.length e;rw [zr]at this;unfold z7 at this;simp at this;omega
 obtain⟨va,vb,rfl,ha,hb⟩:∃va vb,vs=[va,vb]∧RelD W (okOf X π []) (vN w x) va∧RelD W (okOf X π []) (vN w y) vb:=by
  cases hv with
  | cons h1 h2=>
   cases h2 with
   | cons h3 h4=>
    cases h4;cases h1 with|d h1=>cases h3 with|d h3=>exact⟨_,_,rfl,h1,h3⟩
 have ag:∀{z:Nat} {v:Value},RelD W (okOf X π []) (vN w z) v→∃sv,v=.agg #[.int .i64 (w:Int),sv]∧RelD W (okOf X π []) (eUs (lmb (z7 w) z)) sv:=by
  intro z v h;cases h with
  | ag h=>
   cases h with
   | cons h1 _ h2=>
    cases h2 with
    | cons h3 _ h4=>
     cases h4;cases h1;exact⟨_,rfl,h3⟩
 obtain⟨sa,rfl,ha2⟩:=ag ha;obtain⟨sb,rfl,hb2⟩:=ag hb;obtain⟨ba,oa,ca,rfl,ia⟩:=us_of ha2 (hl x);obtain⟨bb,ob,cb,rfl,ib⟩:=us_of hb2 (hl y);rw [zr]at ia ib;simp only [zr];have hn:0<z7 w∧z7 w≤1000000:=by unfold z7;omega
 have g:∀z j,j<z7 w→(lmb (z7 w) z).getD j 0=lw z j:=fun z j hj=>z2h hj
 have e0:∀args w,(callFunc 260 args).run Tryz.prog w=.ok (.enter 260 args) w:=zf Tryz.func260 rfl rfl;refine .inl ⟨e0 _ _,?_⟩;have key:=(callsIn_wide (n:=3)).1 (zt8 Fence.wide 3 trivial trivial trivial rfl (Nat.le_refl _) (w:Int) (w:Int) ba oa ca bb ob cb (z7 w) (fun j=>lw x j) (fun j=>lw y j) (fun j=>lw_lt x j) (fun j=>lw_lt y j) (by omega) W (ia 0 hn.1).1 (ib 0 hn.1).1 (fun j hj=>by rw [(ia j hj).2,g x j hj]) (fun j hj=>by rw [(ib j hj).2,g y j hj]));refine key.mono ?_;rintro e w' ⟨⟨v,rfl,hv⟩,b⟩;have:=zhp (z7e hx) (z7e hy) hv;subst this;have t:=z3l m b.os b.tape ⟨b.output,Nat.le_refl _⟩ b.size b.block;exact⟨_,_,[],π,rfl,rfl,t.mem,.d (.v rfl),t.hist⟩
end Go.Proofs.YtbodbhpdelgpnaaGreatDoor
namespace Go.Proofs.YtbodbhpdelgpnaaGreatDoor
open Go Ab
def eB(b:Bool):D:=.v (.bool b)
@[reducible] def eBs(l:List Bool):D:=eL 1 eB false l
@[reducible] def gBs(l:List Bool):AObj:=gL 4 1 eB false l
theorem z97(n:Nat)(hn:n<64):ACall Tryz.prog 138 [vI .i64 n] [] (fun r o=>r=vU (2^n)):=by
 refine yN Tryz.func138 fun C hC hCl hDs hGk=>?_;refine yS Tryz.func138 rfl trivial ?_;refine z8 (α:=Nat) (fun i=>[(0,vI .i64 n),(3,vU (2^i)),(4,vI .i64 i)]) (fun i=>[]) (fun i=>i≤n) (fun i=>n-i) 0 (Nat.zero_le _) ?_ ?_
 ·exact fun h=>yE h (eAl rfl) trivial
 rintro i hi ih;refine yB Tryz.func138 rfl trivial (fun hb=>?_) (fun hb=>?_)<;>simp only [decide_eq_true_eq,decide_eq_false_iff_not]at hb
 ·refine yS Tryz.func138 rfl trivial ?_;refine yE (ih (i+1) (by omega) (by omega)) ⟨erl rfl,⟨_,rfl,.of ?_⟩,erw rfl,trivial⟩ trivial;show vI .u64 (IntKind.u64.wrap (((2^i:Nat):Int)*2))=_;rw [show((2^i:Nat):Int)*2=((2^(i+1):Nat):Int)by rw [Nat.pow_succ];omega,z2w (pow64 (by omega))]
 ·obtain rfl:i=n:=by omega
  exact yR Tryz.func138 rfl trivial rfl
theorem zba(w x:Nat)(i:Int)(hb:w≤1000000):ACall Tryz.prog 105 [.d (vN w x),vI .i64 i] [] (fun r o=>r=vB (bitI' w x i)):=by
 refine yN Tryz.func105 fun C hC hCl hDs hGk=>?_;refine yB Tryz.func105 rfl trivial (fun h=>?_) (fun h=>?_)
 ·refine yT Tryz.func105 rfl trivial ?_;refine yR Tryz.func105 rfl trivial ?_;simp at h;simp [bitI',show ¬0≤i by omega];rfl
 refine yB Tryz.func105 rfl trivial (fun h2=>?_) (fun h2=>?_)
 ·refine yR Tryz.func105 rfl trivial ?_;simp at h2;simp [bitI',show ¬i<w by omega];rfl
 simp at h h2;obtain⟨n,rfl⟩:∃n:Nat,i=n:=⟨i.toNat,by omega⟩
 have hm:n%64<64:=Nat.mod_lt _ (by decide);have e1:IntKind.i64.wrap ((n:Int).tdiv 64)=((n / 64:Nat):Int):=by rw [show(n:Int).tdiv 64=((n / 64:Nat):Int)from rfl,z6 (by omega) (by omega)]
 have hl:=z1l (show n<w by omega);refine yO 9 Tryz.func105 rfl trivial ?_;refine yQ Tryz.func138 rfl ?_ (z97 (n%64) hm) (.refl _) ?_
 ·simp only [e1,List.length_map,zr];exact⟨by decide,⟨by omega,by omega⟩,by decide,trivial⟩
 refine yq rfl trivial ?_;have hp:0<2^(n%64):=Nat.two_pow_pos _;refine yR Tryz.func105 rfl ⟨by decide,by omega,trivial⟩ ?_;rw [bitI'_nat (by omega)];have key:IntKind.u64.wrap ((((lmb (z7 w) x).getD (IntKind.i64.wrap ((n:Int).tdiv 64)).toNat 0:Nat):Int).tdiv ((2^(n%64):Nat):Int))=(((lmb (z7 w) x).getD (n / 64) 0 / 2^(n%64):Nat):Int):=by
  rw [e1,Int.toNat_natCast,tdivN,z2w (Nat.lt_of_le_of_lt (Nat.div_le_self _ _) (z1y (z10 _ _) _))]
 show vB ((IntKind.u64.wrap ((((lmb (z7 w) x).getD (IntKind.i64.wrap ((n:Int).tdiv 64)).toNat 0:Nat):Int).tdiv ((2^(n%64):Nat):Int))).tmod 2==1)=_;rw [key,←z4a hl,bitN];rw [show(2:Int)=((2:Nat):Int)from rfl,tmodN];have hd:∀m:Nat,((m:Int)==1)=(m==1):=fun m=>by
  by_cases e:m=1
  ·subst e;rfl
  ·rw [beq_eq_false_iff_ne.2 e,beq_eq_false_iff_ne];omega
 rw [hd]
def bl(n:Nat)(f:Nat→Bool):List Bool:=(List.range n).map f
theorem zi(n:Nat)(f:Nat→Bool):(bl n f).length=n:=by simp [bl]
theorem z2j(n:Nat)(f:Nat→Bool):bl (n+1) f=bl n f++[f n]:=by simp [bl,List.range_succ]
theorem z3a{n i:Nat}{f:Nat→Bool}(h:i<n):(bl n f).getD i false=f i:=by simp [bl,h]
theorem z7l{n:Nat}{f g:Nat→Bool}(h:∀i,i<n→f i=g i):bl n f=bl n g:=List.map_congr_left fun i hi=>h i (List.mem_range.1 hi)
theorem z77(w x:Nat)(hb:w≤1000000):ACall Tryz.prog 161 [.d (vN w x)] [] (fun r o=>r=.d (eBs (bl w x.testBit))):=by
 refine yN Tryz.func161 fun C hC hCl hDs hGk=>?_;refine yS Tryz.func161 rfl trivial ?_;refine z1j (s:=1) (e:=4) (t:=3) (.inl rfl) (fun i=>eB (([]:List Bool).getD i false)) ?_;refine z8 (α:=Nat) (fun i=>[(1,.ptr 0 0),(3,.gs 1),(4,vI .i64 i)]) (fun i=>[some (bN w x),some (gBs (bl i x.testBit))]) (fun i=>i≤w) (fun i=>w-i) 0 (Nat.zero_le _) ?_ ?_
 ·exact fun h=>yE h (eAl rfl) (oAl rfl)
 rintro i hi ih;refine yB Tryz.func161 rfl trivial (fun hb=>?_) (fun hb=>?_)<;>simp only [decide_eq_true_eq,decide_eq_false_iff_not]at hb
 ·refine yV Tryz.func161 rfl trivial (zba w x i (by omega)) (.refl _) ?_;rw [bitI'_nat (by omega)];refine yS Tryz.func161 rfl ?_ ?_
  ·simp only [List.length_map,zi,andP];exact⟨show(i+1)*1≤140737488355328 by omega,trivial⟩
  refine yE (ih (i+1) (by omega) (by omega)) ⟨erl rfl,erl rfl,erw rfl,trivial⟩ ⟨.refl _,.gL ?_,trivial⟩;rw [z2j,List.map_append];rfl
 ·obtain rfl:i=w:=by omega
  refine za 1 rfl ?_;exact yR Tryz.func161 rfl trivial rfl
theorem zei(n:Nat)(f:Nat→Bool)(hb:n≤1000000):ACall Tryz.prog 162 [.d (eBs (bl n f))] [] (fun r o=>r=.d (eBs (bl n fun i=>!f i))):=by
 refine yN Tryz.func162 fun C hC hCl hDs hGk=>?_;refine yS Tryz.func162 rfl trivial ?_;refine z1j (s:=1) (e:=4) (t:=3) (.inl rfl) (fun i=>eB (([]:List Bool).getD i false)) ?_;refine z8 (α:=Nat) (fun i=>[(0,.d (eBs (bl n f))),(3,.gs 0),(4,vI .i64 i)]) (fun i=>[some (gBs (bl i fun i=>!f i))]) (fun i=>i≤n) (fun i=>n-i) 0 (Nat.zero_le _) ?_ ?_
 ·exact fun h=>yE h (eAl rfl) (oAl rfl)
 rintro i hi ih;refine yB Tryz.func162 rfl trivial (fun hb=>?_) (fun hb=>?_)<;>simp only [decide_eq_true_eq,decide_eq_false_iff_not,List.length_map,zi]at hb
 ·refine yS Tryz.func162 rfl ?_ ?_
  ·simp only [List.length_map,zi,andP];exact⟨show(i+1)*1≤140737488355328 by omega,⟨by omega,by omega⟩,trivial⟩
  refine yE (ih (i+1) (by omega) (by omega)) ⟨erl rfl,erl rfl,erw rfl,trivial⟩ ⟨.gL ?_,trivial⟩;rw [z2j,List.map_append,←z3a (f:=f) (show i<n by omega)];rfl
 ·obtain rfl:i=n:=by omega
  refine za 0 rfl ?_;exact yR Tryz.func162 rfl trivial rfl
def maj(a b c:Bool):Bool:=(a&&b)||(a&&c)||(b&&c)
def adC(f g:Nat→Bool)(c:Bool):Nat→Bool
 | 0=>c
 | i+1=>maj (f i) (g i) (adC f g c i)
def adS(f g:Nat→Bool)(c:Bool)(i:Nat):Bool:=xor (xor (f i) (g i)) (adC f g c i)
theorem zp1(f g:Nat→Bool)(c:Bool):∀n,ofB (adS f g c) n+(if adC f g c n then 2^n else 0)=ofB f n+ofB g n+(if c then 1 else 0)
 | 0=>by cases c<;>simp [ofB,adC]
 | n+1=>by
  have ih:=zp1 f g c n;have hp:2^(n+1)=2^n+2^n:=by rw [Nat.pow_succ];omega
  simp only [ofB,adC,adS,hp];by_cases hf:f n=true<;>by_cases hg:g n=true<;>by_cases hc:adC f g c n=true<;>simp [hf,hg,hc,maj]at ih ⊢<;>omega
theorem zu0(f g:Nat→Bool)(c:Bool)(n:Nat):ofB (adS f g c) n=(ofB f n+ofB g n+(if c then 1 else 0))%2^n:=by
 rw [←zp1];split
 ·rw [Nat.add_mod_right,Nat.mod_eq_of_lt (z3r _ _)]
 ·rw [Nat.add_zero,Nat.mod_eq_of_lt (z3r _ _)]
theorem z6n(n:Nat)(f g:Nat→Bool)(c:Bool)(hb:n≤1000000):ACall Tryz.prog 163 [.d (eBs (bl n f)),.d (eBs (bl n g)),vB c] [] (fun r o=>r=.d (eBs (bl n (adS f g c)))):=by
 refine yN Tryz.func163 fun C hC hCl hDs hGk=>?_;refine yS Tryz.func163 rfl trivial ?_;refine z1j (s:=1) (e:=4) (t:=7) (.inl rfl) (fun i=>eB (([]:List Bool).getD i false)) ?_;refine z8 (α:=Nat) (fun i=>[(0,.d (eBs (bl n f))),(1,.d (eBs (bl n g))),(2,vB (adC f g c i)),(7,.gs 0),(8,vI .i64 i)]) (fun i=>[some (gBs (bl i (adS f g c)))]) (fun i=>i≤n) (fun i=>n-i) 0 (Nat.zero_le _) ?_ ?_
 ·exact fun h=>yE h (eAl rfl) (oAl rfl)
 rintro i hi ih;refine yB Tryz.func163 rfl trivial (fun hb=>?_) (fun hb=>?_)<;>simp only [decide_eq_true_eq,decide_eq_false_iff_not,List.length_map,zi]at hb
 ·have ef:=z3a (f:=f) (show i<n by omega);have eg:=z3a (f:=g) (show i<n by omega);have hbd:((0:Int)≤(i:Nat)∧((i:Nat):Int)<(n:Int))∧True:=⟨⟨by omega,by omega⟩,trivial⟩
  have e1:((bl n f).getD ((i:Nat):Int).toNat false)=f i:=ef;have e2:((bl n g).getD ((i:Nat):Int).toNat false)=g i:=eg;refine yB Tryz.func163 rfl (by simpa [zi]using hbd) (fun h1=>?_) (fun h1=>?_)<;>rw [e1]at h1;all_goals refine yB Tryz.func163 rfl (by simpa [zi]using hbd) (fun h2=>?_) (fun h2=>?_)<;>rw [e2]at h2
  all_goals refine yB Tryz.func163 rfl trivial (fun h3=>?_) (fun h3=>?_)
  all_goals refine yS Tryz.func163 rfl ?_ ?_
  all_goals first
   |(simp only [List.length_map,zi,andP];exact⟨show(i+1)*1≤140737488355328 by omega,by decide,trivial⟩)
   |skip
  all_goals refine yE (ih (i+1) (by omega) (by omega)) ⟨erl rfl,erl rfl,⟨_,rfl,.of ?_⟩,erl rfl,erw rfl,trivial⟩ ⟨.gL ?_,trivial⟩
  all_goals first
   |(show _=vB (maj (f i) (g i) (adC f g c i));rw [h1,h2,h3];rfl)
   |(rw [z2j,List.map_append];simp only [adS,h1,h2,h3];rfl)
 ·obtain rfl:i=n:=by omega
  refine za 0 rfl ?_;exact yR Tryz.func163 rfl trivial rfl
theorem zb6(n:Nat)(f g:Nat→Bool)(hb:n≤1000000):ACall Tryz.prog 164 [.d (eBs (bl n f)),.d (eBs (bl n g))] [] (fun r o=>r=.d (eBs (bl n (adS f (fun i=>!g i) true)))):=by
 refine yN Tryz.func164 fun C hC hCl hDs hGk=>?_;refine yV Tryz.func164 rfl trivial (zei n g hb) (.refl _) ?_;refine yV Tryz.func164 rfl trivial (z6n n f (fun i=>!g i) true hb) (.refl _) ?_;exact yR Tryz.func164 rfl trivial rfl
theorem z28(b:Bool):ACall Tryz.prog 165 [vB b] [] (fun r o=>r=.d (eBs (bl 1 fun _=>b))):=by
 refine yN Tryz.func165 fun C hC hCl hDs hGk=>?_;exact yL Tryz.func165 rfl trivial (.eL rfl) trivial rfl (r2:=.d (eBs (bl 1 fun _=>b))) (o2:=[])
def shF(f:Nat→Bool)(len:Nat)(n:Int)(b:Bool)(i:Nat):Bool:=if 0≤(i:Int)-n∧(i:Int)-n<len then f ((i:Int)-n).toNat else b
theorem z7a(m:Nat)(f:Nat→Bool)(n:Int)(b:Bool)(hb:m≤1000000)(hn:-1000000≤n∧n≤1000000):ACall Tryz.prog 178 [.d (eBs (bl m f)),vI .i64 n,vB b] [] (fun r o=>r=.d (eBs (bl m (shF f m n b)))):=by
 refine yN Tryz.func178 fun C hC hCl hDs hGk=>?_;refine yS Tryz.func178 rfl trivial ?_;refine z1j (s:=1) (e:=4) (t:=7) (.inl rfl) (fun i=>eB (([]:List Bool).getD i false)) ?_;refine z8 (α:=Nat) (fun i=>[(0,.d (eBs (bl m f))),(1,vI .i64 n),(2,vB b),(7,.gs 0),(8,vI .i64 i)]) (fun i=>[some (gBs (bl i (shF f m n b)))]) (fun i=>i≤m) (fun i=>m-i) 0 (Nat.zero_le _) ?_ ?_
 ·exact fun h=>yE h (eAl rfl) (oAl rfl)
 rintro i hi ih;refine yB Tryz.func178 rfl trivial (fun hb=>?_) (fun hb=>?_)<;>simp only [decide_eq_true_eq,decide_eq_false_iff_not,List.length_map,zi]at hb
 ·have e1:IntKind.i64.wrap ((i:Int)-n)=(i:Int)-n:=z6 (by omega) (by omega);have hin:∀z:List D,z=(bl i (shF f m n b)).map eB++[eB (shF f m n b i)]→z=(bl (i+1) (shF f m n b)).map eB:=fun z hz=>by rw [hz,z2j,List.map_append];rfl
  refine yB Tryz.func178 rfl trivial (fun h=>?_) (fun h=>?_)
  ·have h:decide (IntKind.i64.wrap ((i:Int)-n)≥0)=true:=h;rw [e1,decide_eq_true_eq]at h;refine yB Tryz.func178 rfl trivial (fun h2=>?_) (fun h2=>?_)
   ·have h2:decide (IntKind.i64.wrap ((i:Int)-n)<((bl m f).map eB).length)=true:=h2;rw [e1,decide_eq_true_eq,List.length_map,zi]at h2;refine yS Tryz.func178 rfl ?_ ?_
    ·simp only [List.length_map,zi,andP,e1];exact⟨show(i+1)*1≤140737488355328 by omega,⟨by omega,by omega⟩,trivial⟩
    refine yE (ih (i+1) (by omega) (by omega)) ⟨erl rfl,erl rfl,erl rfl,erl rfl,erw rfl,trivial⟩ ⟨.gL (hin _ ?_),trivial⟩;show _++[eB ((bl m f).getD (IntKind.i64.wrap ((i:Int)-n)).toNat false)]=_;rw [shF,if_pos ⟨h,h2⟩,e1,z3a (by omega)]
   ·have h2:decide (IntKind.i64.wrap ((i:Int)-n)<((bl m f).map eB).length)=false:=h2;rw [e1,decide_eq_false_iff_not,List.length_map,zi]at h2;refine yS Tryz.func178 rfl ?_ ?_
    ·simp only [List.length_map,zi,andP];exact⟨show(i+1)*1≤140737488355328 by omega,trivial⟩
    refine yE (ih (i+1) (by omega) (by omega)) ⟨erl rfl,erl rfl,erl rfl,erl rfl,erw rfl,trivial⟩ ⟨.gL (hin _ ?_),trivial⟩;rw [shF,if_neg (by omega)];rfl
  ·have h:decide (IntKind.i64.wrap ((i:Int)-n)≥0)=false:=h;rw [e1,decide_eq_false_iff_not]at h;refine yF Tryz.func178 rfl trivial ?_;refine yS Tryz.func178 rfl ?_ ?_
   ·simp only [List.length_map,zi,andP];exact⟨show(i+1)*1≤140737488355328 by omega,trivial⟩
   refine yE (ih (i+1) (by omega) (by omega)) ⟨erl rfl,erl rfl,erl rfl,erl rfl,erw rfl,trivial⟩ ⟨.gL (hin _ ?_),trivial⟩;rw [shF,if_neg (by omega)];rfl
 ·obtain rfl:i=m:=by omega
  refine za 0 rfl ?_;exact yR Tryz.func178 rfl trivial rfl
theorem ofB_t{f:Nat→Bool}{i:Nat}(h:f i=true):ofB f (i+1)=ofB f i ||| 2^i:=by
 have hlt:ofB f i<2^i:=z3r _ _;have:=Nat.two_pow_add_eq_or_of_lt hlt 1;rw [Nat.mul_one]at this;rw [Nat.or_comm,←this,Nat.add_comm (2^i),ofB,if_pos h]
theorem ofB_f{f:Nat→Bool}{i:Nat}(h:f i=false):ofB f (i+1)=ofB f i:=by
 rw [ofB,if_neg (by simp [h]),Nat.add_zero]
theorem zs0{X i:Nat}(hX:X<2^i):lw X (i / 64)<2^(i%64):=by
 rw [lw];refine Nat.lt_of_le_of_lt (Nat.mod_le _ _) ?_;rw [Nat.div_lt_iff_lt_mul (Nat.two_pow_pos _),←Nat.pow_add];rwa [show i%64+64*(i / 64)=i by omega]
theorem zty{X n i:Nat}(hi:i / 64<n)(hX:X<2^i):(lmb n X).set (i / 64) ((lmb n X).getD (i / 64) 0+2^(i%64))=lmb n (X ||| 2^i):=by
 rw [←z44 hi,setB];congr 1;have h:=zs0 hX;have:=Nat.two_pow_add_eq_or_of_lt h 1;rw [Nat.mul_one]at this;rw [z2h hi,Nat.or_comm,←this,Nat.add_comm]
theorem z58(n:Nat)(f:Nat→Bool)(hb:n≤1000000):ACall Tryz.prog 102 [.d (eBs (bl n f))] [] (fun r o=>r=.d (vN n (ofB f n))):=by
 refine yN Tryz.func102 fun C hC hCl hDs hGk=>?_;have e0:IntKind.i64.wrap ((IntKind.i64.wrap ((n:Int)+63)).tdiv 64)=((z7 n:Nat):Int):=by
  rw [z6 (n:=(n:Int)+63) (by omega) (by omega)];have:((n:Int)+63).tdiv 64=((z7 n:Nat):Int):=by
   rw [show(n:Int)+63=((n+63:Nat):Int)by omega];rfl
  rw [this,z6 (by unfold z7;omega) (by unfold z7;omega)]
 have hn:z7 n≤1000000:=by unfold z7;omega
 refine yS Tryz.func102 rfl ?_ ?_
 ·simp only [List.length_map,zi,andP,e0];exact⟨⟨by omega,by omega,by omega⟩,by decide,trivial⟩
 refine z8 (α:=Nat) (fun i=>[(0,.d (eBs (bl n f))),(2,.ptr 0 0),(3,.ptr 2 0),(4,vI .i64 i)]) (fun i=>[some zV,some (gUs (lmb (z7 n) (ofB f i))),some (cV n 1)]) (fun i=>i≤n) (fun i=>n-i) 0 (Nat.zero_le _) ?_ ?_
 ·refine fun h=>yE h (eAl rfl) ⟨.refl _,.gL ?_,.of ?_,trivial⟩
  ·simp only [List.length_map,zi,e0,Int.toNat_natCast];show _=(lmb (z7 n) 0).map eU;rw [←z42,List.map_replicate];rfl
  ·simp only [List.length_map,zi];rfl
 rintro i hi ih;refine yB Tryz.func102 rfl trivial (fun hb=>?_) (fun hb=>?_)<;>simp only [decide_eq_true_eq,decide_eq_false_iff_not,List.length_map,zi]at hb
 ·have hbd:((0:Int)≤(i:Nat)∧((i:Nat):Int)<(n:Int))∧True:=⟨⟨by omega,by omega⟩,trivial⟩
  have ef:((bl n f).getD ((i:Nat):Int).toNat false)=f i:=z3a (f:=f) (show i<n by omega);have hm:i%64<64:=Nat.mod_lt _ (by decide);have hil:i / 64<z7 n:=z1l (by omega);have e1:IntKind.i64.wrap ((i:Int).tdiv 64)=((i / 64:Nat):Int):=by rw [show(i:Int).tdiv 64=((i / 64:Nat):Int)from rfl,z6 (by omega) (by omega)]
  refine yB Tryz.func102 rfl (by simpa [zi]using hbd) (fun h1=>?_) (fun h1=>?_)<;>rw [ef]at h1
  ·refine yO 14 Tryz.func102 rfl trivial ?_;refine yQ Tryz.func138 rfl ?_ (z97 (i%64) hm) (.refl _) ?_
   ·simp only [e1,Int.toNat_natCast,List.length_map,zr];exact⟨by decide,hil,⟨by omega,by omega⟩,by decide,by decide,trivial⟩
   refine yq rfl trivial ?_;refine yS Tryz.func102 rfl ?_ ?_
   ·simp only [e1,Int.toNat_natCast,List.length_map,zr,andP];exact⟨hil,⟨by omega,by omega⟩,trivial⟩
   refine yE (ih (i+1) (by omega) (by omega)) ⟨erl rfl,erl rfl,erl rfl,erw rfl,trivial⟩ ⟨.refl _,.gL ?_,.refl _,trivial⟩;rw [ofB_t h1,←zty hil (z3r f i),List.map_set];simp only [e1,Int.toNat_natCast];congr 1;show D.v (.int .u64 (IntKind.u64.wrap _))=D.v (.int .u64 _);have hlw:=zs0 (z3r f i);have hp:=pow64 hm;have hp2:2^(i%64)*2≤2^64:=by rw [←Nat.pow_succ];exact Nat.pow_le_pow_right (by decide) (by omega)
   rw [←Int.natCast_add,z2w];rw [z2h hil];omega
  ·refine yS Tryz.func102 rfl trivial ?_;exact yE (ih (i+1) (by omega) (by omega)) ⟨erl rfl,erl rfl,erl rfl,erw rfl,trivial⟩ ⟨.refl _,.of (by rw [ofB_f h1]),.refl _,trivial⟩
 ·obtain rfl:i=n:=by omega
  refine za 1 rfl ?_;exact yR Tryz.func102 rfl trivial rfl
theorem zhg(w:Int)(l:List Nat)(hl:lims l)(hlen:l.length≤maxLen):ACall Tryz.prog 139 [.d (eV w l)] [] (fun r o=>r=vB (z3x w l)):=by
 refine yN Tryz.func139 fun C hC hCl hDs hGk=>?_;refine yB Tryz.func139 rfl trivial (fun h=>?_) (fun h=>?_)
 ·have h:decide (w<1)=true:=h;refine yT Tryz.func139 rfl trivial ?_;refine yT Tryz.func139 rfl trivial ?_;refine yR Tryz.func139 rfl trivial ?_;simp at h;simp [z3x,show ¬1≤w by omega];rfl
 have h:decide (w<1)=false:=h;simp at h;refine yB Tryz.func139 rfl trivial (fun h2=>?_) (fun h2=>?_)
 ·have h2:decide (w>128)=true:=h2;refine yT Tryz.func139 rfl trivial ?_;refine yR Tryz.func139 rfl trivial ?_;simp at h2;simp [z3x,show ¬w≤128 by omega];rfl
 have h2:decide (w>128)=false:=h2;simp at h2;obtain⟨n,rfl⟩:∃n:Nat,w=n:=⟨w.toNat,by omega⟩
 have e0:IntKind.i64.wrap ((IntKind.i64.wrap ((n:Int)+63)).tdiv 64)=((z7 n:Nat):Int):=by
  rw [z6 (n:=(n:Int)+63) (by omega) (by omega)];have:((n:Int)+63).tdiv 64=((z7 n:Nat):Int):=by
   rw [show(n:Int)+63=((n+63:Nat):Int)by omega];rfl
  rw [this,z6 (by unfold z7;omega) (by unfold z7;omega)]
 refine yB Tryz.func139 rfl ?_ (fun h3=>?_) (fun h3=>?_)
 ·exact⟨by decide,trivial⟩
 ·have h3:(((l.map eU).length:Int) !=IntKind.i64.wrap ((IntKind.i64.wrap ((n:Int)+63)).tdiv 64))=true:=h3;rw [e0,List.length_map]at h3;refine yR Tryz.func139 rfl trivial ?_;simp at h3;simp [z3x,show ¬l.length=z7 n by omega];rfl
 ·have h3:(((l.map eU).length:Int) !=IntKind.i64.wrap ((IntKind.i64.wrap ((n:Int)+63)).tdiv 64))=false:=h3;rw [e0,List.length_map]at h3;have h3:l.length=z7 n:=by simp at h3;omega
  have hln:0<z7 n∧z7 n≤2:=by unfold z7;omega
  have hm:n%64<64:=Nat.mod_lt _ (by omega);have e2:IntKind.i64.wrap ((l.length:Int)-1)=((l.length-1:Nat):Int):=by rw [z6 (by omega) (by omega)];omega
  refine yO 17 Tryz.func139 rfl trivial ?_;refine yb rfl ?_ (fun h4=>?_) (fun h4=>?_)
  ·exact⟨by decide,trivial⟩
  ·have h4:(((n:Int).tmod 64)==0)=true:=h4;refine yq rfl trivial ?_;refine yR Tryz.func139 rfl trivial ?_;rw [show((64:Int))=((64:Nat):Int)from rfl,tmodN]at h4;simp at h4;simp [z3x,h3,show n%64=0 by omega,show(1:Int)≤n by omega,show(n:Int)≤128 by omega];rfl
  ·have h4:(((n:Int).tmod 64)==0)=false:=h4;rw [show((64:Int))=((64:Nat):Int)from rfl,tmodN]at h4;simp at h4;refine yQ Tryz.func138 rfl ?_ (z97 (n%64) hm) (.refl _) ?_
   ·simp only [e2,List.length_map];exact⟨by decide,⟨by omega,by omega⟩,trivial⟩
   refine yq rfl trivial ?_;refine yR Tryz.func139 rfl trivial ?_;have hd:decide ((((l.getD (IntKind.i64.wrap (((l.map eU).length:Int)-1)).toNat 0:Nat)):Int)<((2^(n%64):Nat):Int))=z3x n l:=by
    rw [List.length_map,e2,Int.toNat_natCast];simp only [z3x,Int.toNat_natCast];rw [decide_eq_true (show(1:Int)≤n by omega),decide_eq_true (show(n:Int)≤128 by omega),decide_eq_true h3,decide_eq_false (show ¬n%64=0 by omega)];simp only [Bool.true_and,Bool.false_or];refine decide_eq_decide.2 ?_;rw [Nat.div_eq_zero_iff_lt (Nat.two_pow_pos _)];omega
   rw [←hd];rfl
theorem zrf{l:List UInt8}{k:Nat}(hk:k<l.length)(h:∀c∈l.drop (l.length-k),is01 c=true)(hc:is01 (l.getD (l.length-1-k) 0)=true):∀c∈l.drop (l.length-(k+1)),is01 c=true:=by
 have e:l.drop (l.length-(k+1))=l.getD (l.length-1-k) 0::l.drop (l.length-k):=by
  rw [List.drop_eq_getElem_cons (by omega),show l.length-(k+1)+1=l.length-k by omega];simp [show l.length-1-k<l.length by omega,show l.length-(k+1)=l.length-1-k by omega]
 rw [e];intro c hc';rcases List.mem_cons.1 hc' with rfl|hc'
 ·exact hc
 ·exact h c hc'
theorem zd3(l:List UInt8)(hl:l.length≤1000000000):ACall Tryz.prog 76 [vSL l] [] (fun r o=>r=mkR l):=by
 refine yN Tryz.func76 fun C hC hCl hDs hGk=>?_;refine yB Tryz.func76 rfl trivial (fun h=>?_) (fun h=>?_)
 ·rw [zj]at h;refine yT Tryz.func76 rfl trivial ?_;refine yR Tryz.func76 rfl trivial ?_;simp at h;rw [mkR,if_neg (by simp [mkok];omega)];rfl
 rw [zj]at h;refine yB Tryz.func76 rfl trivial (fun h2=>?_) (fun h2=>?_)
 ·rw [zj]at h2;refine yR Tryz.func76 rfl trivial ?_;simp at h2;rw [mkR,if_neg (by simp [mkok];omega)];rfl
 rw [zj]at h2;have hlen:1≤l.length∧l.length≤128:=by simp at h h2;omega
 have hsz:(⟨l.toArray⟩:ByteArray).size=l.length:=zj l;refine yS Tryz.func76 rfl trivial ?_;refine z1j (s:=1) (e:=4) (t:=4) (.inl rfl) (fun i=>eB (([]:List Bool).getD i false)) ?_;refine z8 (α:=Nat) (fun k=>[(0,vSL l),(2,.ptr 0 0),(4,.gs 1),(5,vI .i64 ((l.length:Int)-1-k))]) (fun k=>[some zV,some (gBs (bl k fun i=>(l.getD (l.length-1-i) 0).toNat==49))]) (fun k=>k≤l.length∧∀c∈l.drop (l.length-k),is01 c=true) (fun k=>l.length-k) 0 ⟨Nat.zero_le _,by simp⟩ ?_ ?_
 ·refine fun h=>yE h ⟨erl rfl,erl rfl,erl rfl,⟨_,rfl,.of ?_⟩,trivial⟩ (oAl rfl);show vI .i64 (IntKind.i64.wrap (((⟨l.toArray⟩:ByteArray).size:Int)-1))=_;rw [hsz,z6 (by omega) (by omega)];simp
 rintro k ⟨hk,ha⟩ ih;refine yB Tryz.func76 rfl trivial (fun hb=>?_) (fun hb=>?_)<;>simp only [decide_eq_true_eq,decide_eq_false_iff_not]at hb
 ·have en:((l.length:Int)-1-k).toNat=l.length-1-k:=by omega
  have hbt:bt ⟨l.toArray⟩ ((l.length:Int)-1-k).toNat=((l.getD (l.length-1-k) 0).toNat:Int):=by rw [zm,en]
  have hin:(0≤(l.length:Int)-1-k∧(l.length:Int)-1-k<((⟨l.toArray⟩:ByteArray).size:Int))∧True:=by rw [hsz];exact⟨⟨by omega,by omega⟩,trivial⟩
  have hmem:l.getD (l.length-1-k) 0∈l:=by simp [show l.length-1-k<l.length by omega]
  have go:is01 (l.getD (l.length-1-k) 0)=true→k+1≤l.length∧∀c∈l.drop (l.length-(k+1)),is01 c=true:=fun hc=>⟨by omega,zrf (by omega) ha hc⟩
  have ew:IntKind.i64.wrap ((l.length:Int)-1-k-1)=(l.length:Int)-1-((k+1:Nat):Int):=by rw [z6 (by omega) (by omega)];omega
  refine yB Tryz.func76 rfl hin (fun h3=>?_) (fun h3=>?_)
  ·have h3:(bt ⟨l.toArray⟩ ((l.length:Int)-1-k).toNat !=48)=true:=h3;rw [hbt]at h3;refine yB Tryz.func76 rfl hin (fun h4=>?_) (fun h4=>?_)
   ·have h4:(bt ⟨l.toArray⟩ ((l.length:Int)-1-k).toNat !=49)=true:=h4;rw [hbt]at h4;refine yR Tryz.func76 rfl trivial ?_;rw [mkR,if_neg]
    ·rfl
    ·intro hok;simp only [mkok,Bool.and_eq_true,List.all_eq_true]at hok;have:=hok.2 _ hmem;simp only [is01,Bool.or_eq_true,beq_iff_eq]at this;simp only [bne_iff_ne,ne_eq]at h3 h4;omega
   ·have h4:(bt ⟨l.toArray⟩ ((l.length:Int)-1-k).toNat !=49)=false:=h4;rw [hbt]at h4;have h5:(l.getD (l.length-1-k) 0).toNat=49:=by simp only [bne_eq_false_iff_eq]at h4;omega
    refine yS Tryz.func76 rfl ?_ ?_
    ·simp only [List.length_map,zi,andP];exact⟨show(k+1)*1≤140737488355328 by omega,hin⟩
    refine yE (ih (k+1) (go (by rw [is01,h5];rfl)) (by omega)) ⟨erl rfl,erl rfl,erl rfl,⟨_,rfl,.of (by rw [←ew])⟩,trivial⟩ ⟨.refl _,.gL ?_,trivial⟩;show _++[D.v (.bool (bt ⟨l.toArray⟩ ((l.length:Int)-1-k).toNat==49))]=_;rw [z2j,List.map_append,hbt,h5];rfl
  ·have h3:(bt ⟨l.toArray⟩ ((l.length:Int)-1-k).toNat !=48)=false:=h3;rw [hbt]at h3;have h5:(l.getD (l.length-1-k) 0).toNat=48:=by simp only [bne_eq_false_iff_eq]at h3;omega
   refine yF Tryz.func76 rfl trivial ?_;refine yS Tryz.func76 rfl ?_ ?_
   ·simp only [List.length_map,zi,andP];exact⟨show(k+1)*1≤140737488355328 by omega,hin⟩
   refine yE (ih (k+1) (go (by rw [is01,h5];rfl)) (by omega)) ⟨erl rfl,erl rfl,erl rfl,⟨_,rfl,.of (by rw [←ew])⟩,trivial⟩ ⟨.refl _,.gL ?_,trivial⟩;show _++[D.v (.bool (bt ⟨l.toArray⟩ ((l.length:Int)-1-k).toNat==49))]=_;rw [z2j,List.map_append,hbt,h5];rfl
 ·obtain rfl:k=l.length:=by omega
  refine za 1 rfl ?_;refine yV Tryz.func76 rfl trivial (z58 l.length _ (by omega)) (.refl _) ?_;refine yR Tryz.func76 rfl trivial ?_;rw [mkR,if_pos]
  ·rfl
  ·simp only [mkok,Bool.and_eq_true,decide_eq_true_eq,List.all_eq_true];refine⟨hlen,?_⟩;rw [Nat.sub_self,List.drop_zero]at ha;exact ha
theorem strT{a b:List UInt8}(h:a=b):((⟨a.toArray⟩:ByteArray).toList==(⟨b.toArray⟩:ByteArray).toList)=true:=by rw [strE,h];simp
theorem strF{a b:List UInt8}(h:a=b)(h2:((⟨a.toArray⟩:ByteArray).toList==(⟨b.toArray⟩:ByteArray).toList)=false):False:=by rw [strT h]at h2;cases h2
theorem zra(n lo len:Nat)(f:Nat→Bool)(h:lo+len≤n):((bl n f).drop lo).take len=bl len fun i=>f (lo+i):=by
 apply List.ext_getElem?;intro i;rw [List.getElem?_take,List.getElem?_drop];simp only [bl];by_cases hi:i<len
 ·rw [if_pos (by omega)];simp [hi,show lo+i<n by omega]
 ·rw [if_neg (by omega)];simp [hi]
theorem zmb(w x lo hi:Nat)(hwb:w≤128)(h1:lo≤hi)(h2:hi<w):ACall Tryz.prog 141 [.d (vN w x),vI .i64 hi,vI .i64 lo] [] (fun r o=>r=tupOf [.d (vN (hi-lo+1) (slN x lo (hi-lo+1))),vI .i64 0]):=by
 refine yN Tryz.func141 fun C hC hCl hDs hGk=>?_;have e1:IntKind.i64.wrap ((hi:Int)+1)=((hi+1:Nat):Int):=by rw [z6 (by omega) (by omega)];omega
 refine yB Tryz.func141 rfl trivial (fun h=>by simp at h;omega) (fun _=>?_);refine yB Tryz.func141 rfl trivial (fun h=>by simp at h;omega) (fun _=>?_);refine yB Tryz.func141 rfl trivial (fun h=>by simp at h;omega) (fun _=>?_);refine yV Tryz.func141 rfl trivial (z77 w x (by omega)) (.refl _) ?_;refine yV Tryz.func141 rfl ?_ (z58 (hi-lo+1) (fun i=>x.testBit (lo+i)) (by omega)) ⟨.eL ?_,trivial⟩ ?_
 ·rw [e1,List.length_map,zi];exact⟨⟨by omega,by omega,by omega⟩,trivial⟩
 ·rw [e1,show(((hi+1:Nat):Int)-lo).toNat=hi-lo+1 by omega,Int.toNat_natCast,←List.map_drop,←List.map_take,zra _ _ _ _ (by omega)]
 exact yR Tryz.func141 rfl trivial rfl
theorem zsr(c w x y:Nat)(hc:c<2^1):ACall Tryz.prog 140 [.d (vN 1 c),.d (vN w x),.d (vN w y)] [] (fun r o=>r=tupOf [.d (vN w (if c=1 then x else y)),vI .i64 0]):=by
 refine yN Tryz.func140 fun C hC hCl hDs hGk=>?_;refine yF Tryz.func140 rfl trivial ?_;refine yB Tryz.func140 rfl trivial (fun h=>?_) (fun _=>?_)
 ·have h:((w:Int) !=(w:Int))=true:=h;simp at h
 have h0:(lmb (z7 1) c).getD 0 0=c:=by rw [z2h (by decide),lw,Nat.mod_eq_of_lt (by omega)];simp
 refine yB Tryz.func140 rfl ?_ (fun h=>?_) (fun h=>?_)
 ·rw [List.length_map,zr];exact⟨⟨by decide,by decide⟩,trivial⟩
 ·have h:((((lmb (z7 1) c).getD 0 0:Nat):Int)==1)=true:=h;rw [h0,beq_iff_eq]at h;refine yR Tryz.func140 rfl trivial ?_;rw [if_pos (by omega)];rfl
 ·have h:((((lmb (z7 1) c).getD 0 0:Nat):Int)==1)=false:=h;rw [h0,beq_eq_false_iff_ne]at h;refine yR Tryz.func140 rfl trivial ?_;rw [if_neg (by omega)];rfl
theorem zn7(n:Nat)(f:Nat→Bool)(hb:n≤1000000):ACall Tryz.prog 166 [.d (eBs (bl n f))] [] (fun r o=>r=vI .i64 (((bl n f).count true:Nat):Int)):=by
 refine yN Tryz.func166 fun C hC hCl hDs hGk=>?_;refine yS Tryz.func166 rfl trivial ?_;refine z8 (α:=Nat) (fun i=>[(0,.d (eBs (bl n f))),(3,vI .i64 (((bl i f).count true:Nat):Int)),(4,vI .i64 i)]) (fun i=>[]) (fun i=>i≤n) (fun i=>n-i) 0 (Nat.zero_le _) ?_ ?_
 ·exact fun h=>yE h (eAl rfl) trivial
 rintro i hi ih;have hcl:(bl i f).count true≤i:=by
  have:=List.count_le_length (a:=true) (l:=bl i f);rwa [zi]at this
 refine yB Tryz.func166 rfl trivial (fun hb=>?_) (fun hb=>?_)<;>simp only [decide_eq_true_eq,decide_eq_false_iff_not,List.length_map,zi]at hb
 ·have hbd:((0:Int)≤(i:Nat)∧((i:Nat):Int)<(n:Int))∧True:=⟨⟨by omega,by omega⟩,trivial⟩
  have ef:((bl n f).getD ((i:Nat):Int).toNat false)=f i:=z3a (f:=f) (show i<n by omega);refine yB Tryz.func166 rfl (by simpa [zi]using hbd) (fun h1=>?_) (fun h1=>?_)<;>rw [ef]at h1
  ·refine yS Tryz.func166 rfl trivial ?_;refine yE (ih (i+1) (by omega) (by omega)) ⟨erl rfl,⟨_,rfl,.of ?_⟩,erw rfl,trivial⟩ trivial;show vI .i64 (IntKind.i64.wrap ((((bl i f).count true:Nat):Int)+1))=_;rw [z6 (by omega) (by omega),z2j,List.count_append,h1];rfl
  ·refine yS Tryz.func166 rfl trivial ?_;refine yE (ih (i+1) (by omega) (by omega)) ⟨erl rfl,⟨_,rfl,.of ?_⟩,erw rfl,trivial⟩ trivial;rw [z2j,List.count_append,h1];rfl
 ·obtain rfl:i=n:=by omega
  exact yR Tryz.func166 rfl trivial rfl
theorem zdq(w x:Nat)(hb:w≤1000000):ACall Tryz.prog 161 [.d (vN w x)] [] (fun r o=>r=.gs 1∧o=[none,some (gBs (bl w x.testBit))]):=by
 refine yN Tryz.func161 fun C hC hCl hDs hGk=>?_;refine yS Tryz.func161 rfl trivial ?_;refine z1j (s:=1) (e:=4) (t:=3) (.inl rfl) (fun i=>eB (([]:List Bool).getD i false)) ?_;refine z8 (α:=Nat) (fun i=>[(1,.ptr 0 0),(3,.gs 1),(4,vI .i64 i)]) (fun i=>[some (bN w x),some (gBs (bl i x.testBit))]) (fun i=>i≤w) (fun i=>w-i) 0 (Nat.zero_le _) ?_ ?_
 ·exact fun h=>yE h (eAl rfl) (oAl rfl)
 rintro i hi ih;refine yB Tryz.func161 rfl trivial (fun hb=>?_) (fun hb=>?_)<;>simp only [decide_eq_true_eq,decide_eq_false_iff_not]at hb
 ·refine yV Tryz.func161 rfl trivial (zba w x i (by omega)) (.refl _) ?_;rw [bitI'_nat (by omega)];refine yS Tryz.func161 rfl ?_ ?_
  ·simp only [List.length_map,zi,andP];exact⟨show(i+1)*1≤140737488355328 by omega,trivial⟩
  refine yE (ih (i+1) (by omega) (by omega)) ⟨erl rfl,erl rfl,erw rfl,trivial⟩ ⟨.refl _,.gL ?_,trivial⟩;rw [z2j,List.map_append];rfl
 ·obtain rfl:i=w:=by omega
  exact yL Tryz.func161 rfl trivial (.refl _) (oAl rfl) ⟨rfl,rfl⟩ (o2:=[none,some (gBs (bl i x.testBit))])
theorem zmd(w x n:Nat)(s:Bool)(hw:0<w)(hwb:w≤128)(hn:w+n≤128):ACall Tryz.prog 142 [.d (vN w x),vI .i64 n,vB s] [] (fun r o=>r=tupOf [.d (vN (w+n) (exN w x n (s&&x.testBit (w-1)))),vI .i64 0]):=by
 refine yN Tryz.func142 fun C hC hCl hDs hGk=>?_;have e1:IntKind.i64.wrap ((w:Int)-1)=((w-1:Nat):Int):=by rw [z6 (by omega) (by omega)];omega
 have e2:IntKind.i64.wrap (128-(w:Int))=((128-w:Nat):Int):=by rw [z6 (by omega) (by omega)];omega
 refine yB Tryz.func142 rfl trivial (fun h=>by simp at h;omega) (fun _=>?_);refine yB Tryz.func142 rfl trivial (fun h=>?_) (fun _=>?_)
 ·have h:decide ((n:Int)>IntKind.i64.wrap (128-(w:Int)))=true:=h;rw [e2,decide_eq_true_eq]at h;omega
 refine yW [] Tryz.func142 rfl trivial (zdq w x (by omega)) trivial (.refl _) ?_;have ecg:bl w x.testBit=bl w fun i=>if i<w then x.testBit i else(s&&x.testBit (w-1)):=z7l fun i hi=>by rw [if_pos hi]
 have etop:(bl w x.testBit).getD (IntKind.i64.wrap ((w:Int)-1)).toNat false=x.testBit (w-1):=by
  rw [e1,Int.toNat_natCast];exact z3a (by omega)
 cases s with
 | true=>
  rw [Bool.true_and]at ecg ⊢;refine yT Tryz.func142 rfl trivial ?_;refine yS Tryz.func142 rfl ?_ ?_
  ·simp only [List.length_map,zi,andP,e1];exact⟨by omega,⟨by omega,by omega⟩,trivial⟩
  refine z8 (α:=Nat) (fun i=>[(1,vI .i64 n),(6,.ptr 1 0),(8,.gs 3),(9,vB (x.testBit (w-1))),(10,vI .i64 i)]) (fun i=>[some (bN w x),some zV,none,some (gBs (bl (w+i) fun i=>if i<w then x.testBit i else x.testBit (w-1)))]) (fun i=>i≤n) (fun i=>n-i) 0 (Nat.zero_le _) ?_ ?_
  ·refine fun h=>yE h ⟨erl rfl,erl rfl,erl rfl,⟨_,rfl,.of ?_⟩,erl rfl,trivial⟩ ⟨.refl _,.refl _,.of (by rw [ecg];rfl),trivial⟩;show AV.d (eB ((bl w x.testBit).getD (IntKind.i64.wrap ((w:Int)-1)).toNat false))=_;rw [etop];rfl
  rintro i hi ih;refine yB Tryz.func142 rfl trivial (fun hb=>?_) (fun hb=>?_)<;>simp only [decide_eq_true_eq,decide_eq_false_iff_not]at hb
  ·refine yS Tryz.func142 rfl ?_ ?_
   ·simp only [List.length_map,zi,andP];exact⟨show(w+i+1)*1≤140737488355328 by omega,trivial⟩
   refine yE (ih (i+1) (by omega) (by omega)) ⟨erl rfl,erl rfl,erl rfl,erl rfl,erw rfl,trivial⟩ ⟨.refl _,.refl _,.gL ?_,trivial⟩;rw [←Nat.add_assoc,z2j,List.map_append,if_neg (by omega)];rfl
  ·obtain rfl:i=n:=by omega
   refine za 3 rfl ?_;refine yV Tryz.func142 rfl trivial (z58 (w+i) _ (by omega)) (.refl _) ?_;exact yR Tryz.func142 rfl trivial rfl
 | false=>
  rw [Bool.false_and]at ecg ⊢;refine yF Tryz.func142 rfl trivial ?_;refine yS Tryz.func142 rfl trivial ?_;refine z8 (α:=Nat) (fun i=>[(1,vI .i64 n),(6,.ptr 1 0),(8,.gs 3),(9,vB (false)),(10,vI .i64 i)]) (fun i=>[some (bN w x),some zV,none,some (gBs (bl (w+i) fun i=>if i<w then x.testBit i else false))]) (fun i=>i≤n) (fun i=>n-i) 0 (Nat.zero_le _) ?_ ?_
  ·exact fun h=>yE h (eAl rfl) ⟨.refl _,.refl _,.of (by rw [ecg];rfl),trivial⟩
  rintro i hi ih;refine yB Tryz.func142 rfl trivial (fun hb=>?_) (fun hb=>?_)<;>simp only [decide_eq_true_eq,decide_eq_false_iff_not]at hb
  ·refine yS Tryz.func142 rfl ?_ ?_
   ·simp only [List.length_map,zi,andP];exact⟨show(w+i+1)*1≤140737488355328 by omega,trivial⟩
   refine yE (ih (i+1) (by omega) (by omega)) ⟨erl rfl,erl rfl,erl rfl,erl rfl,erw rfl,trivial⟩ ⟨.refl _,.refl _,.gL ?_,trivial⟩;rw [←Nat.add_assoc,z2j,List.map_append,if_neg (by omega)];rfl
  ·obtain rfl:i=n:=by omega
   refine za 3 rfl ?_;refine yV Tryz.func142 rfl trivial (z58 (w+i) _ (by omega)) (.refl _) ?_;exact yR Tryz.func142 rfl trivial rfl
theorem zaa(X i:Nat):X / 2^i=2*(X / 2^(i+1))+if X.testBit i then 1 else 0:=by
 rw [Nat.pow_succ,←Nat.div_div_eq_div_mul,Nat.testBit_eq_decide_div_mod_eq];have:=Nat.mod_add_div (X / 2^i) 2;rcases Nat.mod_two_eq_zero_or_one (X / 2^i)with h|h<;>simp [h]<;>omega
theorem zbg(f:Nat→Bool){n i:Nat}(hi:i<n):(ofB f n).testBit i=f i:=by rw [z9l];simp [hi]
theorem zhl(f:Nat→Bool)(n:Nat):ofB f n / 2^n=0:=Nat.div_eq_of_lt (z3r f n)
theorem z96(n:Nat)(f g:Nat→Bool)(hb:n≤1000000):ACall Tryz.prog 180 [.d (eBs (bl n f)),.d (eBs (bl n g))] [] (fun r o=>r=vB (decide (ofB f n<ofB g n))):=by
 refine yN Tryz.func180 fun C hC hCl hDs hGk=>?_;refine yS Tryz.func180 rfl trivial ?_;refine z8 (α:=Nat) (fun k=>[(0,.d (eBs (bl n f))),(1,.d (eBs (bl n g))),(5,vI .i64 ((n:Int)-1-k))]) (fun k=>[]) (fun k=>k≤n∧ofB f n / 2^(n-k)=ofB g n / 2^(n-k)) (fun k=>n-k) 0 ⟨Nat.zero_le _,by rw [Nat.sub_zero,zhl,zhl]⟩ ?_ ?_
 ·refine fun h=>yE h ⟨erl rfl,erl rfl,⟨_,rfl,.of ?_⟩,trivial⟩ trivial;show vI .i64 (IntKind.i64.wrap ((((bl n f).map eB).length:Int)-1))=_;rw [List.length_map,zi,z6 (by omega) (by omega)];simp
 rintro k ⟨hk,he⟩ ih;refine yB Tryz.func180 rfl trivial (fun hb=>?_) (fun hb=>?_)<;>simp only [decide_eq_true_eq,decide_eq_false_iff_not]at hb
 ·have en:((n:Int)-1-k).toNat=n-1-k:=by omega
  have hlt:n-1-k<n:=by omega
  have ef:(bl n f).getD ((n:Int)-1-k).toNat false=f (n-1-k):=by rw [en];exact z3a hlt
  have eg:(bl n g).getD ((n:Int)-1-k).toNat false=g (n-1-k):=by rw [en];exact z3a hlt
  have ew:IntKind.i64.wrap ((n:Int)-1-k-1)=(n:Int)-1-((k+1:Nat):Int):=by rw [z6 (by omega) (by omega)];omega
  have d1:=zaa (ofB f n) (n-1-k);have d2:=zaa (ofB g n) (n-1-k);rw [show n-1-k+1=n-k by omega,zbg f hlt]at d1;rw [show n-1-k+1=n-k by omega,zbg g hlt]at d2;have hin:∀h:Nat→Bool,((0:Int)≤(n:Int)-1-k∧(n:Int)-1-k<(((bl n h).map eB).length:Nat)):=fun h=>by rw [List.length_map,zi];omega
  refine yO 8 Tryz.func180 rfl trivial ?_;refine yq rfl ⟨hin g,hin f,trivial⟩ ?_;refine yB Tryz.func180 rfl trivial (fun h=>?_) (fun h=>?_)
  ·have h:((bl n f).getD ((n:Int)-1-k).toNat false !=(bl n g).getD ((n:Int)-1-k).toNat false)=true:=h;rw [ef,eg]at h;refine yR Tryz.func180 rfl ⟨hin g,trivial⟩ ?_;show vB ((bl n g).getD ((n:Int)-1-k).toNat false)=_;rw [eg];congr 4;cases hf:f (n-1-k)<;>cases hg:g (n-1-k)<;>rw [hf,hg]at h<;>first|(cases h;done)|skip
   ·rw [hf]at d1;rw [hg]at d2;simp only [Bool.false_eq_true,if_false,if_true]at d1 d2;exact(decide_eq_true (Nat.lt_of_div_lt_div (c:=2^(n-1-k)) (by omega))).symm
   ·rw [hf]at d1;rw [hg]at d2;simp only [Bool.false_eq_true,if_false,if_true]at d1 d2;have:ofB g n<ofB f n:=Nat.lt_of_div_lt_div (c:=2^(n-1-k)) (by omega);exact(decide_eq_false (by omega)).symm
  ·have h:((bl n f).getD ((n:Int)-1-k).toNat false !=(bl n g).getD ((n:Int)-1-k).toNat false)=false:=h;rw [ef,eg]at h;have h:f (n-1-k)=g (n-1-k):=by simpa using h
   refine yS Tryz.func180 rfl trivial ?_;refine yE (ih (k+1) ⟨by omega,?_⟩ (by omega)) ⟨erl rfl,erl rfl,⟨_,rfl,.of (by rw [←ew])⟩,trivial⟩ trivial;rw [show n-(k+1)=n-1-k by omega,d1,d2,h,he]
 ·obtain rfl:k=n:=by omega
  refine yR Tryz.func180 rfl trivial ?_;rw [Nat.sub_self,Nat.pow_zero,Nat.div_one,Nat.div_one]at he;rw [he];simp;rfl
theorem zqu(m:Nat)(f:Nat→Bool)(hb:m≤1000000):ACall Tryz.prog 179 [.d (eBs (bl m f))] [] (fun r o=>r=vI .i64 ((min (ofB f m) m:Nat):Int)):=by
 refine yN Tryz.func179 fun C hC hCl hDs hGk=>?_;refine yS Tryz.func179 rfl trivial ?_;refine z8 (α:=Nat) (fun k=>[(0,.d (eBs (bl m f))),(3,vI .i64 ((min (ofB f m / 2^(m-k)) (2*m):Nat):Int)),(4,vI .i64 ((m:Int)-1-k))]) (fun k=>[]) (fun k=>k≤m) (fun k=>m-k) 0 (Nat.zero_le _) ?_ ?_
 ·refine fun h=>yE h ⟨erl rfl,⟨_,rfl,.of ?_⟩,⟨_,rfl,.of ?_⟩,trivial⟩ trivial
  ·rw [Nat.sub_zero,zhl,Nat.zero_min];rfl
  ·show vI .i64 (IntKind.i64.wrap ((((bl m f).map eB).length:Int)-1))=_;rw [List.length_map,zi,z6 (by omega) (by omega)];simp
 rintro k hk ih;refine yB Tryz.func179 rfl trivial (fun hb=>?_) (fun hb=>?_)<;>simp only [decide_eq_true_eq,decide_eq_false_iff_not]at hb
 ·have en:((m:Int)-1-k).toNat=m-1-k:=by omega
  have hlt:m-1-k<m:=by omega
  have ef:(bl m f).getD ((m:Int)-1-k).toNat false=f (m-1-k):=by rw [en];exact z3a hlt
  have ew:IntKind.i64.wrap ((m:Int)-1-k-1)=(m:Int)-1-((k+1:Nat):Int):=by rw [z6 (by omega) (by omega)];omega
  have d1:=zaa (ofB f m) (m-1-k);rw [show m-1-k+1=m-k by omega,zbg f hlt]at d1;have hin:((0:Int)≤(m:Int)-1-k∧(m:Int)-1-k<(((bl m f).map eB).length:Nat)):=by rw [List.length_map,zi];omega
  have hv:min (ofB f m / 2^(m-k)) (2*m)≤2*m:=Nat.min_le_right _ _;have w1:IntKind.i64.wrap (((min (ofB f m / 2^(m-k)) (2*m):Nat):Int)*2)=((min (ofB f m / 2^(m-k)) (2*m)*2:Nat):Int):=by rw [z6 (by omega) (by omega)];omega
  have w2:IntKind.i64.wrap (2*(m:Int))=((2*m:Nat):Int):=by rw [z6 (by omega) (by omega)];omega
  refine yB Tryz.func179 rfl ⟨hin,trivial⟩ (fun h=>?_) (fun h=>?_)<;>rw [ef]at h
  ·refine yS Tryz.func179 rfl trivial ?_;refine yE (ih (k+1) (by omega) (by omega)) ⟨erl rfl,⟨_,rfl,.of ?_⟩,⟨_,rfl,.of (by rw [←ew])⟩,trivial⟩ trivial;refine congrArg (fun z:Int=>vI .i64 z) ?_;rw [List.length_map,zi,w1,w2,z6 (n:=((min (ofB f m / 2^(m-k)) (2*m)*2:Nat):Int)+1) (by omega) (by omega),show m-(k+1)=m-1-k by omega,d1,h];simp only [if_true];omega
  ·refine yS Tryz.func179 rfl trivial ?_;refine yE (ih (k+1) (by omega) (by omega)) ⟨erl rfl,⟨_,rfl,.of ?_⟩,⟨_,rfl,.of (by rw [←ew])⟩,trivial⟩ trivial;refine congrArg (fun z:Int=>vI .i64 z) ?_;rw [List.length_map,zi,w1,w2,show m-(k+1)=m-1-k by omega,d1,h];simp only [Bool.false_eq_true,if_false];omega
 ·obtain rfl:k=m:=by omega
  refine yR Tryz.func179 rfl trivial ?_;refine congrArg (fun z:Int=>vI .i64 z) ?_;rw [List.length_map,zi,Nat.sub_self,Nat.pow_zero,Nat.div_one];omega
theorem zcd(m:Nat)(f g:Nat→Bool)(c:Bool):bl m (adS f g c)=bl m ((ofB f m+ofB g m+(if c then 1 else 0))%2^m).testBit:=z7l fun i hi=>by
 rw [←zu0,zbg _ hi]
theorem zrs(x m i:Nat):ofB (shF x.testBit m i false) m=x*2^i%2^m:=zbh (Nat.mod_lt _ (Nat.two_pow_pos _)) fun j hj=>by
 rw [Nat.testBit_mod_two_pow,Nat.testBit_mul_two_pow,shF];by_cases h:i≤j
 ·rw [if_pos (by omega),show((j:Int)-i).toNat=j-i by omega];simp [hj,h]
 ·rw [if_neg (by omega)];simp [h]
theorem zds{m:Nat}{f:Nat→Bool}(h:∀i,f i=false):(bl m f).map eB=List.replicate m (eB false):=by
 rw [bl,List.map_map,List.eq_replicate_iff];refine⟨by simp,fun b hb=>?_⟩;obtain⟨i,_,rfl⟩:=List.mem_map.1 hb;show eB (f i)=_;rw [h]
theorem zuc(m x y i:Nat):prI m x y i<2^m:=Nat.mod_lt _ (Nat.two_pow_pos _)
theorem zm6(m x y:Nat)(hy:y<2^m)(hb:m≤100000):ACall Tryz.prog 176 [.d (eBs (bl m x.testBit)),.d (eBs (bl m y.testBit))] [] (fun r o=>r=.d (eBs (bl m (x*y%2^m).testBit))):=by
 refine yN Tryz.func176 fun C hC hCl hDs hGk=>?_;refine yS Tryz.func176 rfl ?_ ?_
 ·simp only [List.length_map,zi,andP];exact⟨⟨by omega,by omega,show(m:Int)*(1:Int)≤_ by omega⟩,trivial⟩
 refine za 0 rfl ?_;refine z8 (α:=Nat) (fun i=>[(0,.d (eBs (bl m x.testBit))),(1,.d (eBs (bl m y.testBit))),(5,.d (eBs (bl m (prI m x y i).testBit))),(6,vI .i64 i)]) (fun i=>[]) (fun i=>i≤m) (fun i=>m-i) 0 (Nat.zero_le _) ?_ ?_
 ·refine fun h=>yE h ⟨erl rfl,erl rfl,⟨_,rfl,.eL ?_⟩,erl rfl,trivial⟩ trivial;rw [List.length_map,zi,Int.toNat_natCast,zds (f:=(prI m x y 0).testBit) fun i=>by simp [prI,Nat.mod_one]];rfl
 rintro i hi ih;refine yB Tryz.func176 rfl trivial (fun hb=>?_) (fun hb=>?_)<;>simp only [decide_eq_true_eq,decide_eq_false_iff_not,List.length_map,zi]at hb
 ·have hbd:((0:Int)≤(i:Nat)∧((i:Nat):Int)<(m:Int))∧True:=⟨⟨by omega,by omega⟩,trivial⟩
  have ef:((bl m y.testBit).getD ((i:Nat):Int).toNat false)=y.testBit i:=z3a (f:=y.testBit) (show i<m by omega);refine yB Tryz.func176 rfl (by simpa [zi]using hbd) (fun h1=>?_) (fun h1=>?_)<;>rw [ef]at h1
  ·refine yV Tryz.func176 rfl trivial (z7a m x.testBit i false (by omega) (by omega)) (.refl _) ?_;refine yV Tryz.func176 rfl trivial (z6n m (prI m x y i).testBit (shF x.testBit m i false) false (by omega)) (.refl _) ?_;refine yS Tryz.func176 rfl trivial ?_;refine yE (ih (i+1) (by omega) (by omega)) ⟨erl rfl,erl rfl,⟨_,rfl,.of ?_⟩,erw rfl,trivial⟩ trivial;rw [zcd,zrs,z2f (zuc _ _ _ _),prI_t h1];rfl
  ·refine yS Tryz.func176 rfl trivial ?_;exact yE (ih (i+1) (by omega) (by omega)) ⟨erl rfl,erl rfl,⟨_,rfl,.of (by rw [prI_f h1])⟩,erw rfl,trivial⟩ trivial
 ·obtain rfl:i=m:=by omega
  refine yR Tryz.func176 rfl trivial ?_;rw [prI,Nat.mod_eq_of_lt hy];rfl
def quN(m x y:Nat):Nat:=if y=0 then 2^m-1 else x / y
def reN(x y:Nat):Nat:=if y=0 then x else x%y
def dvA(m x k:Nat):Nat:=x / 2^(m-k)
def dvR(m x y k:Nat):Nat:=reN (dvA m x k) y
def dvQ(m x y k:Nat)(i:Nat):Bool:=decide (m-k≤i)&&(quN m x y).testBit i
theorem zjp{m x k:Nat}(hk:k<m):dvA m x (k+1)=2*dvA m x k+if x.testBit (m-1-k)then 1 else 0:=by
 have:=zaa x (m-1-k);rw [show m-1-k+1=m-k by omega]at this;rw [dvA,dvA,show m-(k+1)=m-1-k by omega,this]
theorem zul{m x k:Nat}(hx:x<2^m)(hk:k≤m):dvA m x k<2^k:=by
 rw [dvA,Nat.div_lt_iff_lt_mul (Nat.two_pow_pos _),←Nat.pow_add];rwa [show k+(m-k)=m by omega]
theorem zrt(x y:Nat):reN x y≤x:=by
 unfold reN;split
 ·exact Nat.le_refl _
 ·exact Nat.mod_le _ _
theorem zo7{m x y k:Nat}(hx:x<2^m)(hk:k≤m):dvR m x y k<2^k:=Nat.lt_of_le_of_lt (zrt _ _) (zul hx hk)
theorem zjl{m x y:Nat}(hx:x<2^m):dvR m x y 0=0:=by
 have:=zo7 (y:=y) hx (Nat.zero_le m);simpa using this
theorem zo8(m x y:Nat):dvR m x y m=reN x y:=by rw [dvR,dvA,Nat.sub_self,Nat.pow_zero,Nat.div_one]
theorem zjm{m x y k:Nat}(hk:k<m):dvR m x y (k+1)=(if 2*dvR m x y k+(if x.testBit (m-1-k)then 1 else 0)<y then 2*dvR m x y k+(if x.testBit (m-1-k)then 1 else 0)else 2*dvR m x y k+(if x.testBit (m-1-k)then 1 else 0)-y):=by
 have hA:=zjp (x:=x) hk;generalize hb:(if x.testBit (m-1-k)then 1 else 0)=b at *;have hb1:b≤1:=by rw [←hb];split<;>omega
 unfold dvR reN;by_cases hy:y=0
 ·subst hy;simp [hA]
 ·simp only [hy,if_false];rw [hA];have hr:=Nat.mod_lt (dvA m x k) (Nat.pos_of_ne_zero hy);have hd:=Nat.mod_add_div (dvA m x k) y;generalize dvA m x k%y=r at *;generalize dvA m x k / y=q at *;have e:2*dvA m x k+b=2*r+b+y*(2*q):=by rw [←hd,Nat.mul_add,Nat.mul_left_comm];omega
  rw [e,Nat.add_mul_mod_self_left];split
  ·rename_i h;exact Nat.mod_eq_of_lt h
  ·rename_i h;rw [Nat.mod_eq_sub_mod (by omega),Nat.mod_eq_of_lt (by omega)]
theorem zjo{m x y k:Nat}(hk:k<m):(quN m x y).testBit (m-1-k)=!decide (2*dvR m x y k+(if x.testBit (m-1-k)then 1 else 0)<y):=by
 have hA:=zjp (x:=x) hk;generalize hb:(if x.testBit (m-1-k)then 1 else 0)=b at *;have hb1:b≤1:=by rw [←hb];split<;>omega
 unfold dvR reN quN;by_cases hy:y=0
 ·subst hy;simp only [if_true];rw [Nat.testBit_two_pow_sub_one];simp;omega
 ·simp only [hy,if_false];have hdd:x / y / 2^(m-1-k)=dvA m x (k+1) / y:=by
   rw [dvA,show m-(k+1)=m-1-k by omega,Nat.div_div_eq_div_mul,Nat.div_div_eq_div_mul,Nat.mul_comm]
  rw [Nat.testBit_eq_decide_div_mod_eq,hdd,hA];have hr:=Nat.mod_lt (dvA m x k) (Nat.pos_of_ne_zero hy);have hd:=Nat.mod_add_div (dvA m x k) y;generalize dvA m x k%y=r at *;generalize dvA m x k / y=q at *;have e:2*dvA m x k+b=2*r+b+y*(2*q):=by rw [←hd,Nat.mul_add,Nat.mul_left_comm];omega
  rw [e,Nat.add_mul_div_left _ _ (Nat.pos_of_ne_zero hy)];by_cases h:2*r+b<y
  ·rw [Nat.div_eq_of_lt h];simp [h]
  ·have:(2*r+b) / y=1:=by
    rw [Nat.div_eq_iff (Nat.pos_of_ne_zero hy)];omega
   rw [this];simp [h]
theorem zru{m x y:Nat}(hx:x<2^m):quN m x y<2^m:=by
 have:=Nat.two_pow_pos m;unfold quN;split
 ·omega
 ·exact Nat.lt_of_le_of_lt (Nat.div_le_self _ _) hx
theorem zo9(m x y i:Nat):dvQ m x y m i=(quN m x y).testBit i:=by simp [dvQ]
theorem zjn{m x y i:Nat}(hi:i<m):dvQ m x y 0 i=false:=by simp [dvQ];omega
def sel(e:Nat)(L:List Nat)(o h:AObj):AObj:=if e∈L then o else h
theorem z5v(e:Nat)(L:List Nat)(o h:AObj):sel e (e::L) o h=o:=if_pos (List.mem_cons_self ..)
theorem z2y{e j:Nat}(hne:j≠e)(L:List Nat)(o h:AObj):sel e (j::L) o h=sel e L o h:=by
 unfold sel;simp only [List.mem_cons,hne.symm,false_or]
theorem zaq{e:Nat}{L:List Nat}(hn:e∉L)(o h:AObj):sel e L o h=h:=if_neg hn
theorem z7v{e:Nat}{L:List Nat}(hn:e∈L)(o h:AObj):sel e L o h=o:=if_pos hn
def dvQN(w x y k:Nat):Nat:=ofB (dvQ w x y k) w
theorem zoa(w x y:Nat):dvQN w x y 0=0:=by
 unfold dvQN;exact zbh (Nat.two_pow_pos _) fun i hi=>by rw [zjn hi,Nat.zero_testBit]
theorem zr0{w x y:Nat}(hx:x<2^w):dvQN w x y w=quN w x y:=zbh (zru hx) fun i _=>zo9 w x y i
theorem zs5{w x y k:Nat}(hk:k<w)(hq:(quN w x y).testBit (w-1-k)=false):dvQN w x y (k+1)=dvQN w x y k:=by
 unfold dvQN;apply Nat.eq_of_testBit_eq;intro i;rw [z9l,z9l];by_cases hi:i<w
 ·simp only [hi,decide_true,Bool.true_and,dvQ];by_cases he:i=w-1-k
  ·subst he;simp [hq]
  ·have:decide (w-(k+1)≤i)=decide (w-k≤i):=by
    rw [decide_eq_decide];omega
   rw [this]
 ·simp [hi]
theorem zs4{w x y k:Nat}(hk:k<w)(hq:(quN w x y).testBit (w-1-k)=true):dvQN w x y (k+1)=dvQN w x y k ||| 2^(w-1-k):=by
 unfold dvQN;apply Nat.eq_of_testBit_eq;intro i;rw [Nat.testBit_or,Nat.testBit_two_pow,z9l,z9l];by_cases hi:i<w
 ·simp only [hi,decide_true,Bool.true_and,dvQ];by_cases he:i=w-1-k
  ·subst he;simp [hq];omega
  ·have h1:decide (w-(k+1)≤i)=decide (w-k≤i):=by
    rw [decide_eq_decide];omega
   have h2:¬w-1-k=i:=fun e=>he e.symm
   rw [h1];simp [h2]
 ·have:¬w-1-k=i:=by omega
  simp [hi,this]
theorem z9t(w x y:Nat)(hx:x<2^w)(hy:y<2^w)(hw:0<w)(hwb:w≤100000):ACall Tryz.prog 250 [.d (vN w x),.d (vN w y)] [] (fun r o=>r=tupOf [.d (vN w (quN w x y)),.d (vN w (reN x y))]):=by
 refine yN Tryz.func250 fun C hC hCl hDs hGk=>?_;have hpl:C.π.length=0:=by rw [hCl,hC];rfl
 refine z4l 8 4 [(2,some (12,.ag [vI .i64 w,.gs 4])),(5,some (15,.ag [vI .i64 w,.gs 5])),(6,some (6,.ptr 6 0)),(7,some (7,.ptr 7 0))]
  (fun L=>[some (bN w x),some (bN w y),some zV,some zV,some (sel 2 L (gUs (List.replicate (z7 w) 0)) HD),some (sel 5 L (gUs (List.replicate (z7 w) 0)) HD),some (sel 6 L zV HD),some (sel 7 L zV HD)]) _
  (objsF:=[some (bN w x),some (bN w y),some zV,some zV,some (gUs (List.replicate (z7 w) 0)),some (gUs (List.replicate (z7 w) 0)),some zV,some zV])
  tabOk Tryz.func250 rfl rfl trivial (by kernel_rfl) (by kernel_rfl) ?_ ?_ ?_ ?_ (fun L=>yq rfl trivial rfl) ?_ ?_
 ·rfl
 ·intro L hL;simp only [z7v (hL 2 (by decide)),z7v (hL 5 (by decide)),z7v (hL 6 (by decide)),z7v (hL 7 (by decide))]
 ·intro j L hb;simp only [actB,List.any_cons,List.any_nil,Bool.or_false,Bool.or_eq_false_iff]at hb;obtain⟨b1,b2,b3,b4⟩:=hb;have n1:=Nat.ne_of_beq_eq_false b1;have n2:=Nat.ne_of_beq_eq_false b2;have n3:=Nat.ne_of_beq_eq_false b3;have n4:=Nat.ne_of_beq_eq_false b4;simp only [z2y (fun e=>n1 e.symm),z2y (fun e=>n2 e.symm),z2y (fun e=>n3 e.symm),z2y (fun e=>n4 e.symm)]
 ·rfl
 ·refine List.forall_mem_cons.2 ⟨⟨_,rfl,rfl,?_⟩,List.forall_mem_cons.2 ⟨⟨_,rfl,rfl,?_⟩,List.forall_mem_cons.2 ⟨⟨_,rfl,rfl,?_⟩,List.forall_mem_cons.2 ⟨⟨_,rfl,rfl,?_⟩,fun x h=>by cases h⟩⟩⟩⟩
  ·refine zbx (p:=4) (a:=.ag [vI .i64 w,.gs 0]) (q0:=1) (o1:=gUs (List.replicate (z7 w) 0)) rfl rfl (fun _ _ _ h=>h) (z2a w (by omega)) (zf Tryz.func97 rfl rfl) (by rintro r oz ⟨rfl,rfl⟩;exact⟨rfl,rfl⟩) (.refl _) rfl rfl rfl rfl rfl rfl (by omega) ?_ ?_
   ·intro L h;show some (some (sel 2 L _ _))=_;rw [zaq h]
   ·intro L;simp only [z5v,z2y (show(2:Nat)≠5 by decide),z2y (show(2:Nat)≠6 by decide),z2y (show(2:Nat)≠7 by decide)];rfl
  ·refine zbx (p:=5) (a:=.ag [vI .i64 w,.gs 0]) (q0:=1) (o1:=gUs (List.replicate (z7 w) 0)) rfl rfl (fun _ _ _ h=>h) (z2a w (by omega)) (zf Tryz.func97 rfl rfl) (by rintro r oz ⟨rfl,rfl⟩;exact⟨rfl,rfl⟩) (.refl _) rfl rfl rfl rfl rfl rfl (by omega) ?_ ?_
   ·intro L h;show some (some (sel 5 L _ _))=_;rw [zaq h]
   ·intro L;simp only [z5v,z2y (show(5:Nat)≠2 by decide),z2y (show(5:Nat)≠6 by decide),z2y (show(5:Nat)≠7 by decide)];rfl
  ·refine z86 (p:=6) tabOk rfl rfl rfl rfl rfl rfl (by omega) ?_ ?_
   ·intro L h;show some (some (sel 6 L _ _))=_;rw [zaq h]
   ·intro L;simp only [z5v,z2y (show(6:Nat)≠2 by decide),z2y (show(6:Nat)≠5 by decide),z2y (show(6:Nat)≠7 by decide)];rfl
  ·refine z86 (p:=7) tabOk rfl rfl rfl rfl rfl rfl (by omega) ?_ ?_
   ·intro L h;show some (some (sel 7 L _ _))=_;rw [zaq h]
   ·intro L;simp only [z5v,z2y (show(7:Nat)≠2 by decide),z2y (show(7:Nat)≠5 by decide),z2y (show(7:Nat)≠6 by decide)];rfl
 refine za 5 rfl ?_;refine yS Tryz.func250 rfl trivial ?_;refine z8 (α:=Nat) (fun i=>[(2,.ptr 0 0),(3,.ptr 1 0),(4,.ptr 2 0),(5,.ptr 3 0),(6,.ptr 6 0),(7,.ptr 7 0),(17,vI .i64 (w:Int)),(18,vI .i64 i)]) (fun i=>[some (bN w x),some (bN w y),some zV,some zV,some (gUs (lmb (z7 w) (dvQN w x y i))),none,some (cV w 4),some (bN w (dvR w x y i))]) (fun i=>i≤w) (fun i=>w-i) 0 (Nat.zero_le _) ?_ ?_
 ·refine fun h=>yE h (eAl rfl) ⟨.refl _,.refl _,.refl _,.refl _,.of ?_,.refl _,.of ?_,trivial⟩
  ·rw [z42,zoa];rfl
  ·rw [z42,zjl hx];rfl
 rintro i hi ih;refine yB Tryz.func250 rfl trivial (fun hb=>?_) (fun hb=>?_)<;>simp only [decide_eq_true_eq,decide_eq_false_iff_not]at hb
 ·have hlt:i<w:=by omega
  have hR:dvR w x y i<2^i:=zo7 hx (by omega);have hp:2^i≤2^(w-1):=Nat.pow_le_pow_right (by decide) (by omega);have hp2:2^w=2*2^(w-1):=by rw [←Nat.pow_succ',Nat.succ_eq_add_one,Nat.sub_add_cancel hw]
  have eat:IntKind.i64.wrap (IntKind.i64.wrap ((w:Int)-1)-i)=((w-1-i:Nat):Int):=by rw [z6 (n:=(w:Int)-1) (by omega) (by omega),z6 (by omega) (by omega)];omega
  have hs:=zjm (x:=x) (y:=y) hlt;have hq:=zjo (x:=x) (y:=y) hlt;refine yW [] Tryz.func250 rfl trivial (zdv w 1 (lmb (z7 w) (dvR w x y i)) (z10 _ _) (zr _ _) hwb (by decide)) trivial (.refl _) ?_;have eup:upI (lmb (z7 w) (dvR w x y i)) w 1 (w-1)=lmb (z7 w) (2*dvR w x y i):=by
   rw [zdw (w-1) (Nat.le_refl _),Nat.mod_eq_of_lt (by omega),Nat.pow_one,Nat.mul_comm]
  have hset:setB (lmb (z7 w) (2*dvR w x y i)) 0=lmb (z7 w) (2*dvR w x y i+1):=by
   rw [z44 (z1l hw)];congr 1;have:=Nat.two_pow_add_eq_or_of_lt (i:=1) (b:=1) (by decide) (dvR w x y i);rw [Nat.pow_one]at this;exact this.symm
  refine zv (env':=[(2,.ptr 0 0),(3,.ptr 1 0),(4,.ptr 2 0),(5,.ptr 3 0),(6,.ptr 6 0),(7,.ptr 7 0),(17,vI .i64 (w:Int)),(18,vI .i64 i),(9,vI .i64 ((w-1-i:Nat):Int)),(27,.ag [vI .i64 w,.gs 11])]) (objs':=[some (bN w x),some (bN w y),some zV,some zV,some (gUs (lmb (z7 w) (dvQN w x y i))),none,some (cV w 4),some (bN w (dvR w x y i)),none,none,none,some (gUs (lmb (z7 w) (2*dvR w x y i)))]) ?_ hC hCl ⟨⟨_,rfl,.refl _⟩,⟨_,rfl,.refl _⟩,⟨_,rfl,.refl _⟩,⟨_,rfl,.refl _⟩,⟨_,rfl,.refl _⟩,⟨_,rfl,.refl _⟩,⟨_,rfl,.refl _⟩,⟨_,rfl,.refl _⟩,⟨_,rfl,.of ?_⟩,⟨_,rfl,.refl _⟩,trivial⟩ ⟨.refl _,.refl _,.refl _,.refl _,.refl _,.refl _,.refl _,.of (by rw [eup];rfl),trivial⟩ rfl rfl (Nat.zero_le _);rotate_left
  ·show vI .i64 _=_;rw [eat]
  refine yV Tryz.func250 rfl trivial (z4u w x ((w-1-i:Nat):Int) (by omega)) (.refl _) ?_;rw [bitI'_nat (by omega)];obtain⟨R2,hR2⟩:∃R2,2*dvR w x y i+(if x.testBit (w-1-i)=true then 1 else 0)=R2:=⟨_,rfl⟩
  rw [hR2]at hs hq;have h2:R2<2^w:=by rw [←hR2];split<;>omega
  refine yB Tryz.func250 rfl trivial (fun hb2=>?_) (fun hb2=>?_)
  ·rw [if_pos hb2]at hR2;refine yW [7,11] Tryz.func250 rfl trivial (z5u w 0 (lmb (z7 w) (2*dvR w x y i)) (z10 _ _) (by rw [zr];exact z1l hw) (by omega)) ⟨⟨_,rfl,.refl _⟩,⟨_,rfl,.refl _⟩,trivial⟩ (.refl _) ?_;rw [hset,hR2];refine za 11 rfl ?_;refine zv (env':=[(2,.ptr 0 0),(3,.ptr 1 0),(4,.ptr 2 0),(5,.ptr 3 0),(6,.ptr 6 0),(7,.ptr 7 0),(17,vI .i64 (w:Int)),(18,vI .i64 i),(9,vI .i64 ((w-1-i:Nat):Int))]) (objs':=[some (bN w x),some (bN w y),some zV,some zV,some (gUs (lmb (z7 w) (dvQN w x y i))),none,some (cV w 4),some (bN w R2)]) ?_ hC hCl ⟨⟨_,rfl,.refl _⟩,⟨_,rfl,.refl _⟩,⟨_,rfl,.refl _⟩,⟨_,rfl,.refl _⟩,⟨_,rfl,.refl _⟩,⟨_,rfl,.refl _⟩,⟨_,rfl,.refl _⟩,⟨_,rfl,.refl _⟩,⟨_,rfl,.refl _⟩,trivial⟩ ⟨.refl _,.refl _,.refl _,.refl _,.refl _,.refl _,.refl _,trivial⟩ rfl rfl (Nat.zero_le _);refine yV Tryz.func250 rfl trivial (z7g w R2 y h2 hy hw (by omega)) (.refl _) ?_;refine yB Tryz.func250 rfl trivial (fun h=>?_) (fun h=>?_)
   ·have h:¬R2<y:=by simpa using h
    rw [if_neg h]at hs;rw [decide_eq_false h]at hq;refine yO 3 Tryz.func250 rfl trivial ?_;refine yQ Tryz.func217 rfl trivial (z2u w y hy hw (by omega)) (.refl _) ?_;refine yq rfl trivial ?_;refine yV Tryz.func250 rfl trivial (z3n w R2 (2^w-(y+1)) 1 hw (by omega) (by decide)) (.refl _) ?_;rw [show R2+(2^w-(y+1))+1=(R2-y)+2^w by omega,Nat.add_mod_right,Nat.mod_eq_of_lt (by omega:R2-y<2^w),←hs];refine yW [6,4] Tryz.func250 rfl trivial (z5u w (w-1-i) (lmb (z7 w) (dvQN w x y i)) (z10 _ _) (by rw [zr];exact z1l (by omega)) (by omega)) ⟨⟨_,rfl,.refl _⟩,⟨_,rfl,.refl _⟩,trivial⟩ (.refl _) ?_;refine yS Tryz.func250 rfl trivial ?_;exact yE (ih (i+1) (by omega) (by omega)) ⟨erl rfl,erl rfl,erl rfl,erl rfl,erl rfl,erl rfl,erl rfl,erw rfl,trivial⟩ ⟨.refl _,.refl _,.refl _,.refl _,.of (by rw [z44 (z1l (by omega)),←zs4 hlt hq];rfl),.refl _,.refl _,trivial⟩
   ·have h:R2<y:=by simpa using h
    rw [if_pos h]at hs;rw [decide_eq_true h]at hq;refine yS Tryz.func250 rfl trivial ?_;exact yE (ih (i+1) (by omega) (by omega)) ⟨erl rfl,erl rfl,erl rfl,erl rfl,erl rfl,erl rfl,erl rfl,erw rfl,trivial⟩ ⟨.refl _,.refl _,.refl _,.refl _,.of (by rw [zs5 hlt hq]),.refl _,.of (by rw [hs]),trivial⟩
  ·rw [if_neg (by simp [hb2]),Nat.add_zero]at hR2;rw [hR2];refine za 11 rfl ?_;refine zv (env':=[(2,.ptr 0 0),(3,.ptr 1 0),(4,.ptr 2 0),(5,.ptr 3 0),(6,.ptr 6 0),(7,.ptr 7 0),(17,vI .i64 (w:Int)),(18,vI .i64 i),(9,vI .i64 ((w-1-i:Nat):Int)),(30,.lit false)]) (objs':=[some (bN w x),some (bN w y),some zV,some zV,some (gUs (lmb (z7 w) (dvQN w x y i))),none,some (cV w 4),some (bN w R2)]) ?_ hC hCl ⟨⟨_,rfl,.refl _⟩,⟨_,rfl,.refl _⟩,⟨_,rfl,.refl _⟩,⟨_,rfl,.refl _⟩,⟨_,rfl,.refl _⟩,⟨_,rfl,.refl _⟩,⟨_,rfl,.refl _⟩,⟨_,rfl,.refl _⟩,⟨_,rfl,.refl _⟩,⟨_,rfl,.refl _⟩,trivial⟩ ⟨.refl _,.refl _,.refl _,.refl _,.refl _,.refl _,.refl _,trivial⟩ rfl rfl (Nat.zero_le _);refine yV Tryz.func250 rfl trivial (z7g w R2 y h2 hy hw (by omega)) (.refl _) ?_;refine yB Tryz.func250 rfl trivial (fun h=>?_) (fun h=>?_)
   ·have h:¬R2<y:=by simpa using h
    rw [if_neg h]at hs;rw [decide_eq_false h]at hq;refine yO 3 Tryz.func250 rfl trivial ?_;refine yQ Tryz.func217 rfl trivial (z2u w y hy hw (by omega)) (.refl _) ?_;refine yq rfl trivial ?_;refine yV Tryz.func250 rfl trivial (z3n w R2 (2^w-(y+1)) 1 hw (by omega) (by decide)) (.refl _) ?_;rw [show R2+(2^w-(y+1))+1=(R2-y)+2^w by omega,Nat.add_mod_right,Nat.mod_eq_of_lt (by omega:R2-y<2^w),←hs];refine yW [6,4] Tryz.func250 rfl trivial (z5u w (w-1-i) (lmb (z7 w) (dvQN w x y i)) (z10 _ _) (by rw [zr];exact z1l (by omega)) (by omega)) ⟨⟨_,rfl,.refl _⟩,⟨_,rfl,.refl _⟩,trivial⟩ (.refl _) ?_;refine yS Tryz.func250 rfl trivial ?_;exact yE (ih (i+1) (by omega) (by omega)) ⟨erl rfl,erl rfl,erl rfl,erl rfl,erl rfl,erl rfl,erl rfl,erw rfl,trivial⟩ ⟨.refl _,.refl _,.refl _,.refl _,.of (by rw [z44 (z1l (by omega)),←zs4 hlt hq];rfl),.refl _,.refl _,trivial⟩
   ·have h:R2<y:=by simpa using h
    rw [if_pos h]at hs;rw [decide_eq_true h]at hq;refine yS Tryz.func250 rfl trivial ?_;exact yE (ih (i+1) (by omega) (by omega)) ⟨erl rfl,erl rfl,erl rfl,erl rfl,erl rfl,erl rfl,erl rfl,erw rfl,trivial⟩ ⟨.refl _,.refl _,.refl _,.refl _,.of (by rw [zs5 hlt hq]),.refl _,.of (by rw [hs]),trivial⟩
 ·obtain rfl:i=w:=by omega
  rw [zr0 hx,zo8];refine za 4 rfl ?_;refine zv (env':=[(2,.ptr 0 0),(3,.ptr 1 0),(4,.ptr 2 0),(5,.ptr 3 0),(6,.ptr 6 0),(7,.ptr 7 0),(19,.lit false)]) (objs':=[some (bN i x),some (bN i y),some zV,some zV,none,none,some (bN i (quN i x y)),some (bN i (reN x y))]) ?_ hC hCl ⟨⟨_,rfl,.refl _⟩,⟨_,rfl,.refl _⟩,⟨_,rfl,.refl _⟩,⟨_,rfl,.refl _⟩,⟨_,rfl,.refl _⟩,⟨_,rfl,.refl _⟩,⟨_,rfl,.refl _⟩,trivial⟩ ⟨.refl _,.refl _,.refl _,.refl _,.refl _,.refl _,trivial⟩ rfl rfl (Nat.zero_le _);refine z4l 3 0 [(2,none)] (fun L=>[some (bN i x),some (bN i y),some (sel 2 L (bN i (quN i x y)) zV),some zV,none,none,some (bN i (quN i x y)),some (bN i (reN x y))]) _
   (objsF:=[some (bN i x),some (bN i y),some (bN i (quN i x y)),some zV,none,none,some (bN i (quN i x y)),some (bN i (reN x y))])
   tabOk Tryz.func250 rfl rfl trivial (by kernel_rfl) (by kernel_rfl) ?_ ?_ ?_ rfl (fun L=>yq rfl trivial rfl) ?_ ?_
  ·rfl
  ·intro L hL;simp only [z7v (hL 2 (by decide))]
  ·intro j L hb;simp only [actB,List.any_cons,List.any_nil,Bool.or_false]at hb;have n1:=Nat.ne_of_beq_eq_false hb;simp only [z2y (fun e=>n1 e.symm)]
  ·refine List.forall_mem_cons.2 ⟨⟨_,rfl,rfl,?_⟩,fun x h=>by cases h⟩;refine zde (c:=none) (a:=.dead) tabOk rfl (fun _ _ _ h=>h) ?_ trivial rfl;intro L h;simp only [z5v,zaq h];rfl
  exact yR Tryz.func250 rfl trivial rfl
@[reducible] def cI(w:Int):AObj:=.cells 3 [.d (eI w)]
def anyNe(ws:List Int)(w:Int):Bool:=ws.any fun a=>!(a==w)
theorem zt6(a w:Int):ACall Tryz.prog 125 [vI .i64 a,.ptr 0 0] [some (cI w)] (fun r o=>r=vB (!(a==w))∧o=[some (cI w)]):=by
 refine yN Tryz.func125 fun C hC hCl hDs hGk=>?_;exact yL Tryz.func125 rfl trivial (.refl _) (oAl rfl) ⟨rfl,rfl⟩ (o2:=[some (cI w)])
theorem zne(ws:List Int)(w:Int)(ha:ws.length≤1000000):ACall Tryz.prog 155 [.d (eIs ws),.fn (.func 125) [.ptr 0 0]] [some (cI w)] (fun r o=>∃k:Int,r=vI .i64 k∧decide (k≥0)=anyNe ws w∧o=[some (cI w)]):=by
 refine yN Tryz.func155 fun C hC hCl hDs hGk=>?_;refine yS Tryz.func155 rfl trivial ?_;refine z8 (α:=Nat) (fun j=>[(0,.d (eIs ws)),(1,.fn (.func 125) [.ptr 0 0]),(7,vI .i64 (ws.length:Int)),(8,vI .i64 (j:Int))]) (fun j=>[some (cI w)]) (fun j=>j≤ws.length∧∀q,q<j→ws.getD q 0=w) (fun j=>ws.length-j) 0 ⟨Nat.zero_le _,fun q hq=>by omega⟩ ?_ ?_
 ·exact fun h=>yE h ⟨erl rfl,erl rfl,⟨_,rfl,.of (by rw [List.length_map])⟩,erl rfl,trivial⟩ (oAl rfl)
 rintro j ⟨hj,hall⟩ ih;refine yB Tryz.func155 rfl trivial (fun hb=>?_) (fun hb=>?_)<;>simp only [decide_eq_true_eq,decide_eq_false_iff_not]at hb
 ·have hlt:j<ws.length:=by omega
  refine yW [0] Tryz.func155 rfl (by simp [andP]<;>omega) (zt6 (ws.getD j 0) w) ⟨⟨_,rfl,.refl _⟩,trivial⟩ (.refl _) ?_;refine yB Tryz.func155 rfl trivial (fun g=>?_) (fun g=>?_)
  ·refine yL Tryz.func155 rfl trivial (.refl _) (oAl rfl) ⟨_,rfl,?_,rfl⟩ (o2:=[some (cI w)]);have:anyNe ws w=true:=List.any_eq_true.2 ⟨_,zw 0 hlt,g⟩;rw [this];exact decide_eq_true (by omega)
  ·have g:(!(ws.getD j 0==w))=false:=g;have g:ws.getD j 0=w:=by simpa using g
   refine yS Tryz.func155 rfl trivial ?_;refine yE (ih (j+1) ⟨by omega,fun q hq=>?_⟩ (by omega)) ⟨erl rfl,erl rfl,erl rfl,erw rfl,trivial⟩ (oAl rfl);rcases Nat.lt_or_ge q j with h|h
   ·exact hall q h
   ·obtain rfl:q=j:=by omega
    exact g
 ·obtain rfl:j=ws.length:=by omega
  refine yL Tryz.func155 rfl trivial (.refl _) (oAl rfl) ⟨-1,rfl,?_,rfl⟩ (o2:=[some (cI w)]);have:anyNe ws w=false:=by
   unfold anyNe;rw [List.any_eq_false];intro a ha;obtain⟨q,hq,rfl⟩:=List.getElem_of_mem ha;have:=hall q hq;rw [List.getD_eq_getElem?_getD,List.getElem?_eq_getElem hq]at this;simpa using this
  rw [this];rfl
theorem zkz(ws:List Int)(w:Int)(ha:ws.length≤1000000):ACall Tryz.prog 124 [.d (eIs ws),.fn (.func 125) [.ptr 0 0]] [some (cI w)] (fun r o=>r=vB (anyNe ws w)∧o=[some (cI w)]):=by
 refine yN Tryz.func124 fun C hC hCl hDs hGk=>?_;refine yG [0] Tryz.func124 rfl trivial (zne ws w ha) ⟨⟨_,rfl,.refl _⟩,trivial⟩ (.refl _) ?_;rintro r o ⟨k,rfl,hk,rfl⟩;refine yL Tryz.func124 rfl trivial (.refl _) (oAl rfl) ⟨?_,rfl⟩ (o2:=[some (cI w)]);show vB (decide (k≥0))=_;rw [hk]
theorem zad(ws:List Int)(w:Int)(ha:ws.length≤1000000):ACall Tryz.prog 123 [.d (eIs ws),.ptr 0 0] [some (cI w)] (fun r o=>r=vB (!anyNe ws w)∧o=[some (cI w)]):=by
 refine yN Tryz.func123 fun C hC hCl hDs hGk=>?_;refine yW [0] Tryz.func123 rfl trivial (zkz ws w ha) ⟨⟨_,rfl,.refl _⟩,trivial⟩ (.refl _) ?_;exact yL Tryz.func123 rfl trivial (.refl _) (oAl rfl) ⟨rfl,rfl⟩ (o2:=[some (cI w)])
theorem zu:ACall Tryz.prog 93 [.dead,vB true,.dead] [] (fun r o=>r=.tp []):=by
 refine yN Tryz.func93 fun C hC hCl hDs hGk=>?_;refine yF Tryz.func93 rfl trivial ?_;exact yR Tryz.func93 rfl trivial rfl
@[reducible] def mpI(s:List Int):AObj:=.map (s.map fun a=>(.int .i64 a,vB true))
@[reducible] def chkO(l:List Nd)(i:Nat)(id:Int)(s t:List Int)(vh:Value):List (Option AObj):=
 [some (.cells 147 [.d (eNds l),.gs 1,.mp 2,.d (eI id)]),some (gIs (wL l i)),some (mpK [(kInit,.mp 3),(kNext,.mp 4)]),some (mpI s),some (mpI t),some (.hold (.gs 1) vh)]
theorem zb2(m:Nat):∀s:List Int,refsM m (s.map fun a=>(Value.int .i64 a,vB true))=true
 | []=>rfl
 | a::r=>zb2 m r
theorem zfz(ρ:Nat→Nat):∀s:List Int,renEs ρ (s.map fun a=>(Value.int .i64 a,vB true))=s.map fun a=>(Value.int .i64 a,vB true)
 | []=>rfl
 | a::r=>by simp only [List.map_cons,renEs,AV.ren,zfz ρ r]
theorem z3w(ρ:Nat→Nat)(s:List Int):(mpI s).ren ρ=mpI s:=by simp only [AObj.ren,zfz]
theorem za8(i:Nat)(s:List Int):(mpI s).drop i=mpI s:=by
 have:∀s:List Int,zgk i (s.map fun a=>(Value.int .i64 a,vB true))=s.map fun a=>(Value.int .i64 a,vB true):=fun s=>by
  induction s with
  | nil=>rfl
  | cons a r ih=>simp only [List.map_cons,zgk,AV.drop,ih]
 simp only [AObj.drop,this]
theorem z3t(q:Nat→Bool)(s:List Int):(mpI s).dropS q=mpI s:=by
 have:∀s:List Int,zc5 q (s.map fun a=>(Value.int .i64 a,vB true))=s.map fun a=>(Value.int .i64 a,vB true):=fun s=>by
  induction s with
  | nil=>rfl
  | cons a r ih=>simp only [List.map_cons,zc5,AV.dropS,ih]
 simp only [AObj.dropS,this]
theorem znt(i:Nat)(x:D)(s:List Int):(mpI s).frz i x=mpI s:=by
 have:∀s:List Int,frzEs i x (s.map fun a=>(Value.int .i64 a,vB true))=s.map fun a=>(Value.int .i64 a,vB true):=fun s=>by
  induction s with
  | nil=>rfl
  | cons a r ih=>simp only [List.map_cons,frzEs,AV.frz,ih]
 simp only [AObj.frz,this]
theorem z4v{l:List Nd}{i:Nat}{id:Int}{s t:List Int}{vh:Value}(k:Nat)(ex:List (Option AObj)):refsO (6+k) (chkO l i id s t vh++ex)=refsO (6+k) ex:=by
 show refsO (6+k) (some _::some _::some _::some (mpI s)::some (mpI t)::some _::ex)=_;have e1:Nat.blt 1 (6+k)=true:=by rw [Nat.blt_eq];omega
 have e2:Nat.blt 2 (6+k)=true:=by rw [Nat.blt_eq];omega
 have e3:Nat.blt 3 (6+k)=true:=by rw [Nat.blt_eq];omega
 have e4:Nat.blt 4 (6+k)=true:=by rw [Nat.blt_eq];omega
 simp only [refsO,z6m,refsBs,refsB,zb2,refsM,List.map,gL,e1,e2,e3,e4]
theorem zy{l:List Nd}{i:Nat}{id:Int}{s t:List Int}{vh:Value}:refsO 6 (chkO l i id s t vh)=true:=by
 have:=z4v (l:=l) (i:=i) (id:=id) (s:=s) (t:=t) (vh:=vh) 0 [];rw [List.append_nil]at this;exact this
theorem zlg{l:List Nd}{i q:Nat}(h:q<i):(wL l i).getD q 0=wN l (nd l q):=by simp [wL,h]
theorem zk1(l:List Nd)(i:Nat)(id:Int)(s t:List Int)(vh:Value)(a:Int)(h1:1≤a)(h2:a≤i)(hi:i≤1000000)(hw:0<wN l (ln l a)):ACall Tryz.prog 122 [.ptr 0 0,vI .i64 a] (chkO l i id s t vh) (fun r o=>r=vI .i64 (wN l (ln l a))∧o=chkO l i id s t vh):=by
 refine yN Tryz.func122 fun C hC hCl hDs hGk=>?_;have e1:IntKind.i64.wrap (a-1)=a-1:=z6 (by omega) (by omega);have hg:(wL l i).getD (a-1).toNat 0=wN l (ln l a):=by
  exact zlg (by omega)
 refine yV Tryz.func122 rfl ?_ zu ⟨fun _ _ _ _ _=>.dead,.of ?_,fun _ _ _ _ _=>.dead,trivial⟩ ?_
 ·simp only [e1,List.length_map,z9e];exact⟨by omega,⟨by omega,by omega⟩,trivial⟩
 ·show vB (decide ((wL l i).getD (IntKind.i64.wrap (a-1)).toNat 0>0))=_;rw [e1,hg,decide_eq_true hw]
 refine yL Tryz.func122 rfl trivial (.of ?_) (oAl rfl) ⟨rfl,rfl⟩ (hro:=zy) (o2:=chkO l i id s t vh);show vI .i64 ((wL l i).getD (IntKind.i64.wrap (a-1)).toNat 0)=_;rw [e1,hg]
@[reducible] def zNd:AObj:=.cells 49 [.d (dSL []),.d (eI 0),.d (.v (.slice none 0 0)),.d (.v (.slice none 0 0)),.d (dSL [])]
theorem zlo(l:List Nd)(i:Nat)(id:Int)(s t:List Int)(vh:Value)(x:Nd)(hS:SortAt l x)(hl:l.length≤1000000):ACall Tryz.prog 121 [.ptr 0 0,.d (eNd x)] (chkO l i id s t vh) (fun r o=>r=vI .i64 (wdN l x)∧o=chkO l i id s t vh):=by
 refine yN Tryz.func121 fun C hC hCl hDs hGk=>?_;have hb:=hS.lo;have hb2:=hS.hi;have e1:IntKind.i64.wrap (x.s-1)=x.s-1:=z6 (by omega) (by omega);have hpl:C.π.length=6:=by rw [hCl,hC];rfl
 refine z4l 11 1 [(10,some (5,.ptr 7 0))] (fun L=>chkO l i id s t vh++[some (bNd x),some (sel 10 L zNd HD)]) _ (objsF:=chkO l i id s t vh++[some (bNd x),some zNd])
  tabOk Tryz.func121 rfl rfl trivial (by kernel_rfl) (by kernel_rfl) ?_ ?_ ?_ rfl (fun L=>yq rfl (by simp [andP,e1]<;>omega) rfl) ?_ ?_
 ·rfl
 ·intro L hL;simp only [z7v (hL 10 (by decide))]
 ·intro j L hb;simp only [actB,List.any_cons,List.any_nil,Bool.or_false]at hb;have n1:=Nat.ne_of_beq_eq_false hb;simp only [z2y (fun e=>n1 e.symm)]
 ·refine List.forall_mem_cons.2 ⟨⟨_,rfl,rfl,?_⟩,fun x h=>by cases h⟩;refine z86 (p:=7) tabOk rfl rfl rfl rfl rfl rfl (by omega) ?_ ?_
  ·intro L h;show some (some (sel 10 L _ _))=_;rw [zaq h]
  ·intro L;simp only [z5v];rfl
 refine yV Tryz.func121 rfl trivial zu ⟨fun _ _ _ _ _=>.dead,.of ?_,fun _ _ _ _ _=>.dead,trivial⟩ ?_
 ·show vB ((⟨(l.getD (IntKind.i64.wrap (x.s-1)).toNat default).op.toArray⟩:ByteArray).toList==(⟨kSort.toArray⟩:ByteArray).toList)=_;rw [e1,strB,decide_eq_true hS.op]
 refine yL Tryz.func121 rfl ?_ (.of ?_) (oAl rfl) ⟨rfl,rfl⟩ (hro:=zy) (o2:=chkO l i id s t vh)
 ·simp only [e1,List.length_map];exact⟨⟨by decide,Int.ofNat_lt.2 hS.n⟩,trivial⟩
 ·simp only [e1];rfl
end Go.Proofs.YtbodbhpdelgpnaaGreatDoor
namespace Ab
open Go
variable [Draws]
section
variable {P:Program}[Globals P]{T:Tab}{n:Nat}{env:Env}{objs:List (Option AObj)}{ops:Array Oper}{K:Env→Prop}{X:Nat→Prop}
theorem ds_ok{o:Oper}{r:List Oper}{a:AV}{e:Env}(hT:TabOk P T)(hfree:z4x o r (o.looksAt ops)=true)(halone:z2t o r=true)(hw:wantE ops (restr env (o.looksAt ops)) o=.yes)
  (hp:pstep T o (restr env (o.looksAt ops)) objs=.ok a) (hput:putE n o.dst a env=some e) (h:DSat P n X objs ops K r e):DSat P n X objs ops K (o::r) env:=by
 refine ds_op hfree halone hput hw (fun π w tmps hm he=>?_) h;have hdo:=z47 (ds:=[]) hT hm he o;rw [hp]at hdo;obtain⟨v,d1,d2⟩:=hdo;exact⟨v,w,d2 w (.refl w),.refl w,d1⟩
theorem zjq{o:Oper}{r:List Oper}{a:AV}{e:Env}{c:Prop}(hT:TabOk P T)(hfree:z4x o r (o.looksAt ops)=true)(halone:z2t o r=true)(hw:wantE ops (restr env (o.looksAt ops)) o=.yes)
  (hp:pstep T o (restr env (o.looksAt ops)) objs=.iff c a) (hc:c) (hput:putE n o.dst a env=some e) (h:DSat P n X objs ops K r e):DSat P n X objs ops K (o::r) env:=by
 refine ds_op hfree halone hput hw (fun π w tmps hm he=>?_) h;have hdo:=z47 (ds:=[]) hT hm he o;rw [hp]at hdo;obtain⟨v,d1,d2⟩:=hdo hc;exact⟨v,w,d2 w (.refl w),.refl w,d1⟩
theorem z5j{o:Oper}{r:List Oper}{e:Env}{t kt et:TypeId}{mo ko:Operand}{ok:Bool}{rm rk re:TRow}{j:Nat}{es:List (Value×AV)}{key:Value}{a:Option AV}(hT:TabOk P T)(hfree:z4x o r (o.looksAt ops)=true)(halone:z2t o r=true)(hw:wantE ops (restr env (o.looksAt ops)) o=.yes)
  (hop:o.op=.lookup t mo ko ok) (hm:opnd (restr env (o.looksAt ops)) mo=some (.mp j)) (hk:opnd (restr env (o.looksAt ops)) ko=some (.d (.v key))) (h1:tlook T t=some rm) (h2:rm.kd=.map kt et) (h3:tlook T kt=some rk) (h4:tlook T et=some re)
  (hobj:nth objs j=some (some (.map es))) (hkey:keyB rk.kd key=true) (hks:keysB rk.kd es=true) (hf:MFind key es a) (hput:putE n o.dst (lookA (zeroD re) ok a) env=some e) (h:DSat P n X objs ops K r e):DSat P n X objs ops K (o::r) env:=by
 refine ds_op hfree halone hput hw (fun π w tmps m he=>?_) h;obtain⟨v,e1,e2⟩:=zg8 hT m h1 h2 h3 h4 hobj hkey hks hf (zh (ds:=[]) he hm) ok;refine⟨v,w,?_,.refl w,e2⟩;unfold execOp;simp only [hop];rw [z5z (P:=P) he hk];simp only [Sem.run_bind,e1,Result.andThen_ok,Sem.run_pure]
end
end Ab
namespace Go.Proofs.YtbodbhpdelgpnaaGreatDoor
open Go Ab
def hadI(l:List Nd)(op:List UInt8)(n:Nat):List Int:=((List.range n).filter fun j:Nat=>decide ((nd l j).op=op)).map fun j:Nat=>(nd l j).a.getD 0 0
theorem z8p(l:List Nd)(op:List UInt8)(n:Nat):hadI l op (n+1)=hadI l op n++(if(nd l n).op=op then [(nd l n).a.getD 0 0]else []):=by
 unfold hadI;rw [List.range_succ,List.filter_append,List.map_append];congr 1;by_cases h:(nd l n).op=op
 ·rw [if_pos h,List.filter_cons_of_pos (p:=fun j:Nat=>decide ((nd l j).op=op)) (a:=n) (l:=[]) (decide_eq_true h)];rfl
 ·rw [if_neg h,List.filter_cons_of_neg (p:=fun j:Nat=>decide ((nd l j).op=op)) (a:=n) (l:=[]) (by show ¬decide ((nd l n).op=op)=true;rw [decide_eq_false h];exact Bool.false_ne_true)];rfl
theorem zel{l:List Nd}{op:List UInt8}{n:Nat}{a:Int}:a∈hadI l op n↔hadP l n op a:=by
 unfold hadI hadP;simp only [List.mem_map,List.mem_filter,List.mem_range,decide_eq_true_eq];exact⟨fun⟨j,⟨h1,h2⟩,h3⟩=>⟨j,h1,h2,h3⟩,fun⟨j,h1,h2,h3⟩=>⟨j,⟨h1,h2⟩,h3⟩⟩
theorem zht{a b:Int}(h:a≠b):Value.int .i64 a≠Value.int .i64 b:=fun e=>h (by cases e;rfl)
theorem zi1{k:Int}:∀{s:List Int},k∉s→MFind (.int .i64 k) (s.map fun a=>(Value.int .i64 a,vB true)) none
 | [],_=>.nil
 | a::r,h=>.miss (zht fun e=>h (e▸List.mem_cons_self ..)) (zi1 fun hm=>h (List.mem_cons_of_mem _ hm))
theorem zjj{k:Int}:∀{s:List Int},k∈s→MFind (.int .i64 k) (s.map fun a=>(Value.int .i64 a,vB true)) (some (vB true))
 | [],h=>by cases h
 | a::r,h=>by
  by_cases e:a=k
  ·subst e;exact .hit
  ·refine .miss (zht e) (zjj ?_);rcases List.mem_cons.1 h with h|h
   ·exact absurd h.symm e
   ·exact h
theorem zhi{k:Int}:∀{s:List Int},k∉s→MPut (.int .i64 k) (vB true) (s.map fun a=>(Value.int .i64 a,vB true)) ((s++[k]).map fun a=>(Value.int .i64 a,vB true))
 | [],_=>.nil
 | a::r,h=>.miss (zht fun e=>h (e▸List.mem_cons_self ..)) (zhi fun hm=>h (List.mem_cons_of_mem _ hm))
theorem z7h:∀s:List Int,keysB (.int .i64) (s.map fun a=>(Value.int .i64 a,vB true))=true
 | []=>rfl
 | a::r=>by simp only [List.map_cons,keysB,keyB,beq_self_eq_true];exact z7h r
theorem zac{ws:List Int}{w:Int}(h:∀a∈ws,a=w):anyNe ws w=false:=by
 unfold anyNe;rw [List.any_eq_false];intro a ha;simp [h a ha]
theorem zjf{op:List UInt8}(h:op=kInit):MFind (.string ⟨op.toArray⟩) (([(kInit,AV.mp 3),(kNext,AV.mp 4)]:List (List UInt8×AV)).map fun p=>(strK p.1,p.2)) (some (.mp 3)):=by
 subst h;exact .hit
theorem zje{op:List UInt8}(h:op=kNext):MFind (.string ⟨op.toArray⟩) (([(kInit,AV.mp 3),(kNext,AV.mp 4)]:List (List UInt8×AV)).map fun p=>(strK p.1,p.2)) (some (.mp 4)):=by
 subst h;exact .miss (ze2 (by decide)) .hit
theorem znb(l:List Nd)(hm:MdB l)(hl:l.length≤1000000)(i:Nat)(hi:i<l.length)(hn:∀j,j<l.length→NodeOk (nd l j) ((j:Int)+1))(ty:TyOk l)(s t:List Int)(vh:Value)(hs:s=hadI l kInit i)(ht:t=hadI l kNext i):
  ACall Tryz.prog 92 [.ptr 0 0,.d (eNd (nd l i))] (chkO l i ((i:Int)+1) s t vh) (fun r o=>r=vI .i64 (wN l (nd l i))∧o=chkO l i ((i:Int)+1) (hadI l kInit (i+1)) (hadI l kNext (i+1)) vh):=by
 refine yN Tryz.func92 fun C hC hCl hDs hGk=>?_;have hni:=hn i hi;have hlk:=ty.ln i hi;obtain⟨x,hx⟩:∃x,nd l i=x:=⟨_,rfl⟩
 rw [hx]at hni hlk ⊢;have hS:=hlk.srt;have hask:=hlk.ask;have hI1:x.op≠kInit→hadI l kInit (i+1)=s:=fun h=>by rw [z8p,hx,if_neg h,List.append_nil,hs]
 have hI2:x.op≠kNext→hadI l kNext (i+1)=t:=fun h=>by rw [z8p,hx,if_neg h,List.append_nil,ht]
 have hxa:x.a.length≤4:=by
  rw [hni.al];exact Nat.le_trans List.count_le_length (z8s _)
 have hdl:∀j,j<x.a.length→1≤x.a.getD j 0∧x.a.getD j 0≤i:=fun j hj=>by
  have:=hni.ab _ (zw 0 hj);omega
 have hvl:∀j,j<x.a.length→isVal (ln l (x.a.getD j 0)).op=true:=fun j hj=>hlk.val _ (zw 0 hj)
 have hbd:∀j,j<x.a.length→1≤awN l x j∧awN l x j≤128:=fun j hj=>by
  have hd:=hdl j hj;have hk:=hn (x.a.getD j 0-1).toNat (by omega);have hS2:=zdu hk (ty.ln _ (by omega)) (hvl j hj);refine wd_bd (i:=i) (fun q hq=>hn q (by omega)) hS2 ?_;have h1:=z6t (hvl j hj) hk.known;have h3:(ln l (x.a.getD j 0)).s<(((x.a.getD j 0-1).toNat:Nat):Int)+1:=(hk.s1 h1).2;omega
 have hnb:∀j,j<x.n.length→0≤x.n.getD j 0∧x.n.getD j 0≤128:=fun j hj=>by
  have:=hni.nb _ (zw 0 hj);omega
 have hid:∃id:Int,(i:Int)+1=id:=⟨_,rfl⟩
 obtain⟨id,hid⟩:=hid;rw [hid]at hC ⊢;apply letK (p:=ASat Tryz.prog 92 Tryz.f92.ntmps C _ [(0,.ptr 0 0),(3,.ptr 6 0),(5,.ptr 7 0),(6,.d (.v (.slice none 0 0))),(20,.d (eIs x.a)),(21,vI .i64 (x.a.length:Int)),(22,vI .i64 (0:Nat))] (chkO l i id s t vh++[some (bNd x),some (cI (wOf l x))]) (fun r o=>r=vI .i64 (wN l x)∧o=chkO l i id (hadI l kInit (i+1)) (hadI l kNext (i+1)) vh))
 ·intro key;refine yB Tryz.func92 rfl trivial (fun h=>?_) (fun h=>?_)
  ·have h:decide (x.s>0)=true:=h;rw [decide_eq_true_eq]at h;refine yW [0,1,2,3,4,5] Tryz.func92 rfl trivial (zlo l i id s t vh x (hS h) hl) ⟨⟨_,rfl,.refl _⟩,⟨_,rfl,.refl _⟩,⟨_,rfl,.refl _⟩,⟨_,rfl,.of (z3w _ _).symm⟩,⟨_,rfl,.of (z3w _ _).symm⟩,⟨_,rfl,.refl _⟩,trivial⟩ (.refl _) ?_ (hro:=zy);refine yS Tryz.func92 rfl trivial ?_;refine yE key ⟨erl rfl,erl rfl,erl rfl,erl rfl,erl rfl,⟨_,rfl,.of (by rw [List.length_map])⟩,erl rfl,trivial⟩ ⟨.refl _,.refl _,.refl _,.of (z3w _ _),.of (z3w _ _),.refl _,.refl _,.of ?_,trivial⟩ (hro:=(z4v 2 _).trans rfl);rw [wOf,if_pos h];rfl
  ·have h:decide (x.s>0)=false:=h;rw [decide_eq_false_iff_not]at h;refine yS Tryz.func92 rfl trivial ?_;refine yE key ⟨erl rfl,erl rfl,erl rfl,erl rfl,erl rfl,⟨_,rfl,.of (by rw [List.length_map])⟩,erl rfl,trivial⟩ ⟨.refl _,.refl _,.refl _,.refl _,.refl _,.refl _,.refl _,.of ?_,trivial⟩ (hro:=(z4v 2 _).trans rfl);rw [wOf,if_neg h];rfl
 refine z1j (s:=1) (e:=3) (t:=6) (.inl rfl) (fun i=>eI (([]:List Int).getD i 0)) ?_;refine z8 (α:=Nat) (fun j=>[(0,.ptr 0 0),(3,.ptr 6 0),(5,.ptr 7 0),(6,.gs 8),(20,.d (eIs x.a)),(21,vI .i64 (x.a.length:Int)),(22,vI .i64 (j:Int))]) (fun j=>chkO l i id s t vh++[some (bNd x),some (cI (wOf l x)),some (gIs (aws l x j))]) (fun j=>j≤x.a.length) (fun j=>x.a.length-j) 0 (Nat.zero_le _) ?_ ?_
 ·exact fun h=>yE h (eAl rfl) (oAl rfl) (hro:=(z4v 3 _).trans rfl)
 rintro j hj ih;refine yB Tryz.func92 rfl trivial (fun hb=>?_) (fun hb=>?_)<;>simp only [decide_eq_true_eq,decide_eq_false_iff_not]at hb
 ·have hlt:j<x.a.length:=by omega
  have hd:=hdl j hlt;have hb1:=hbd j hlt;have hv:=hvl j hlt;have hwn:wN l (ln l (x.a.getD j 0))=awN l x j:=by rw [wN,if_pos hv];rfl
  refine yW [0,1,2,3,4,5] Tryz.func92 rfl (by simp [andP]<;>omega) (zk1 l i id s t vh (x.a.getD j 0) hd.1 hd.2 (by omega) (by rw [hwn];omega)) ⟨⟨_,rfl,.refl _⟩,⟨_,rfl,.refl _⟩,⟨_,rfl,.refl _⟩,⟨_,rfl,.of (z3w _ _).symm⟩,⟨_,rfl,.of (z3w _ _).symm⟩,⟨_,rfl,.refl _⟩,trivial⟩ (.refl _) ?_ (hro:=zy);rw [hwn];have hmap:(aws l x j).map eI++[eI (awN l x j)]=(aws l x (j+1)).map eI:=by
   simp [aws,List.range_succ]
  refine yS Tryz.func92 rfl ?_ ?_
  ·show((List.map eI (aws l x j)).length+1)*8≤140737488355328∧True;rw [List.length_map,z1i];exact⟨by omega,trivial⟩
  exact yE (ih (j+1) (by omega) (by omega)) ⟨erl rfl,erl rfl,erl rfl,erl rfl,erl rfl,erl rfl,erw rfl,trivial⟩ ⟨.refl _,.refl _,.refl _,.of ((congrArg (AObj.drop 8) (z3w _ _)).trans (za8 8 _)),.of ((congrArg (AObj.drop 8) (z3w _ _)).trans (za8 8 _)),.refl _,.refl _,.refl _,.gL hmap,trivial⟩ (hro:=(z4v 3 _).trans rfl)
 obtain rfl:j=x.a.length:=by omega
 clear ih;refine za 8 rfl ?_;obtain⟨aw,haw⟩:∃aw,aws l x x.a.length=aw:=⟨_,rfl⟩
 have awl:aw.length=x.a.length:=by rw [←haw,z1i]
 have awg:∀q,q<x.a.length→aw.getD q 0=awN l x q:=fun q hq=>by rw [←haw,z14 hq]
 have awm:∀a∈aw,∃q,q<x.a.length∧a=awN l x q:=fun a ha=>by
  obtain⟨q,hq,rfl⟩:=List.getElem_of_mem ha;refine⟨q,by omega,?_⟩;rw [←awg q (by omega),List.getD_eq_getElem?_getD,List.getElem?_eq_getElem hq];rfl
 have awd:∀a∈aw.drop 1,∃q,1≤q∧q<x.a.length∧a=awN l x q:=fun a ha=>by
  obtain⟨q,hq,rfl⟩:=List.getElem_of_mem ha;rw [List.length_drop]at hq;refine⟨1+q,by omega,by omega,?_⟩;rw [←awg (1+q) (by omega),List.getElem_drop,List.getD_eq_getElem?_getD,List.getElem?_eq_getElem (by omega)];rfl
 rw [haw];refine zv (env':=[(0,.ptr 0 0),(3,.ptr 6 0),(5,.ptr 7 0),(6,.d (eIs aw)),(23,.lit false)]) (objs':=chkO l i id s t vh++[some (bNd x),some (cI (wOf l x))]) ?_ hC hCl ⟨⟨_,rfl,.refl _⟩,⟨_,rfl,.refl _⟩,⟨_,rfl,.refl _⟩,⟨_,rfl,.refl _⟩,⟨_,rfl,.refl _⟩,trivial⟩ ⟨.refl _,.refl _,.refl _,.of (znt _ _ _),.of (znt _ _ _),.refl _,.refl _,.refl _,trivial⟩ rfl ((z4v 2 _).trans rfl) (Nat.le_of_ble_eq_true rfl);refine yB Tryz.func92 rfl trivial (fun qSort=>?_) (fun qSort=>?_)<;>rw [show((⟨#[115,111,114,116]⟩:ByteArray))=⟨kSort.toArray⟩from rfl,strB]at qSort<;>simp only [decide_eq_true_eq,decide_eq_false_iff_not]at qSort
 ·refine yL Tryz.func92 rfl trivial (.of ?_) (oAl rfl) ⟨rfl,?_⟩ (hro:=zy) (o2:=chkO l i id s t vh)
  ·rw [wN,if_neg (by rw [qSort];decide)];rfl
  ·rw [hI1 (by rw [qSort];decide),hI2 (by rw [qSort];decide)]
 refine yB Tryz.func92 rfl trivial (fun qConst=>?_) (fun qConst=>?_)<;>rw [show((⟨#[99,111,110,115,116]⟩:ByteArray))=⟨z11.toArray⟩from rfl,strB]at qConst<;>simp only [decide_eq_true_eq,decide_eq_false_iff_not]at qConst
 ·have hv:isVal x.op=true:=by rw [qConst];decide
  have hs0:0<x.s:=by
   have:=hni.s1 (by rw [qConst];decide);omega
  refine yV Tryz.func92 rfl trivial zu ⟨fun _ _ _ _ _=>.dead,.of ?_,fun _ _ _ _ _=>.dead,trivial⟩ ?_
  ·show vB (((⟨x.t.toArray⟩:ByteArray).size:Int)==wOf l x)=vB true;rw [zj,hask.const qConst,beq_self_eq_true]
  refine yL Tryz.func92 rfl trivial (.of ?_) (oAl rfl) ⟨rfl,?_⟩ (hro:=zy) (o2:=chkO l i id s t vh)
  ·show vI .i64 (wOf l x)=_;rw [wOf,if_pos hs0,wN,if_pos hv]
  ·rw [hI1 (by rw [qConst];decide),hI2 (by rw [qConst];decide)]
 refine yB Tryz.func92 rfl trivial (fun qInput=>?_) (fun qInput=>?_)<;>rw [show((⟨#[105,110,112,117,116]⟩:ByteArray))=⟨zq.toArray⟩from rfl,strB]at qInput<;>simp only [decide_eq_true_eq,decide_eq_false_iff_not]at qInput
 ·have hv:isVal x.op=true:=by rw [qInput];decide
  have hs0:0<x.s:=by
   have:=hni.s1 (by rw [qInput];decide);omega
  refine yV Tryz.func92 rfl trivial zu ⟨fun _ _ _ _ _=>.dead,.of ?_,fun _ _ _ _ _=>.dead,trivial⟩ ?_
  ·rfl
  refine yL Tryz.func92 rfl trivial (.of ?_) (oAl rfl) ⟨rfl,?_⟩ (hro:=zy) (o2:=chkO l i id s t vh)
  ·show vI .i64 (wOf l x)=_;rw [wOf,if_pos hs0,wN,if_pos hv]
  ·rw [hI1 (by rw [qInput];decide),hI2 (by rw [qInput];decide)]
 refine yB Tryz.func92 rfl trivial (fun qState=>?_) (fun qState=>?_)<;>rw [show((⟨#[115,116,97,116,101]⟩:ByteArray))=⟨ze.toArray⟩from rfl,strB]at qState<;>simp only [decide_eq_true_eq,decide_eq_false_iff_not]at qState
 ·have hv:isVal x.op=true:=by rw [qState];decide
  have hs0:0<x.s:=by
   have:=hni.s1 (by rw [qState];decide);omega
  refine yV Tryz.func92 rfl trivial zu ⟨fun _ _ _ _ _=>.dead,.of ?_,fun _ _ _ _ _=>.dead,trivial⟩ ?_
  ·rfl
  refine yL Tryz.func92 rfl trivial (.of ?_) (oAl rfl) ⟨rfl,?_⟩ (hro:=zy) (o2:=chkO l i id s t vh)
  ·show vI .i64 (wOf l x)=_;rw [wOf,if_pos hs0,wN,if_pos hv]
  ·rw [hI1 (by rw [qState];decide),hI2 (by rw [qState];decide)]
 refine yB Tryz.func92 rfl trivial (fun qBad=>?_) (fun qBad=>?_)<;>rw [show((⟨#[98,97,100]⟩:ByteArray))=⟨kBad.toArray⟩from rfl,strB]at qBad<;>simp only [decide_eq_true_eq,decide_eq_false_iff_not]at qBad
 ·have hx1:x.a.length=1:=by rw [hni.al,qBad];decide
  refine yV Tryz.func92 rfl (by simp only [List.length_map,awl,hx1];decide) zu ⟨fun _ _ _ _ _=>.dead,.of ?_,fun _ _ _ _ _=>.dead,trivial⟩ ?_
  ·show vB (aw.getD 0 0==1)=vB true;rw [awg 0 (by omega),hask.bad (.inl qBad)];rfl
  refine yL Tryz.func92 rfl trivial (.of ?_) (oAl rfl) ⟨rfl,?_⟩ (hro:=zy) (o2:=chkO l i id s t vh)
  ·rw [wN,if_neg (by rw [qBad];decide)];rfl
  ·rw [hI1 (by rw [qBad];decide),hI2 (by rw [qBad];decide)]
 refine yB Tryz.func92 rfl trivial (fun qConstraint=>?_) (fun qConstraint=>?_)<;>rw [show((⟨#[99,111,110,115,116,114,97,105,110,116]⟩:ByteArray))=⟨zg.toArray⟩from rfl,strB]at qConstraint<;>simp only [decide_eq_true_eq,decide_eq_false_iff_not]at qConstraint
 ·have hx1:x.a.length=1:=by rw [hni.al,qConstraint];decide
  refine yV Tryz.func92 rfl (by simp only [List.length_map,awl,hx1];decide) zu ⟨fun _ _ _ _ _=>.dead,.of ?_,fun _ _ _ _ _=>.dead,trivial⟩ ?_
  ·show vB (aw.getD 0 0==1)=vB true;rw [awg 0 (by omega),hask.bad (.inr qConstraint)];rfl
  refine yL Tryz.func92 rfl trivial (.of ?_) (oAl rfl) ⟨rfl,?_⟩ (hro:=zy) (o2:=chkO l i id s t vh)
  ·rw [wN,if_neg (by rw [qConstraint];decide)];rfl
  ·rw [hI1 (by rw [qConstraint];decide),hI2 (by rw [qConstraint];decide)]
 refine yB Tryz.func92 rfl trivial (fun qInit=>?_) (fun qInit=>?_)<;>rw [show((⟨#[105,110,105,116]⟩:ByteArray))=⟨kInit.toArray⟩from rfl,strB]at qInit<;>simp only [decide_eq_true_eq,decide_eq_false_iff_not]at qInit
 ·have hx2:x.a.length=2:=by rw [hni.al,qInit];decide
  obtain⟨hsame,hnot⟩:=hask.inx (.inl qInit);have hst:=hlk.st (.inl qInit);have d0:=hdl 0 (by omega);have d1:=hdl 1 (by omega);have e0:IntKind.i64.wrap (x.a.getD 0 0-1)=x.a.getD 0 0-1:=z6 (by omega) (by omega);have e1:IntKind.i64.wrap (x.a.getD 1 0-1)=x.a.getD 1 0-1:=z6 (by omega) (by omega);have hnk:x.a.getD 0 0∉s:=by
   rw [hs,zel];rw [qInit]at hnot;exact hnot
  refine yO 15 Tryz.func92 rfl trivial ?_;refine yq rfl ?_ ?_
  ·show(0≤IntKind.i64.wrap (x.a.getD 0 0-1)∧IntKind.i64.wrap (x.a.getD 0 0-1)<((l.map eNd).length:Int))∧((0:Int)≤0∧(0:Int)<((x.a.map eI).length:Int))∧True;rw [e0,List.length_map,List.length_map,hx2];exact⟨⟨by omega,by omega⟩,by decide,trivial⟩
  refine yV Tryz.func92 rfl trivial zu ⟨fun _ _ _ _ _=>.dead,.of ?_,fun _ _ _ _ _=>.dead,trivial⟩ ?_
  ·show vB ((⟨(l.getD (IntKind.i64.wrap (x.a.getD 0 0-1)).toNat default).op.toArray⟩:ByteArray).toList==(⟨ze.toArray⟩:ByteArray).toList)=vB true;rw [e0,strB,decide_eq_true hst]
  refine yO 20 Tryz.func92 rfl trivial ?_;refine yb rfl trivial (fun g=>?_) (fun g=>?_)<;>rw [show((⟨#[110,101,120,116]⟩:ByteArray))=⟨kNext.toArray⟩from rfl,strB,qInit]at g
  ·exact absurd g (by decide)
  refine yq rfl ?_ ?_
  ·show(0≤IntKind.i64.wrap (x.a.getD 1 0-1)∧IntKind.i64.wrap (x.a.getD 1 0-1)<((l.map eNd).length:Int))∧((0:Int)≤1∧(1:Int)<((x.a.map eI).length:Int))∧True;rw [e1,List.length_map,List.length_map,hx2];exact⟨⟨by omega,by omega⟩,by decide,trivial⟩
  refine yV Tryz.func92 rfl trivial zu ⟨fun _ _ _ _ _=>.dead,.of ?_,fun _ _ _ _ _=>.dead,trivial⟩ ?_
  ·show vB ((⟨(l.getD (IntKind.i64.wrap (x.a.getD 1 0-1)).toNat default).op.toArray⟩:ByteArray).toList==(⟨z11.toArray⟩:ByteArray).toList)=vB true;rw [e1,strB,decide_eq_true (hask.ini qInit)]
  refine yW [7] Tryz.func92 rfl trivial (zad aw (wOf l x) (by omega)) ⟨⟨_,rfl,.refl _⟩,trivial⟩ (.refl _) ?_;refine yV Tryz.func92 rfl trivial zu ⟨fun _ _ _ _ _=>.dead,.of ?_,fun _ _ _ _ _=>.dead,trivial⟩ ?_
  ·show vB (!anyNe aw (wOf l x))=vB true;rw [zac]
   ·rfl
   intro a ha;obtain⟨q,h2,rfl⟩:=awm a ha;exact hsame q h2
  refine zv (env':=[(0,.ptr 0 0),(3,.ptr 6 0),(5,.ptr 7 0),(6,.d (eIs aw))]) (objs':=chkO l i id s t vh++[some (bNd x),some (cI (wOf l x))]) ?_ hC hCl ⟨⟨_,rfl,.refl _⟩,⟨_,rfl,.refl _⟩,⟨_,rfl,.refl _⟩,⟨_,rfl,.refl _⟩,trivial⟩ ⟨.refl _,.refl _,.refl _,.of (z3t _ _),.of (z3t _ _),.refl _,.refl _,.refl _,trivial⟩ rfl ((z4v 2 _).trans rfl) (Nat.le_of_ble_eq_true rfl);refine yO 14 Tryz.func92 rfl trivial ?_
  iterate 7 refine ds_ok tabOk rfl rfl rfl rfl rfl ?_
  refine z5j tabOk rfl rfl rfl rfl rfl rfl rfl rfl rfl rfl rfl rfl rfl (zjf qInit) rfl ?_
  iterate 2 refine ds_ok tabOk rfl rfl rfl rfl rfl ?_
  refine zjq tabOk rfl rfl rfl rfl ⟨Int.le_refl _,by rw [List.length_map,hx2];decide⟩ rfl ?_;refine ds_ok tabOk rfl rfl rfl rfl rfl ?_;refine z5j tabOk rfl rfl rfl rfl rfl rfl rfl rfl rfl rfl rfl rfl (z7h _) (zi1 hnk) rfl ?_;refine yq rfl trivial ?_;refine yV Tryz.func92 rfl trivial zu ⟨fun _ _ _ _ _=>.dead,.of ?_,fun _ _ _ _ _=>.dead,trivial⟩ ?_
  ·rfl
  refine yO 11 Tryz.func92 rfl trivial ?_
  iterate 6 refine ds_ok tabOk rfl rfl rfl rfl rfl ?_
  refine z5j tabOk rfl rfl rfl rfl rfl rfl rfl rfl rfl rfl rfl rfl rfl (zjf qInit) rfl ?_
  iterate 2 refine ds_ok tabOk rfl rfl rfl rfl rfl ?_
  refine zjq tabOk rfl rfl rfl rfl ⟨Int.le_refl _,by rw [List.length_map,hx2];decide⟩ rfl ?_;refine ds_ok tabOk rfl rfl rfl rfl rfl ?_;refine yq rfl trivial ?_;refine zcu tabOk rfl rfl rfl rfl rfl rfl rfl rfl rfl rfl rfl rfl (z7h _) (zhi hnk) ?_;refine yL Tryz.func92 rfl trivial (.of ?_) (oAl rfl) ⟨rfl,?_⟩ (hro:=zy) (o2:=chkO l i id (s++[x.a.getD 0 0]) t vh)
  ·rw [wN,if_neg (by rw [qInit];decide)];rfl
  ·rw [z8p,hx,if_pos qInit,←hs,hI2 (by rw [qInit];decide)]
 refine yB Tryz.func92 rfl trivial (fun qNext=>?_) (fun qNext=>?_)<;>rw [show((⟨#[110,101,120,116]⟩:ByteArray))=⟨kNext.toArray⟩from rfl,strB]at qNext<;>simp only [decide_eq_true_eq,decide_eq_false_iff_not]at qNext
 ·have hx2:x.a.length=2:=by rw [hni.al,qNext];decide
  obtain⟨hsame,hnot⟩:=hask.inx (.inr qNext);have hst:=hlk.st (.inr qNext);have d0:=hdl 0 (by omega);have d1:=hdl 1 (by omega);have e0:IntKind.i64.wrap (x.a.getD 0 0-1)=x.a.getD 0 0-1:=z6 (by omega) (by omega);have e1:IntKind.i64.wrap (x.a.getD 1 0-1)=x.a.getD 1 0-1:=z6 (by omega) (by omega);have hnk:x.a.getD 0 0∉t:=by
   rw [ht,zel];rw [qNext]at hnot;exact hnot
  refine yO 15 Tryz.func92 rfl trivial ?_;refine yq rfl ?_ ?_
  ·show(0≤IntKind.i64.wrap (x.a.getD 0 0-1)∧IntKind.i64.wrap (x.a.getD 0 0-1)<((l.map eNd).length:Int))∧((0:Int)≤0∧(0:Int)<((x.a.map eI).length:Int))∧True;rw [e0,List.length_map,List.length_map,hx2];exact⟨⟨by omega,by omega⟩,by decide,trivial⟩
  refine yV Tryz.func92 rfl trivial zu ⟨fun _ _ _ _ _=>.dead,.of ?_,fun _ _ _ _ _=>.dead,trivial⟩ ?_
  ·show vB ((⟨(l.getD (IntKind.i64.wrap (x.a.getD 0 0-1)).toNat default).op.toArray⟩:ByteArray).toList==(⟨ze.toArray⟩:ByteArray).toList)=vB true;rw [e0,strB,decide_eq_true hst]
  refine yO 20 Tryz.func92 rfl trivial ?_;refine yb rfl trivial (fun g=>?_) (fun g=>?_)<;>rw [show((⟨#[110,101,120,116]⟩:ByteArray))=⟨kNext.toArray⟩from rfl,strB,qNext]at g;rotate_left
  ·exact absurd g (by decide)
  refine yq rfl trivial ?_;refine yV Tryz.func92 rfl trivial zu ⟨fun _ _ _ _ _=>.dead,.of ?_,fun _ _ _ _ _=>.dead,trivial⟩ ?_
  ·rfl
  refine yW [7] Tryz.func92 rfl trivial (zad aw (wOf l x) (by omega)) ⟨⟨_,rfl,.refl _⟩,trivial⟩ (.refl _) ?_;refine yV Tryz.func92 rfl trivial zu ⟨fun _ _ _ _ _=>.dead,.of ?_,fun _ _ _ _ _=>.dead,trivial⟩ ?_
  ·show vB (!anyNe aw (wOf l x))=vB true;rw [zac]
   ·rfl
   intro a ha;obtain⟨q,h2,rfl⟩:=awm a ha;exact hsame q h2
  refine zv (env':=[(0,.ptr 0 0),(3,.ptr 6 0),(5,.ptr 7 0),(6,.d (eIs aw))]) (objs':=chkO l i id s t vh++[some (bNd x),some (cI (wOf l x))]) ?_ hC hCl ⟨⟨_,rfl,.refl _⟩,⟨_,rfl,.refl _⟩,⟨_,rfl,.refl _⟩,⟨_,rfl,.refl _⟩,trivial⟩ ⟨.refl _,.refl _,.refl _,.of (z3t _ _),.of (z3t _ _),.refl _,.refl _,.refl _,trivial⟩ rfl ((z4v 2 _).trans rfl) (Nat.le_of_ble_eq_true rfl);refine yO 14 Tryz.func92 rfl trivial ?_
  iterate 7 refine ds_ok tabOk rfl rfl rfl rfl rfl ?_
  refine z5j tabOk rfl rfl rfl rfl rfl rfl rfl rfl rfl rfl rfl rfl rfl (zje qNext) rfl ?_
  iterate 2 refine ds_ok tabOk rfl rfl rfl rfl rfl ?_
  refine zjq tabOk rfl rfl rfl rfl ⟨Int.le_refl _,by rw [List.length_map,hx2];decide⟩ rfl ?_;refine ds_ok tabOk rfl rfl rfl rfl rfl ?_;refine z5j tabOk rfl rfl rfl rfl rfl rfl rfl rfl rfl rfl rfl rfl (z7h _) (zi1 hnk) rfl ?_;refine yq rfl trivial ?_;refine yV Tryz.func92 rfl trivial zu ⟨fun _ _ _ _ _=>.dead,.of ?_,fun _ _ _ _ _=>.dead,trivial⟩ ?_
  ·rfl
  refine yO 11 Tryz.func92 rfl trivial ?_
  iterate 6 refine ds_ok tabOk rfl rfl rfl rfl rfl ?_
  refine z5j tabOk rfl rfl rfl rfl rfl rfl rfl rfl rfl rfl rfl rfl rfl (zje qNext) rfl ?_
  iterate 2 refine ds_ok tabOk rfl rfl rfl rfl rfl ?_
  refine zjq tabOk rfl rfl rfl rfl ⟨Int.le_refl _,by rw [List.length_map,hx2];decide⟩ rfl ?_;refine ds_ok tabOk rfl rfl rfl rfl rfl ?_;refine yq rfl trivial ?_;refine zcu tabOk rfl rfl rfl rfl rfl rfl rfl rfl rfl rfl rfl rfl (z7h _) (zhi hnk) ?_;refine yL Tryz.func92 rfl trivial (.of ?_) (oAl rfl) ⟨rfl,?_⟩ (hro:=zy) (o2:=chkO l i id s (t++[x.a.getD 0 0]) vh)
  ·rw [wN,if_neg (by rw [qNext];decide)];rfl
  ·rw [hI1 (by rw [qNext];decide),z8p,hx,if_pos qNext,←ht]
 refine yB Tryz.func92 rfl trivial (fun qRedand=>?_) (fun qRedand=>?_)<;>rw [show((⟨#[114,101,100,97,110,100]⟩:ByteArray))=⟨z22.toArray⟩from rfl,strB]at qRedand<;>simp only [decide_eq_true_eq,decide_eq_false_iff_not]at qRedand
 ·have hv:isVal x.op=true:=by rw [qRedand];decide
  have hs0:0<x.s:=by
   have:=hni.s1 (by rw [qRedand];decide);omega
  refine yV Tryz.func92 rfl trivial zu ⟨fun _ _ _ _ _=>.dead,.of ?_,fun _ _ _ _ _=>.dead,trivial⟩ ?_
  ·show vB (wOf l x==1)=vB true;rw [hask.red (.inl qRedand)];rfl
  refine yL Tryz.func92 rfl trivial (.of ?_) (oAl rfl) ⟨rfl,?_⟩ (hro:=zy) (o2:=chkO l i id s t vh)
  ·show vI .i64 (wOf l x)=_;rw [wOf,if_pos hs0,wN,if_pos hv]
  ·rw [hI1 (by rw [qRedand];decide),hI2 (by rw [qRedand];decide)]
 refine yB Tryz.func92 rfl trivial (fun qRedor=>?_) (fun qRedor=>?_)<;>rw [show((⟨#[114,101,100,111,114]⟩:ByteArray))=⟨z2n.toArray⟩from rfl,strB]at qRedor<;>simp only [decide_eq_true_eq,decide_eq_false_iff_not]at qRedor
 ·have hv:isVal x.op=true:=by rw [qRedor];decide
  have hs0:0<x.s:=by
   have:=hni.s1 (by rw [qRedor];decide);omega
  refine yV Tryz.func92 rfl trivial zu ⟨fun _ _ _ _ _=>.dead,.of ?_,fun _ _ _ _ _=>.dead,trivial⟩ ?_
  ·show vB (wOf l x==1)=vB true;rw [hask.red (.inr (.inl qRedor))];rfl
  refine yL Tryz.func92 rfl trivial (.of ?_) (oAl rfl) ⟨rfl,?_⟩ (hro:=zy) (o2:=chkO l i id s t vh)
  ·show vI .i64 (wOf l x)=_;rw [wOf,if_pos hs0,wN,if_pos hv]
  ·rw [hI1 (by rw [qRedor];decide),hI2 (by rw [qRedor];decide)]
 refine yB Tryz.func92 rfl trivial (fun qRedxor=>?_) (fun qRedxor=>?_)<;>rw [show((⟨#[114,101,100,120,111,114]⟩:ByteArray))=⟨z1z.toArray⟩from rfl,strB]at qRedxor<;>simp only [decide_eq_true_eq,decide_eq_false_iff_not]at qRedxor
 ·have hv:isVal x.op=true:=by rw [qRedxor];decide
  have hs0:0<x.s:=by
   have:=hni.s1 (by rw [qRedxor];decide);omega
  refine yV Tryz.func92 rfl trivial zu ⟨fun _ _ _ _ _=>.dead,.of ?_,fun _ _ _ _ _=>.dead,trivial⟩ ?_
  ·show vB (wOf l x==1)=vB true;rw [hask.red (.inr (.inr qRedxor))];rfl
  refine yL Tryz.func92 rfl trivial (.of ?_) (oAl rfl) ⟨rfl,?_⟩ (hro:=zy) (o2:=chkO l i id s t vh)
  ·show vI .i64 (wOf l x)=_;rw [wOf,if_pos hs0,wN,if_pos hv]
  ·rw [hI1 (by rw [qRedxor];decide),hI2 (by rw [qRedxor];decide)]
 refine yB Tryz.func92 rfl trivial (fun qEq=>?_) (fun qEq=>?_)<;>rw [show((⟨#[101,113]⟩:ByteArray))=⟨kEq.toArray⟩from rfl,strB]at qEq<;>simp only [decide_eq_true_eq,decide_eq_false_iff_not]at qEq
 ·have hv:isVal x.op=true:=by rw [qEq];decide
  have hs0:0<x.s:=by
   have:=hni.s1 (by rw [qEq];decide);omega
  have hx2:x.a.length=2:=by rw [hni.al,qEq];decide
  obtain⟨hw1,hw2⟩:=hask.cmp (.inl qEq);refine yO 9 Tryz.func92 rfl trivial ?_;refine yb rfl trivial (fun _=>?_) (fun g4=>?_);rotate_left
  ·have g4:(wOf l x==1)=false:=g4;rw [hw1]at g4;cases g4
  refine yq rfl (by first|(simp only [List.length_map,awl,hx2];decide)|simp only [List.length_map,awl,hx2]) ?_;refine yV Tryz.func92 rfl (by first|(simp only [List.length_map,awl,hx2];decide)|simp only [List.length_map,awl,hx2]) zu ⟨fun _ _ _ _ _=>.dead,.of ?_,fun _ _ _ _ _=>.dead,trivial⟩ ?_
  ·show vB (aw.getD 0 0==aw.getD 1 0)=vB true;rw [awg 0 (by omega),awg 1 (by omega),hw2,beq_self_eq_true]
  refine yL Tryz.func92 rfl trivial (.of ?_) (oAl rfl) ⟨rfl,?_⟩ (hro:=zy) (o2:=chkO l i id s t vh)
  ·show vI .i64 (wOf l x)=_;rw [wOf,if_pos hs0,wN,if_pos hv]
  ·rw [hI1 (by rw [qEq];decide),hI2 (by rw [qEq];decide)]
 refine yB Tryz.func92 rfl trivial (fun qUlt=>?_) (fun qUlt=>?_)<;>rw [show((⟨#[117,108,116]⟩:ByteArray))=⟨kUlt.toArray⟩from rfl,strB]at qUlt<;>simp only [decide_eq_true_eq,decide_eq_false_iff_not]at qUlt
 ·have hv:isVal x.op=true:=by rw [qUlt];decide
  have hs0:0<x.s:=by
   have:=hni.s1 (by rw [qUlt];decide);omega
  have hx2:x.a.length=2:=by rw [hni.al,qUlt];decide
  obtain⟨hw1,hw2⟩:=hask.cmp (.inr (.inl qUlt));refine yO 9 Tryz.func92 rfl trivial ?_;refine yb rfl trivial (fun _=>?_) (fun g4=>?_);rotate_left
  ·have g4:(wOf l x==1)=false:=g4;rw [hw1]at g4;cases g4
  refine yq rfl (by first|(simp only [List.length_map,awl,hx2];decide)|simp only [List.length_map,awl,hx2]) ?_;refine yV Tryz.func92 rfl (by first|(simp only [List.length_map,awl,hx2];decide)|simp only [List.length_map,awl,hx2]) zu ⟨fun _ _ _ _ _=>.dead,.of ?_,fun _ _ _ _ _=>.dead,trivial⟩ ?_
  ·show vB (aw.getD 0 0==aw.getD 1 0)=vB true;rw [awg 0 (by omega),awg 1 (by omega),hw2,beq_self_eq_true]
  refine yL Tryz.func92 rfl trivial (.of ?_) (oAl rfl) ⟨rfl,?_⟩ (hro:=zy) (o2:=chkO l i id s t vh)
  ·show vI .i64 (wOf l x)=_;rw [wOf,if_pos hs0,wN,if_pos hv]
  ·rw [hI1 (by rw [qUlt];decide),hI2 (by rw [qUlt];decide)]
 refine yB Tryz.func92 rfl trivial (fun qSlt=>?_) (fun qSlt=>?_)<;>rw [show((⟨#[115,108,116]⟩:ByteArray))=⟨kSlt.toArray⟩from rfl,strB]at qSlt<;>simp only [decide_eq_true_eq,decide_eq_false_iff_not]at qSlt
 ·have hv:isVal x.op=true:=by rw [qSlt];decide
  have hs0:0<x.s:=by
   have:=hni.s1 (by rw [qSlt];decide);omega
  have hx2:x.a.length=2:=by rw [hni.al,qSlt];decide
  obtain⟨hw1,hw2⟩:=hask.cmp (.inr (.inr qSlt));refine yO 9 Tryz.func92 rfl trivial ?_;refine yb rfl trivial (fun _=>?_) (fun g4=>?_);rotate_left
  ·have g4:(wOf l x==1)=false:=g4;rw [hw1]at g4;cases g4
  refine yq rfl (by first|(simp only [List.length_map,awl,hx2];decide)|simp only [List.length_map,awl,hx2]) ?_;refine yV Tryz.func92 rfl (by first|(simp only [List.length_map,awl,hx2];decide)|simp only [List.length_map,awl,hx2]) zu ⟨fun _ _ _ _ _=>.dead,.of ?_,fun _ _ _ _ _=>.dead,trivial⟩ ?_
  ·show vB (aw.getD 0 0==aw.getD 1 0)=vB true;rw [awg 0 (by omega),awg 1 (by omega),hw2,beq_self_eq_true]
  refine yL Tryz.func92 rfl trivial (.of ?_) (oAl rfl) ⟨rfl,?_⟩ (hro:=zy) (o2:=chkO l i id s t vh)
  ·show vI .i64 (wOf l x)=_;rw [wOf,if_pos hs0,wN,if_pos hv]
  ·rw [hI1 (by rw [qSlt];decide),hI2 (by rw [qSlt];decide)]
 refine yB Tryz.func92 rfl trivial (fun qConcat=>?_) (fun qConcat=>?_)<;>rw [show((⟨#[99,111,110,99,97,116]⟩:ByteArray))=⟨z1e.toArray⟩from rfl,strB]at qConcat<;>simp only [decide_eq_true_eq,decide_eq_false_iff_not]at qConcat
 ·have hv:isVal x.op=true:=by rw [qConcat];decide
  have hs0:0<x.s:=by
   have:=hni.s1 (by rw [qConcat];decide);omega
  have hx2:x.a.length=2:=by rw [hni.al,qConcat];decide
  have b0:=hbd 0 (by omega);have b1:=hbd 1 (by omega);refine yO 8 Tryz.func92 rfl trivial ?_;refine yq rfl (by first|(simp only [List.length_map,awl,hx2];decide)|simp only [List.length_map,awl,hx2]) ?_;refine yV Tryz.func92 rfl trivial zu ⟨fun _ _ _ _ _=>.dead,.of ?_,fun _ _ _ _ _=>.dead,trivial⟩ ?_
  ·show vB (wOf l x==IntKind.i64.wrap (aw.getD 0 0+aw.getD 1 0))=vB true;rw [awg 0 (by omega),awg 1 (by omega),z6 (by omega) (by omega),hask.cat qConcat,beq_self_eq_true]
  refine yL Tryz.func92 rfl trivial (.of ?_) (oAl rfl) ⟨rfl,?_⟩ (hro:=zy) (o2:=chkO l i id s t vh)
  ·show vI .i64 (wOf l x)=_;rw [wOf,if_pos hs0,wN,if_pos hv]
  ·rw [hI1 (by rw [qConcat];decide),hI2 (by rw [qConcat];decide)]
 refine yB Tryz.func92 rfl trivial (fun qIte=>?_) (fun qIte=>?_)<;>rw [show((⟨#[105,116,101]⟩:ByteArray))=⟨kIte.toArray⟩from rfl,strB]at qIte<;>simp only [decide_eq_true_eq,decide_eq_false_iff_not]at qIte
 ·have hv:isVal x.op=true:=by rw [qIte];decide
  have hs0:0<x.s:=by
   have:=hni.s1 (by rw [qIte];decide);omega
  have hx3:x.a.length=3:=by rw [hni.al,qIte];decide
  obtain⟨w0,w1,w2⟩:=hask.ite qIte;refine yB Tryz.func92 rfl (by simp only [List.length_map,awl,hx3];decide) (fun g4=>?_) (fun g4=>?_);rotate_left
  ·have g4:(aw.getD 0 0==1)=false:=g4;rw [awg 0 (by omega),w0]at g4;cases g4
  refine yW [7] Tryz.func92 rfl (by simp only [List.length_map,awl,hx3];decide) (zad (aw.drop 1) (wOf l x) (by rw [List.length_drop];omega)) ⟨⟨_,rfl,.refl _⟩,trivial⟩ ⟨.eL ?_,.refl _,trivial⟩ ?_
  ·show List.take _ (List.drop 1 (aw.map eI))=_;rw [←List.map_drop];exact List.take_of_length_le (by rw [List.length_map,List.length_map,List.length_drop];omega)
  refine yV Tryz.func92 rfl trivial zu ⟨fun _ _ _ _ _=>.dead,.of ?_,fun _ _ _ _ _=>.dead,trivial⟩ ?_
  ·show vB (!anyNe (aw.drop 1) (wOf l x))=vB true;rw [zac]
   ·rfl
   intro a ha;obtain⟨q,h1,h2,rfl⟩:=awd a ha;have:q=1∨q=2:=by omega
   rcases this with rfl|rfl
   ·exact w1
   ·exact w2
  refine yL Tryz.func92 rfl trivial (.of ?_) ⟨.refl _,.refl _,.refl _,.of (z3t _ _),.of (z3t _ _),.refl _,trivial⟩ ⟨rfl,?_⟩ (hro:=zy) (o2:=chkO l i id s t vh)
  ·show vI .i64 (wOf l x)=_;rw [wOf,if_pos hs0,wN,if_pos hv]
  ·rw [hI1 (by rw [qIte];decide),hI2 (by rw [qIte];decide)]
 refine yB Tryz.func92 rfl trivial (fun qSlice=>?_) (fun qSlice=>?_)<;>rw [show((⟨#[115,108,105,99,101]⟩:ByteArray))=⟨z1d.toArray⟩from rfl,strB]at qSlice<;>simp only [decide_eq_true_eq,decide_eq_false_iff_not]at qSlice
 ·have hv:isVal x.op=true:=by rw [qSlice];decide
  have hs0:0<x.s:=by
   have:=hni.s1 (by rw [qSlice];decide);omega
  have hx1:x.a.length=1:=by rw [hni.al,qSlice];decide
  have hn2:x.n.length=2:=by rw [hni.nl,qSlice];decide
  have b0:=hbd 0 (by omega);have m0:=hnb 0 (by omega);have m1:=hnb 1 (by omega);obtain⟨w0,w1,w2⟩:=hask.slice qSlice;have e9:IntKind.i64.wrap (x.n.getD 0 0-x.n.getD 1 0)=x.n.getD 0 0-x.n.getD 1 0:=z6 (by omega) (by omega);refine yO 9 Tryz.func92 rfl trivial ?_;refine yq rfl (by simp only [List.length_map,hn2];decide) ?_;refine yB Tryz.func92 rfl (by first|trivial|(simp only [List.length_map,hn2];decide)) (fun g4=>?_) (fun g4=>?_);rotate_left
  ·have g4:decide (x.n.getD 1 0≤x.n.getD 0 0)=false:=g4;rw [decide_eq_true w0]at g4;cases g4
  refine yB Tryz.func92 rfl (by simp only [List.length_map,awl,hx1];decide) (fun g5=>?_) (fun g5=>?_);rotate_left
  ·have g5:decide (x.n.getD 0 0<aw.getD 0 0)=false:=g5;rw [awg 0 (by omega),decide_eq_true w1]at g5;cases g5
  refine yV Tryz.func92 rfl trivial zu ⟨fun _ _ _ _ _=>.dead,.of ?_,fun _ _ _ _ _=>.dead,trivial⟩ ?_
  ·show vB (wOf l x==IntKind.i64.wrap (IntKind.i64.wrap (x.n.getD 0 0-x.n.getD 1 0)+1))=vB true;rw [e9,z6 (by omega) (by omega),w2,beq_self_eq_true]
  refine yL Tryz.func92 rfl trivial (.of ?_) (oAl rfl) ⟨rfl,?_⟩ (hro:=zy) (o2:=chkO l i id s t vh)
  ·show vI .i64 (wOf l x)=_;rw [wOf,if_pos hs0,wN,if_pos hv]
  ·rw [hI1 (by rw [qSlice];decide),hI2 (by rw [qSlice];decide)]
 refine yB Tryz.func92 rfl trivial (fun qUext=>?_) (fun qUext=>?_)<;>rw [show((⟨#[117,101,120,116]⟩:ByteArray))=⟨kUext.toArray⟩from rfl,strB]at qUext<;>simp only [decide_eq_true_eq,decide_eq_false_iff_not]at qUext
 ·have hv:isVal x.op=true:=by rw [qUext];decide
  have hs0:0<x.s:=by
   have:=hni.s1 (by rw [qUext];decide);omega
  have hx1:x.a.length=1:=by rw [hni.al,qUext];decide
  have hn1:x.n.length=1:=by rw [hni.nl,qUext];decide
  have b0:=hbd 0 (by omega);have m0:=hnb 0 (by omega);refine yO 9 Tryz.func92 rfl trivial ?_;refine yq rfl (by simp only [List.length_map,awl,hx1,hn1];decide) ?_;refine yV Tryz.func92 rfl trivial zu ⟨fun _ _ _ _ _=>.dead,.of ?_,fun _ _ _ _ _=>.dead,trivial⟩ ?_
  ·show vB (wOf l x==IntKind.i64.wrap (aw.getD 0 0+x.n.getD 0 0))=vB true;rw [awg 0 (by omega),z6 (by omega) (by omega),hask.ext (.inl qUext),beq_self_eq_true]
  refine yL Tryz.func92 rfl trivial (.of ?_) (oAl rfl) ⟨rfl,?_⟩ (hro:=zy) (o2:=chkO l i id s t vh)
  ·show vI .i64 (wOf l x)=_;rw [wOf,if_pos hs0,wN,if_pos hv]
  ·rw [hI1 (by rw [qUext];decide),hI2 (by rw [qUext];decide)]
 refine yB Tryz.func92 rfl trivial (fun qSext=>?_) (fun qSext=>?_)<;>rw [show((⟨#[115,101,120,116]⟩:ByteArray))=⟨kSext.toArray⟩from rfl,strB]at qSext<;>simp only [decide_eq_true_eq,decide_eq_false_iff_not]at qSext
 ·have hv:isVal x.op=true:=by rw [qSext];decide
  have hs0:0<x.s:=by
   have:=hni.s1 (by rw [qSext];decide);omega
  have hx1:x.a.length=1:=by rw [hni.al,qSext];decide
  have hn1:x.n.length=1:=by rw [hni.nl,qSext];decide
  have b0:=hbd 0 (by omega);have m0:=hnb 0 (by omega);refine yO 9 Tryz.func92 rfl trivial ?_;refine yq rfl (by simp only [List.length_map,awl,hx1,hn1];decide) ?_;refine yV Tryz.func92 rfl trivial zu ⟨fun _ _ _ _ _=>.dead,.of ?_,fun _ _ _ _ _=>.dead,trivial⟩ ?_
  ·show vB (wOf l x==IntKind.i64.wrap (aw.getD 0 0+x.n.getD 0 0))=vB true;rw [awg 0 (by omega),z6 (by omega) (by omega),hask.ext (.inr qSext),beq_self_eq_true]
  refine yL Tryz.func92 rfl trivial (.of ?_) (oAl rfl) ⟨rfl,?_⟩ (hro:=zy) (o2:=chkO l i id s t vh)
  ·show vI .i64 (wOf l x)=_;rw [wOf,if_pos hs0,wN,if_pos hv]
  ·rw [hI1 (by rw [qSext];decide),hI2 (by rw [qSext];decide)]
 have hd:sameP l x:=hask.dflt fun k hk=>by
  simp only [List.mem_cons,List.not_mem_nil,or_false]at hk;rcases hk with rfl|rfl|rfl|rfl|rfl|rfl|rfl|rfl|rfl|rfl|rfl|rfl|rfl|rfl|rfl|rfl|rfl|rfl|rfl<;>assumption
 have hv:isVal x.op=true:=by
  unfold isVal;rw [decide_eq_false qSort,decide_eq_false qInit,decide_eq_false qNext,decide_eq_false qBad,decide_eq_false qConstraint];rfl
 have hs0:0<x.s:=by
  have:=hni.s1 (z6t hv hni.known);omega
 refine yW [7] Tryz.func92 rfl trivial (zad aw (wOf l x) (by omega)) ⟨⟨_,rfl,.refl _⟩,trivial⟩ (.refl _) ?_;refine yV Tryz.func92 rfl trivial zu ⟨fun _ _ _ _ _=>.dead,.of ?_,fun _ _ _ _ _=>.dead,trivial⟩ ?_
 ·show vB (!anyNe aw (wOf l x))=vB true;rw [zac]
  ·rfl
  intro a ha;obtain⟨q,h2,rfl⟩:=awm a ha;exact hd q h2
 refine yL Tryz.func92 rfl trivial (.of ?_) ⟨.refl _,.refl _,.refl _,.of (z3t _ _),.of (z3t _ _),.refl _,trivial⟩ ⟨rfl,?_⟩ (hro:=zy) (o2:=chkO l i id s t vh)
 ·show vI .i64 (wOf l x)=_;rw [wOf,if_pos hs0,wN,if_pos hv]
 ·rw [hI1 (by assumption),hI2 (by assumption)]
end Go.Proofs.YtbodbhpdelgpnaaGreatDoor
