/- A part of the proof. -/
import Derived.Test.YtbodbhpdelgpnaaGreatDoorP14
import Derived.RangeFuncNested
import Derived.RangeFuncBox
import Derived.RangeFuncLeaves
import Derived.Shelf.Abstract
import Derived.WalkKit
import Derived.OwnWalkIn
import Derived.TacticsInMore
import Derived.LoopNIn
import Derived.LoopIn
set_option linter.unusedVariables false
set_option linter.unusedSimpArgs false
set_option linter.unusedSectionVars false
set_option maxRecDepth 100000
set_option maxHeartbeats 8000000
namespace Go.Proofs.YtbodbhpdelgpnaaGreatDoor
open Go Ab Go.RowKit Go.Shelf
attribute [local go_sem] Oper.semAt_some
def ups(n k:Nat):List Nat:=(List.range k).map fun j=>n-1-j
theorem zhi(n k:Nat):ups n (k+1)=ups n k++[n-1-k]:=by simp [ups,List.range_succ]
theorem zr5(n k:Nat):(ups n k).length=k:=by simp [ups]
set_option maxRecDepth 100000 in
set_option maxHeartbeats 2000000 in
theorem ztk(F:Fence)(n:Nat)(h8:F.fn 264)(hro:F.round=none)(hn:1≤n)(l Bs n₀ b off len cap:Nat)(a:Nat→Nat)(hreach:len*8≤140737488351232)(hb:b<n₀)(J Jx:List (Fin len)→World→Prop)
  (hY:∀pre x W,J pre W→pre.length<len→YieldAt F (n-1) Tryz.prog l #[.int .i64 (x.1:Int),.int .u64 (a x.1:Int)] W fun e W'=>
   (e=.returned (.bool true)∧J (pre++[x]) W'∧Below n₀ W W')∨(e=.returned (.bool false)∧Jx (pre++[x]) W'))
  (W:World) (hBs:W.cell? ⟨Bs,0,none⟩=some (.slice (some ⟨b,off,none⟩) len cap)) (hc:∀j,j<len→W.cell? ⟨b,off+j,none⟩=some (.int .u64 (a j:Int))) (hBn:Bs<n₀) (h0:J [] W) :
  CallsIn F n Tryz.prog 264 #[.func (.yield l) #[] #[],.pointer (some ⟨Bs,0,none⟩)] W fun e W'=>(∃v,e=.returned v) ∧
   ((∃ys,ys.map (·.1)=ups len len∧J ys W')∨(∃pre,(∃k,k≤len∧pre.map (·.1)=ups len k)∧Jx pre W')):=by
 refine callsIn_of_wp Tryz.func264 rfl h8 ?_ hro;simp only [Tryz.ntmps264,List.size_toArray,List.length_cons,List.length_nil,Nat.reduceAdd,Nat.reduceSub,Array.replicate_succ,Array.replicate_zero,List.push_toArray,List.append_toArray,List.nil_append,List.cons_append]
 gi_wp2
 gi_loopw [3] (fun i wr=>∃(k:Nat) (pre:List (Fin len)),pre.map (·.1)=ups len k∧J pre wr∧Below n₀ W wr∧((∃m:Nat,k+(m+1)=len∧i=.int .i64 (m:Int))∨(k=len∧i=.int .i64 (-1))))
  (fun i _=>(intOf i+1).toNat)
 case atStart=>
  refine⟨0,[],rfl,h0,Below.refl _ _,?_⟩;rcases Nat.eq_zero_or_pos len with h|h
  ·subst h;exact .inr ⟨rfl,by simp⟩
  ·refine .inl ⟨len-1,by omega,?_⟩;simp;omega
 case round=>
  obtain⟨k,pre,hpre,hJs,hnx,hi⟩:=hrel;rcases hi with⟨m,hk,rfl⟩|⟨rfl,rfl⟩
  ·have hcx:wr.cell? ⟨b,off+m,none⟩=some (.int .u64 (a m:Int)):=(hnx.cell (p:=⟨b,off+m,none⟩) hb).trans (hc m (by omega));have hBx:wr.cell? ⟨Bs,0,none⟩=some (.slice (some ⟨b,off,none⟩) len cap):=(hnx.cell (p:=⟨Bs,0,none⟩) hBn).trans hBs;have hlen:pre.length=k:=by rw [←zr5 len k,←hpre,List.length_map]
   obtain⟨fn,tmps,assign,body,hy,hR⟩:=hY _ ⟨m,by omega⟩ wr hJs (by omega)
   dsimp only at hy
   have hml:m<len:=by omega
   have hpre':(pre++[(⟨m,hml⟩:Fin len)]).map (·.1)=ups len (k+1):=by
    rw [List.map_append,hpre,zhi];simp;omega
   gi_wp2
   refine hR.mono ?_;rintro e W3 (⟨rfl,hJ3,hk3⟩|⟨rfl,hJx3⟩)
   ·gi_wp2
    go_roundw
    case rel=>
     refine⟨k+1,_,hpre',hJ3,hnx.trans hk3,?_⟩;cases m with
     | zero=>exact .inr ⟨by omega,by simp⟩
     | succ m=>exact .inl ⟨m,by omega,by simp⟩
    case measure=>first|(simp [intOf];done)|(simp [intOf];omega)
   ·gi_wp2
    refine bodyPost_ret (results_none rfl _ _ _) rfl ?_;exact⟨⟨_,rfl⟩,.inr ⟨_,⟨k+1,by omega,hpre'⟩,hJx3⟩⟩
  ·gi_wp2
   go_end0
   exact⟨⟨_,rfl⟩,.inl ⟨_,hpre,hJs⟩⟩
set_option maxHeartbeats 1000000 in
theorem bw_in(F:Fence)(n:Nat)(h6:F.fn 263)(hro:F.round=none)(a:Option Addr)(len cap:Nat)(w:World):
  CallsIn F n Tryz.prog 263 #[.slice a len cap] w fun e w'=>e=.returned (.func (.func 264) #[] #[.pointer (some ⟨w.heap.size,0,none⟩)])∧w'=w.alloc (.cells #[.slice a len cap] 116):=by
 refine callsIn_of_wp Tryz.func263 rfl h6 ?_ hro;simp only [Tryz.ntmps263,List.size_toArray,List.length_cons,List.length_nil,Nat.reduceAdd,Nat.reduceSub,Array.replicate_succ,Array.replicate_zero,List.push_toArray,List.append_toArray,List.nil_append,List.cons_append]
 gi_wp2
 go_ret
 exact⟨rfl,rfl⟩
theorem zpy(F:Fence)(n:Nat)(h8:F.fn 264)(hro:F.round=none)(hn:1≤n)(Bs n₀ b off len cap:Nat)(a:Nat→Nat)(hreach:len*8≤140737488351232)(w:World)(hBs:Bs<n₀)(hn₀:n₀≤w.heap.size)(hb:b<n₀)
  (hc:w.cell? ⟨Bs,0,none⟩=some (.slice (some ⟨b,off,none⟩) len cap)) (hI:∀j,j<len→w.cell? ⟨b,off+j,none⟩=some (.int .u64 (a j:Int))) :
  SeqStopsK F n Tryz.prog 264 #[.pointer (some ⟨Bs,0,none⟩)] (fun x:Fin len=>#[Value.int .i64 (x.1:Int),Value.int .u64 (a x.1:Int)]) (Below n₀) (fun ys=>ys.map (·.1)=ups len len)
   (fun pre=>∃k,k≤len∧pre.map (·.1)=ups len k) len w:=fun l J Jx W hW _ _ hY h0=>by
 have hc':=(hW.cell (p:=⟨Bs,0,none⟩) (Nat.lt_of_lt_of_le hBs hn₀)).trans hc;exact ztk F n h8 hro hn l Bs n₀ b off len cap a hreach hb J Jx hY W hc' (fun j hj=>(hW.cell (p:=⟨b,off+j,none⟩) (Nat.lt_of_lt_of_le hb hn₀)).trans (hI j hj)) hBs h0
def znu(n:Nat)(x y:Nat→Nat)(v:Bool):Prop:=
 (v=false∧∀j,j<n→x j=y j)∨∃m,m<n∧x m≠y m∧(∀j,m<j→j<n→x j=y j)∧v=decide (x m<y m)
set_option maxRecDepth 100000 in
set_option maxHeartbeats 4000000 in
theorem zry(F:Fence)(n:Nat)(h4:F.fn 260)(h6:F.fn 263)(h8:F.fn 264)(hro:F.round=none)(hn:3≤n)(wa wb:Int)(ba oa ca bb ob cb len:Nat)(x y:Nat→Nat)(hx:∀j,x j<18446744073709551616)(hy:∀j,y j<18446744073709551616)(hreach:len*8≤140737488351232)(w:World)
  (hba:ba<w.heap.size) (hbb:bb<w.heap.size) (hIa:∀j,j<len→w.cell? ⟨ba,oa+j,none⟩=some (.int .u64 (x j:Int))) (hIb:∀j,j<len→w.cell? ⟨bb,ob+j,none⟩=some (.int .u64 (y j:Int))) :
  CallsIn F n Tryz.prog 260 #[.agg #[.int .i64 wa,.slice (some ⟨ba,oa,none⟩) len ca],.agg #[.int .i64 wb,.slice (some ⟨bb,ob,none⟩) len cb]] w fun e W'=>
   (∃v,e=.returned (.bool v)∧znu len x y v)∧Below w.heap.size w W':=by
 have h1:1≤n:=by omega
 refine callsIn_of_wp_marks Tryz.func260 rfl h4 ?_ hro;simp only [Tryz.ntmps260,List.size_toArray,List.length_cons,List.length_nil,Nat.reduceAdd,Nat.reduceSub,Array.replicate_succ,Array.replicate_zero,List.push_toArray,List.append_toArray,List.nil_append,List.cons_append]
 gi_wp2_with (gi_at_call 263;refine(bw_in F (n-1) h6 hro _ _ _ _).mono ?_;rintro e w' ⟨rfl,rfl⟩)
 obtain⟨w1,hw1⟩:∃w1,w.alloc (.cells #[.int .i64 wa,.slice (some ⟨ba,oa,none⟩) len ca] 118)=w1:=⟨_,rfl⟩
 obtain⟨w2,hw2⟩:∃w2,w1.alloc (.cells #[.int .i64 wb,.slice (some ⟨bb,ob,none⟩) len cb] 118)=w2:=⟨_,rfl⟩
 obtain⟨w3,hw3⟩:∃w3,w2.alloc (.cells #[.bool false] 4)=w3:=⟨_,rfl⟩
 obtain⟨W0,hW0⟩:∃W0,w3.alloc (.cells #[.slice (some ⟨ba,oa,none⟩) len ca] 116)=W0:=⟨_,rfl⟩
 rw [hw1,hw2,hw3,hW0];have s1:w1.heap.size=w.heap.size+1:=by rw [←hw1];simp
 have s2:w2.heap.size=w.heap.size+1+1:=by rw [←hw2,World.size_alloc,s1]
 have s3:w3.heap.size=w.heap.size+1+1+1:=by rw [←hw3,World.size_alloc,s2]
 have hs0:W0.heap.size=w.heap.size+1+1+1+1:=by rw [←hW0,World.size_alloc,s3]
 have hb0:Below w.heap.size w W0:=by
  rw [←hW0,←hw3,←hw2,←hw1];exact((((Below.refl _ w).alloc (Nat.le_refl _) _).alloc (by simp) _).alloc (by simp;omega) _).alloc (by simp;omega) _
 have k1:W0.heap[w.heap.size+1]?=some (.cells #[.int .i64 wb,.slice (some ⟨bb,ob,none⟩) len cb] 118):=by
  rw [←hW0,Below.heap_alloc _ _ _ (by omega),←hw3,Below.heap_alloc _ _ _ (by omega),←hw2,←s1];exact World.alloc_heap_new _ _
 have k2:W0.heap[w.heap.size+1+1]?=some (.cells #[.bool false] 4):=by
  rw [←hW0,Below.heap_alloc _ _ _ (by omega),←hw3,←s2];exact World.alloc_heap_new _ _
 have k3:W0.heap[w.heap.size+1+1+1]?=some (.cells #[.slice (some ⟨ba,oa,none⟩) len ca] 116):=by
  rw [←hW0,←s3];exact World.alloc_heap_new _ _
 have c1:W0.cell? ⟨w.heap.size+1,1,none⟩=some (.slice (some ⟨bb,ob,none⟩) len cb):=by rw [Lib.cell_of_heap k1];rfl
 have c2:W0.cell? ⟨w.heap.size+1+1,0,none⟩=some (.bool false):=by rw [Lib.cell_of_heap k2];rfl
 have f2:W0.frozen? ⟨w.heap.size+1+1,0,none⟩=false:=Lib.frozen_of_heap k2 0;have c3:W0.cell? ⟨w.heap.size+1+1+1,0,none⟩=some (.slice (some ⟨ba,oa,none⟩) len ca):=by rw [Lib.cell_of_heap k3];rfl
 clear hw1 hw2 hw3 k1 k2 k3 s1 s2 s3;clear hW0;refine wpIn_rangeFunc_ownG hro h1 (gf:=264) (lb:=#[.pointer (some ⟨w.heap.size+1+1+1,0,none⟩)]) rfl h8 (enters_of Tryz.func264 (by kernel_rfl) rfl)
  (zpy F (n-1) h8 hro (by omega) (w.heap.size+1+1+1) W0.heap.size ba oa len ca x hreach W0 (by omega) (Nat.le_refl _) (by omega) c3 (fun j hj=>(hb0.cell (p:=⟨ba,oa+j,none⟩) hba).trans (hIa j hj))) belowK_t (belowK_b (Nat.le_refl _)) (Below.refl _ _) (fun _=>rfl)
  (fun pre W=>(∀p∈pre,x p.1=y p.1)∧Below W0.heap.size W0 W)
  (fun c pre W=>(c=.ret∧∃ini last,pre=ini++[last]∧(∀p∈ini,x p.1=y p.1)∧x last.1≠y last.1∧W.cell? ⟨w.heap.size+1+1,0,none⟩=some (.bool (decide (x last.1<y last.1))))∧Below w.heap.size w W)
  (OwnFrom.and (Own.from (fun s A B row hs hg hr=>hs) _) (ownFrom_below (Nat.le_refl _) (Nat.le_refl _)))
  (fun c=>OwnFrom.and (Own.from (fun s A B row hs hg hr=>by obtain⟨hc,ini,last,e1,e2,e3,e4⟩:=hs;exact⟨hc,ini,last,e1,e2,e3,cell_kept e4 hg hr⟩) _) (ownFrom_below (Nat.le_refl _) hb0.size))
  ⟨by simp,Below.refl _ _⟩
  (fun x'=>{ tmps:=#[.agg #[.int .i64 wa,.slice (some ⟨ba,oa,none⟩) len ca],.agg #[.int .i64 wb,.slice (some ⟨bb,ob,none⟩) len cb],.pointer (some ⟨w.heap.size,0,none⟩),.pointer (some ⟨w.heap.size+1,0,none⟩),.pointer (some ⟨w.heap.size+1+1,0,none⟩),.int .i64 (x'.1:Int),.int .u64 (x x'.1:Int),.pointer (some ⟨w.heap.size,1,none⟩),.slice (some ⟨ba,oa,none⟩) len ca,.func (.func 264) #[] #[.pointer (some ⟨w.heap.size+1+1+1,0,none⟩)],.int .i64 (x'.1:Int),.int .u64 (x x'.1:Int),undef,undef,undef,undef,undef,undef,undef,undef,undef,undef,undef,undef,undef,undef],defers:=[] }) ?assign ?body ?done ?stop
 case assign=>
  intro l x W K hK
  gi_wp2
  exact hK
 case body=>
  rintro l pre ⟨m,hm⟩ W ⟨hp,hB⟩ _
  dsimp only
  have d1:=(hB.cell (p:=⟨w.heap.size+1,1,none⟩) (by show w.heap.size+1<_;omega)).trans c1;have d2:=(hB.cell (p:=⟨w.heap.size+1+1,0,none⟩) (by show w.heap.size+1+1<_;omega)).trans c2;have g2:W.frozen? ⟨w.heap.size+1+1,0,none⟩=false:=by
   have:W.heap[w.heap.size+1+1]?=W0.heap[w.heap.size+1+1]?:=hB.block _ (by omega);rw [←f2];simp only [World.frozen?,this]
  have dy:=(hB.cell (p:=⟨bb,ob+m,none⟩) (by show bb<_;omega)).trans ((hb0.cell (p:=⟨bb,ob+m,none⟩) hbb).trans (hIb m hm))
  gi_wp2
  ·have hne:(((x m:Nat):Int) !=((y m:Nat):Int))=true:=by assumption
   have hne:x m≠y m:=by
    intro e;rw [e]at hne;simp at hne
   exact⟨(KeepsOthers.setCell _ _ _).from _,⟨rfl,pre,⟨m,hm⟩,rfl,hp,hne,World.cell?_setCell_same' _ _ _ (by rw [d2];rfl)⟩,(hb0.trans (hB.mono hb0.size)).setCell (p:=⟨w.heap.size+1+1,0,none⟩) (by show w.heap.size≤w.heap.size+1+1;omega) _⟩
  ·have hne:(((x m:Nat):Int) !=((y m:Nat):Int))=false:=by assumption
   have hne:((x m:Nat):Int)=((y m:Nat):Int):=by simpa using hne
   have hne:x m=y m:=by omega
   exact⟨KeepsFrom.refl _ _,Below.refl _ _,fun p hp'=>(List.mem_append.1 hp').elim (hp p) (fun e=>by simp at e;subst e;exact hne),hB⟩
 case done=>
  rintro D ys W hD hys ⟨hp,hB⟩ hK;have d2:=(hB.cell (p:=⟨w.heap.size+1+1,0,none⟩) (by show w.heap.size+1+1<_;omega)).trans c2;have g2:W.frozen? ⟨w.heap.size+1+1,0,none⟩=false:=by
   have:W.heap[w.heap.size+1+1]?=W0.heap[w.heap.size+1+1]?:=hB.block _ (by omega);rw [←f2];simp only [World.frozen?,this]
  gi_wp2
  have hK':=(KeepsOthers.setCell W ⟨w.heap.size+1+1,0,none⟩ (.bool false)).same D _ hK rfl;refine⟨by simp,.inl ⟨_,_,rfl,run_takeDeferred hK',?_⟩⟩;have hc5:=cell_kept (World.cell?_setCell_same' W ⟨w.heap.size+1+1,0,none⟩ (.bool false) (by rw [d2];rfl)) (grownBy_putObj' _ D (.deferred none)) (fun r e=>by cases e;exact⟨_,hK',rfl⟩);have hBW:=(hb0.trans (hB.mono hb0.size)).setCell (p:=⟨w.heap.size+1+1,0,none⟩) (by show w.heap.size≤w.heap.size+1+1;omega) (.bool false);refine⟨.bool false,?_,⟨false,rfl,.inl ⟨rfl,fun j hj=>?_⟩⟩,hBW.trans (belowK_b (w:=w) (Nat.le_refl _) _ D _ _ (by omega) hK' rfl rfl)⟩
  ·simp [results,Tryz.f260,go_sem,hc5]
  ·have:j∈ys.map (·.1):=by
    rw [hys,ups,List.mem_map];exact⟨len-1-j,by simp;omega,by omega⟩
   obtain⟨p,hpm,rfl⟩:=List.mem_map.1 this;exact hp p hpm
 case stop=>
  rintro D c pre W hD ⟨k,hk,hpre⟩ ⟨⟨rfl,ini,last,e1,e2,e3,hcr⟩,hB⟩ hK
  gi_wp2
  refine⟨by simp,.inl ⟨_,_,rfl,run_takeDeferred hK,?_⟩⟩;have hc5:=cell_kept hcr (grownBy_putObj' _ D (.deferred none)) (fun r e=>by cases e;exact⟨_,hK,rfl⟩);refine⟨.bool (decide (x last.1<y last.1)),?_,⟨_,rfl,.inr ⟨last.1,last.2,e3,fun j h1 h2=>?_,rfl⟩⟩,hB.trans (belowK_b (w:=w) (Nat.le_refl _) W D _ _ (by omega) hK rfl rfl)⟩
  ·simp [results,Tryz.f260,go_sem,hc5]
  ·subst e1;cases k with
   | zero=>simp [ups]at hpre
   | succ k=>
    rw [zhi,List.map_append]at hpre;obtain⟨q1,q2⟩:=List.append_inj' hpre rfl;have q2:last.1=len-1-k:=by simpa using q2
    have:j∈ini.map (·.1):=by
     rw [q1,ups,List.mem_map];exact⟨len-1-j,by simp;omega,by omega⟩
    obtain⟨p,hpm,rfl⟩:=List.mem_map.1 this;exact e2 p hpm
theorem zgr{n x y:Nat}(hx:x<2^(64*n))(hy:y<2^(64*n)){v:Bool}(h:znu n (fun j=>lw x j) (fun j=>lw y j) v):v=decide (x<y):=by
 rcases h with⟨rfl,h⟩|⟨m,hm,h1,h2,rfl⟩
 ·have:x=y:=by
   apply zm2 hx hy;unfold lmb;exact List.map_congr_left fun j hj=>h j (List.mem_range.1 hj)
  subst this;simp
 ·have hup:x / 2^(64*(m+1))=y / 2^(64*(m+1)):=by
   apply Nat.eq_of_testBit_eq;intro i;rw [Nat.testBit_div_two_pow,Nat.testBit_div_two_pow];by_cases hi:i+64*(m+1)<64*n
   ·have hj:=h2 ((i+64*(m+1)) / 64) (by omega) (by omega);have:=congrArg (fun z=>z.testBit ((i+64*(m+1))%64)) hj;simp only [lw_tb,show(i+64*(m+1))%64<64 by omega,decide_true,Bool.true_and]at this;rw [show 64*((i+64*(m+1)) / 64)+(i+64*(m+1))%64=i+64*(m+1)by omega]at this;exact this
   ·rw [Nat.testBit_lt_two_pow (Nat.lt_of_lt_of_le hx (Nat.pow_le_pow_right (by decide) (by omega))),Nat.testBit_lt_two_pow (Nat.lt_of_lt_of_le hy (Nat.pow_le_pow_right (by decide) (by omega)))]
  have ex:=z9p x m;have ey:=z9p y m;have dx:=Nat.div_add_mod x (2^(64*(m+1)));have dy:=Nat.div_add_mod y (2^(64*(m+1)));rw [hup]at dx;have lx:x%2^(64*m)<2^(64*m):=Nat.mod_lt _ (Nat.two_pow_pos _);have ly:y%2^(64*m)<2^(64*m):=Nat.mod_lt _ (Nat.two_pow_pos _);have key:∀a b:Nat,a<b→2^(64*m)*a+2^(64*m)≤2^(64*m)*b:=fun a b h=>by
   have:2^(64*m)*(a+1)≤2^(64*m)*b:=Nat.mul_le_mul_left _ h;rwa [Nat.mul_add,Nat.mul_one]at this
  have h1:lw x m≠lw y m:=h1;show decide (lw x m<lw y m)=decide (x<y);rw [decide_eq_decide];constructor
  ·intro h;have:=key _ _ h;omega
  ·intro h;rcases Nat.lt_or_ge (lw x m) (lw y m)with h3|h3
   ·exact h3
   ·have:=key _ _ (show lw y m<lw x m by omega);omega
theorem us_of{w:World}{ok:Nat→Prop}{l:List Nat}{v:Value}(h:RelD w ok (eUs l) v)(hl:l≠[]):∃b o c,v=.slice (some ⟨b,o,none⟩) l.length c∧∀j,j<l.length→b<w.heap.size∧w.cell? ⟨b,o+j,none⟩=some (.int .u64 (l.getD j 0:Int)):=by
 have hlen:(l.map eU).length=l.length:=by simp
 unfold eUs eL at h;generalize hxs:l.map eU=xs at h hlen;cases h with
 | nil hb=>exact absurd (List.map_eq_nil_iff.1 hxs) hl
 | sl he hm hc hb hr=>
  rename_i b o c us;subst hxs;have hus:us=l.map fun x:Nat=>Value.int .u64 (x:Int):=by
   clear hm hc hr hlen hl;generalize hn:l.length=k;induction l generalizing us k with
   | nil=>cases he;rfl
   | cons x r ih=>
    cases he with
    | cons h hl2 t=>
     cases h with
     | cons h hf t'=>
      cases t';cases h;rw [ih t _ rfl];rfl
  subst hus;refine⟨b,o,c,by rw [hlen],fun j hj=>?_⟩;obtain⟨h1,h2⟩:=hm j (by simpa using hj);have h3:w.cell? ⟨b,o+j,none⟩=some (.int .u64 (l.getD j 0:Int)):=by
   rw [h2];simp [hj]
  exact⟨z32 h3,h3⟩
set_option maxRecDepth 100000 in
theorem z6y(w x y:Nat)(hx:x<2^w)(hy:y<2^w)(hw:0<w)(hwb:w≤1000000):ACall Tryz.prog 260 [.d (vN w x),.d (vN w y)] [] (fun r o=>r=vB (decide (x<y))):=by
 intro X π W vs hgk m hv;have hl:∀z,lmb (z6 w) z≠[]:=fun z e=>by
  have:=congrArg List.length e;rw [zr]at this;unfold z6 at this;simp at this;omega
 obtain⟨va,vb,rfl,ha,hb⟩:∃va vb,vs=[va,vb]∧RelD W (okOf X π []) (vN w x) va∧RelD W (okOf X π []) (vN w y) vb:=by
  cases hv with
  | cons h1 h2=>
   cases h2 with
   | cons h3 h4=>
    cases h4;cases h1 with|d h1=>cases h3 with|d h3=>exact⟨_,_,rfl,h1,h3⟩
 have ag:∀{z:Nat} {v:Value},RelD W (okOf X π []) (vN w z) v→∃sv,v=.agg #[.int .i64 (w:Int),sv]∧RelD W (okOf X π []) (eUs (lmb (z6 w) z)) sv:=by
  intro z v h;cases h with
  | ag h=>
   cases h with
   | cons h1 _ h2=>
    cases h2 with
    | cons h3 _ h4=>
     cases h4;cases h1;exact⟨_,rfl,h3⟩
 obtain⟨sa,rfl,ha2⟩:=ag ha;obtain⟨sb,rfl,hb2⟩:=ag hb;obtain⟨ba,oa,ca,rfl,ia⟩:=us_of ha2 (hl x);obtain⟨bb,ob,cb,rfl,ib⟩:=us_of hb2 (hl y);rw [zr]at ia ib;simp only [zr];have hn:0<z6 w∧z6 w≤1000000:=by unfold z6;omega
 have g:∀z j,j<z6 w→(lmb (z6 w) z).getD j 0=lw z j:=fun z j hj=>z3a hj
 have e0:∀args w,(callFunc 260 args).run Tryz.prog w=.ok (.enter 260 args) w:=zb Tryz.func260 rfl rfl;refine .inl ⟨e0 _ _,?_⟩;have key:=(callsIn_wide (n:=3)).1 (zry Fence.wide 3 trivial trivial trivial rfl (Nat.le_refl _) (w:Int) (w:Int) ba oa ca bb ob cb (z6 w) (fun j=>lw x j) (fun j=>lw y j) (fun j=>lw_lt x j) (fun j=>lw_lt y j) (by omega) W (ia 0 hn.1).1 (ib 0 hn.1).1 (fun j hj=>by rw [(ia j hj).2,g x j hj]) (fun j hj=>by rw [(ib j hj).2,g y j hj]));refine key.mono ?_;rintro e w' ⟨⟨v,rfl,hv⟩,b⟩;have:=zgr (z6w hx) (z6w hy) hv;subst this;have t:=z3b m b.os b.tape ⟨b.output,Nat.le_refl _⟩ b.size b.block;exact⟨_,_,[],π,rfl,rfl,t.mem,.d (.v rfl),t.hist⟩
end Go.Proofs.YtbodbhpdelgpnaaGreatDoor
namespace Go.Proofs.YtbodbhpdelgpnaaGreatDoor
open Go Ab
def eB(b:Bool):D:=.v (.bool b)
@[reducible] def eBs(l:List Bool):D:=eL 1 eB false l
@[reducible] def gBs(l:List Bool):AObj:=gL 4 1 eB false l
def bl(n:Nat)(f:Nat→Bool):List Bool:=(List.range n).map f
theorem strT{a b:List UInt8}(h:a=b):((⟨a.toArray⟩:ByteArray).toList==(⟨b.toArray⟩:ByteArray).toList)=true:=by rw [strE,h];simp
theorem strF{a b:List UInt8}(h:a=b)(h2:((⟨a.toArray⟩:ByteArray).toList==(⟨b.toArray⟩:ByteArray).toList)=false):False:=by rw [strT h]at h2;cases h2
theorem zps(X i:Nat):X / 2^i=2*(X / 2^(i+1))+if X.testBit i then 1 else 0:=by
 rw [Nat.pow_succ,←Nat.div_div_eq_div_mul,Nat.testBit_eq_decide_div_mod_eq];have:=Nat.mod_add_div (X / 2^i) 2;rcases Nat.mod_two_eq_zero_or_one (X / 2^i)with h|h<;>simp [h]<;>omega
def quN(m x y:Nat):Nat:=if y=0 then 2^m-1 else x / y
def reN(x y:Nat):Nat:=if y=0 then x else x%y
def dvA(m x k:Nat):Nat:=x / 2^(m-k)
def dvR(m x y k:Nat):Nat:=reN (dvA m x k) y
def dvQ(m x y k:Nat)(i:Nat):Bool:=decide (m-k≤i)&&(quN m x y).testBit i
theorem zin{m x k:Nat}(hk:k<m):dvA m x (k+1)=2*dvA m x k+if x.testBit (m-1-k)then 1 else 0:=by
 have:=zps x (m-1-k);rw [show m-1-k+1=m-k by omega]at this;rw [dvA,dvA,show m-(k+1)=m-1-k by omega,this]
theorem ztf{m x k:Nat}(hx:x<2^m)(hk:k≤m):dvA m x k<2^k:=by
 rw [dvA,Nat.div_lt_iff_lt_mul (Nat.two_pow_pos _),←Nat.pow_add];rwa [show k+(m-k)=m by omega]
theorem zqf(x y:Nat):reN x y≤x:=by
 unfold reN;split
 ·exact Nat.le_refl _
 ·exact Nat.mod_le _ _
theorem zqs{m x y k:Nat}(hx:x<2^m)(hk:k≤m):dvR m x y k<2^k:=Nat.lt_of_le_of_lt (zqf _ _) (ztf hx hk)
theorem zpl{m x y:Nat}(hx:x<2^m):dvR m x y 0=0:=by
 have:=zqs (y:=y) hx (Nat.zero_le m);simpa using this
theorem zsi(m x y:Nat):dvR m x y m=reN x y:=by rw [dvR,dvA,Nat.sub_self,Nat.pow_zero,Nat.div_one]
theorem zpm{m x y k:Nat}(hk:k<m):dvR m x y (k+1)=(if 2*dvR m x y k+(if x.testBit (m-1-k)then 1 else 0)<y then 2*dvR m x y k+(if x.testBit (m-1-k)then 1 else 0)else 2*dvR m x y k+(if x.testBit (m-1-k)then 1 else 0)-y):=by
 have hA:=zin (x:=x) hk;generalize hb:(if x.testBit (m-1-k)then 1 else 0)=b at *;have hb1:b≤1:=by rw [←hb];split<;>omega
 unfold dvR reN;by_cases hy:y=0
 ·subst hy;simp [hA]
 ·simp only [hy,if_false];rw [hA];have hr:=Nat.mod_lt (dvA m x k) (Nat.pos_of_ne_zero hy);have hd:=Nat.mod_add_div (dvA m x k) y;generalize dvA m x k%y=r at *;generalize dvA m x k / y=q at *;have e:2*dvA m x k+b=2*r+b+y*(2*q):=by rw [←hd,Nat.mul_add,Nat.mul_left_comm];omega
  rw [e,Nat.add_mul_mod_self_left];split
  ·rename_i h;exact Nat.mod_eq_of_lt h
  ·rename_i h;rw [Nat.mod_eq_sub_mod (by omega),Nat.mod_eq_of_lt (by omega)]
theorem zpo{m x y k:Nat}(hk:k<m):(quN m x y).testBit (m-1-k)=!decide (2*dvR m x y k+(if x.testBit (m-1-k)then 1 else 0)<y):=by
 have hA:=zin (x:=x) hk;generalize hb:(if x.testBit (m-1-k)then 1 else 0)=b at *;have hb1:b≤1:=by rw [←hb];split<;>omega
 unfold dvR reN quN;by_cases hy:y=0
 ·subst hy;simp only [if_true];rw [Nat.testBit_two_pow_sub_one];simp;omega
 ·simp only [hy,if_false];have hdd:x / y / 2^(m-1-k)=dvA m x (k+1) / y:=by
   rw [dvA,show m-(k+1)=m-1-k by omega,Nat.div_div_eq_div_mul,Nat.div_div_eq_div_mul,Nat.mul_comm]
  rw [Nat.testBit_eq_decide_div_mod_eq,hdd,hA];have hr:=Nat.mod_lt (dvA m x k) (Nat.pos_of_ne_zero hy);have hd:=Nat.mod_add_div (dvA m x k) y;generalize dvA m x k%y=r at *;generalize dvA m x k / y=q at *;have e:2*dvA m x k+b=2*r+b+y*(2*q):=by rw [←hd,Nat.mul_add,Nat.mul_left_comm];omega
  rw [e,Nat.add_mul_div_left _ _ (Nat.pos_of_ne_zero hy)];by_cases h:2*r+b<y
  ·rw [Nat.div_eq_of_lt h];simp [h]
  ·have:(2*r+b) / y=1:=by
    rw [Nat.div_eq_iff (Nat.pos_of_ne_zero hy)];omega
   rw [this];simp [h]
theorem zqg{m x y:Nat}(hx:x<2^m):quN m x y<2^m:=by
 have:=Nat.two_pow_pos m;unfold quN;split
 ·omega
 ·exact Nat.lt_of_le_of_lt (Nat.div_le_self _ _) hx
theorem zsj(m x y i:Nat):dvQ m x y m i=(quN m x y).testBit i:=by simp [dvQ]
theorem zpn{m x y i:Nat}(hi:i<m):dvQ m x y 0 i=false:=by simp [dvQ];omega
def sel(e:Nat)(L:List Nat)(o h:AObj):AObj:=if e∈L then o else h
theorem z5k(e:Nat)(L:List Nat)(o h:AObj):sel e (e::L) o h=o:=if_pos (List.mem_cons_self ..)
theorem z1q{e j:Nat}(hne:j≠e)(L:List Nat)(o h:AObj):sel e (j::L) o h=sel e L o h:=by
 unfold sel;simp only [List.mem_cons,hne.symm,false_or]
theorem z80{e:Nat}{L:List Nat}(hn:e∉L)(o h:AObj):sel e L o h=h:=if_neg hn
theorem z4s{e:Nat}{L:List Nat}(hn:e∈L)(o h:AObj):sel e L o h=o:=if_pos hn
def dvQN(w x y k:Nat):Nat:=ofB (dvQ w x y k) w
theorem zn0(w x y:Nat):dvQN w x y 0=0:=by
 unfold dvQN;exact zlr (Nat.two_pow_pos _) fun i hi=>by rw [zpn hi,Nat.zero_testBit]
theorem zpp{w x y:Nat}(hx:x<2^w):dvQN w x y w=quN w x y:=zlr (zqg hx) fun i _=>zsj w x y i
theorem zqu{w x y k:Nat}(hk:k<w)(hq:(quN w x y).testBit (w-1-k)=false):dvQN w x y (k+1)=dvQN w x y k:=by
 unfold dvQN;apply Nat.eq_of_testBit_eq;intro i;rw [zas,zas];by_cases hi:i<w
 ·simp only [hi,decide_true,Bool.true_and,dvQ];by_cases he:i=w-1-k
  ·subst he;simp [hq]
  ·have:decide (w-(k+1)≤i)=decide (w-k≤i):=by
    rw [decide_eq_decide];omega
   rw [this]
 ·simp [hi]
theorem zqt{w x y k:Nat}(hk:k<w)(hq:(quN w x y).testBit (w-1-k)=true):dvQN w x y (k+1)=dvQN w x y k ||| 2^(w-1-k):=by
 unfold dvQN;apply Nat.eq_of_testBit_eq;intro i;rw [Nat.testBit_or,Nat.testBit_two_pow,zas,zas];by_cases hi:i<w
 ·simp only [hi,decide_true,Bool.true_and,dvQ];by_cases he:i=w-1-k
  ·subst he;simp [hq];omega
  ·have h1:decide (w-(k+1)≤i)=decide (w-k≤i):=by
    rw [decide_eq_decide];omega
   have h2:¬w-1-k=i:=fun e=>he e.symm
   rw [h1];simp [h2]
 ·have:¬w-1-k=i:=by omega
  simp [hi,this]
theorem z9h(w x y:Nat)(hx:x<2^w)(hy:y<2^w)(hw:0<w)(hwb:w≤100000):ACall Tryz.prog 250 [.d (vN w x),.d (vN w y)] [] (fun r o=>r=tupOf [.d (vN w (quN w x y)),.d (vN w (reN x y))]):=by
 refine yN Tryz.func250 fun C hC hCl hDs hGk=>?_;have hpl:C.π.length=0:=by rw [hCl,hC];rfl
 refine z50 8 4 [(2,some (12,.ag [vI .i64 w,.gs 4])),(5,some (15,.ag [vI .i64 w,.gs 5])),(6,some (6,.ptr 6 0)),(7,some (7,.ptr 7 0))]
  (fun L=>[some (bN w x),some (bN w y),some zV,some zV,some (sel 2 L (gUs (List.replicate (z6 w) 0)) HD),some (sel 5 L (gUs (List.replicate (z6 w) 0)) HD),some (sel 6 L zV HD),some (sel 7 L zV HD)]) _
  (objsF:=[some (bN w x),some (bN w y),some zV,some zV,some (gUs (List.replicate (z6 w) 0)),some (gUs (List.replicate (z6 w) 0)),some zV,some zV])
  tabOk Tryz.func250 rfl rfl trivial (by kernel_rfl) (by kernel_rfl) ?_ ?_ ?_ ?_ (fun L=>yq rfl trivial rfl) ?_ ?_
 ·rfl
 ·intro L hL;simp only [z4s (hL 2 (by decide)),z4s (hL 5 (by decide)),z4s (hL 6 (by decide)),z4s (hL 7 (by decide))]
 ·intro j L hb;simp only [actB,List.any_cons,List.any_nil,Bool.or_false,Bool.or_eq_false_iff]at hb;obtain⟨b1,b2,b3,b4⟩:=hb;have n1:=Nat.ne_of_beq_eq_false b1;have n2:=Nat.ne_of_beq_eq_false b2;have n3:=Nat.ne_of_beq_eq_false b3;have n4:=Nat.ne_of_beq_eq_false b4;simp only [z1q (fun e=>n1 e.symm),z1q (fun e=>n2 e.symm),z1q (fun e=>n3 e.symm),z1q (fun e=>n4 e.symm)]
 ·rfl
 ·refine List.forall_mem_cons.2 ⟨⟨_,rfl,rfl,?_⟩,List.forall_mem_cons.2 ⟨⟨_,rfl,rfl,?_⟩,List.forall_mem_cons.2 ⟨⟨_,rfl,rfl,?_⟩,List.forall_mem_cons.2 ⟨⟨_,rfl,rfl,?_⟩,fun x h=>by cases h⟩⟩⟩⟩
  ·refine zfj (p:=4) (a:=.ag [vI .i64 w,.gs 0]) (q0:=1) (o1:=gUs (List.replicate (z6 w) 0)) rfl rfl (fun _ _ _ h=>h) (z2b w (by omega)) (zb Tryz.func97 rfl rfl) (by rintro r oz ⟨rfl,rfl⟩;exact⟨rfl,rfl⟩) (.refl _) rfl rfl rfl rfl rfl rfl (by omega) ?_ ?_
   ·intro L h;show some (some (sel 2 L _ _))=_;rw [z80 h]
   ·intro L;simp only [z5k,z1q (show(2:Nat)≠5 by decide),z1q (show(2:Nat)≠6 by decide),z1q (show(2:Nat)≠7 by decide)];rfl
  ·refine zfj (p:=5) (a:=.ag [vI .i64 w,.gs 0]) (q0:=1) (o1:=gUs (List.replicate (z6 w) 0)) rfl rfl (fun _ _ _ h=>h) (z2b w (by omega)) (zb Tryz.func97 rfl rfl) (by rintro r oz ⟨rfl,rfl⟩;exact⟨rfl,rfl⟩) (.refl _) rfl rfl rfl rfl rfl rfl (by omega) ?_ ?_
   ·intro L h;show some (some (sel 5 L _ _))=_;rw [z80 h]
   ·intro L;simp only [z5k,z1q (show(5:Nat)≠2 by decide),z1q (show(5:Nat)≠6 by decide),z1q (show(5:Nat)≠7 by decide)];rfl
  ·refine z7t (p:=6) tabOk rfl rfl rfl rfl rfl rfl (by omega) ?_ ?_
   ·intro L h;show some (some (sel 6 L _ _))=_;rw [z80 h]
   ·intro L;simp only [z5k,z1q (show(6:Nat)≠2 by decide),z1q (show(6:Nat)≠5 by decide),z1q (show(6:Nat)≠7 by decide)];rfl
  ·refine z7t (p:=7) tabOk rfl rfl rfl rfl rfl rfl (by omega) ?_ ?_
   ·intro L h;show some (some (sel 7 L _ _))=_;rw [z80 h]
   ·intro L;simp only [z5k,z1q (show(7:Nat)≠2 by decide),z1q (show(7:Nat)≠5 by decide),z1q (show(7:Nat)≠6 by decide)];rfl
 refine zj 5 rfl ?_;refine yS Tryz.func250 rfl trivial ?_;refine z8 (α:=Nat) (fun i=>[(2,.ptr 0 0),(3,.ptr 1 0),(4,.ptr 2 0),(5,.ptr 3 0),(6,.ptr 6 0),(7,.ptr 7 0),(17,vI .i64 (w:Int)),(18,vI .i64 i)]) (fun i=>[some (bN w x),some (bN w y),some zV,some zV,some (gUs (lmb (z6 w) (dvQN w x y i))),none,some (cV w 4),some (bN w (dvR w x y i))]) (fun i=>i≤w) (fun i=>w-i) 0 (Nat.zero_le _) ?_ ?_
 ·refine fun h=>yE h (eAl rfl) ⟨.refl _,.refl _,.refl _,.refl _,.of ?_,.refl _,.of ?_,trivial⟩
  ·rw [z4g,zn0];rfl
  ·rw [z4g,zpl hx];rfl
 rintro i hi ih;refine yB Tryz.func250 rfl trivial (fun hb=>?_) (fun hb=>?_)<;>simp only [decide_eq_true_eq,decide_eq_false_iff_not]at hb
 ·have hlt:i<w:=by omega
  have hR:dvR w x y i<2^i:=zqs hx (by omega);have hp:2^i≤2^(w-1):=Nat.pow_le_pow_right (by decide) (by omega);have hp2:2^w=2*2^(w-1):=by rw [←Nat.pow_succ',Nat.succ_eq_add_one,Nat.sub_add_cancel hw]
  have eat:IntKind.i64.wrap (IntKind.i64.wrap ((w:Int)-1)-i)=((w-1-i:Nat):Int):=by rw [z7 (n:=(w:Int)-1) (by omega) (by omega),z7 (by omega) (by omega)];omega
  have hs:=zpm (x:=x) (y:=y) hlt;have hq:=zpo (x:=x) (y:=y) hlt;refine yW [] Tryz.func250 rfl trivial (zd0 w 1 (lmb (z6 w) (dvR w x y i)) (z14 _ _) (zr _ _) hwb (by decide)) trivial (.refl _) ?_;have eup:upI (lmb (z6 w) (dvR w x y i)) w 1 (w-1)=lmb (z6 w) (2*dvR w x y i):=by
   rw [zd1 (w-1) (Nat.le_refl _),Nat.mod_eq_of_lt (by omega),Nat.pow_one,Nat.mul_comm]
  have hset:setB (lmb (z6 w) (2*dvR w x y i)) 0=lmb (z6 w) (2*dvR w x y i+1):=by
   rw [z4k (z1o hw)];congr 1;have:=Nat.two_pow_add_eq_or_of_lt (i:=1) (b:=1) (by decide) (dvR w x y i);rw [Nat.pow_one]at this;exact this.symm
  refine zt (env':=[(2,.ptr 0 0),(3,.ptr 1 0),(4,.ptr 2 0),(5,.ptr 3 0),(6,.ptr 6 0),(7,.ptr 7 0),(17,vI .i64 (w:Int)),(18,vI .i64 i),(9,vI .i64 ((w-1-i:Nat):Int)),(27,.ag [vI .i64 w,.gs 11])]) (objs':=[some (bN w x),some (bN w y),some zV,some zV,some (gUs (lmb (z6 w) (dvQN w x y i))),none,some (cV w 4),some (bN w (dvR w x y i)),none,none,none,some (gUs (lmb (z6 w) (2*dvR w x y i)))]) ?_ hC hCl ⟨⟨_,rfl,.refl _⟩,⟨_,rfl,.refl _⟩,⟨_,rfl,.refl _⟩,⟨_,rfl,.refl _⟩,⟨_,rfl,.refl _⟩,⟨_,rfl,.refl _⟩,⟨_,rfl,.refl _⟩,⟨_,rfl,.refl _⟩,⟨_,rfl,.of ?_⟩,⟨_,rfl,.refl _⟩,trivial⟩ ⟨.refl _,.refl _,.refl _,.refl _,.refl _,.refl _,.refl _,.of (by rw [eup];rfl),trivial⟩ rfl rfl (Nat.zero_le _);rotate_left
  ·show vI .i64 _=_;rw [eat]
  refine yV Tryz.func250 rfl trivial (z4f w x ((w-1-i:Nat):Int) (by omega)) (.refl _) ?_;rw [bitI'_nat (by omega)];obtain⟨R2,hR2⟩:∃R2,2*dvR w x y i+(if x.testBit (w-1-i)=true then 1 else 0)=R2:=⟨_,rfl⟩
  rw [hR2]at hs hq;have h2:R2<2^w:=by rw [←hR2];split<;>omega
  refine yB Tryz.func250 rfl trivial (fun hb2=>?_) (fun hb2=>?_)
  ·rw [if_pos hb2]at hR2;refine yW [7,11] Tryz.func250 rfl trivial (z5j w 0 (lmb (z6 w) (2*dvR w x y i)) (z14 _ _) (by rw [zr];exact z1o hw) (by omega)) ⟨⟨_,rfl,.refl _⟩,⟨_,rfl,.refl _⟩,trivial⟩ (.refl _) ?_;rw [hset,hR2];refine zj 11 rfl ?_;refine zt (env':=[(2,.ptr 0 0),(3,.ptr 1 0),(4,.ptr 2 0),(5,.ptr 3 0),(6,.ptr 6 0),(7,.ptr 7 0),(17,vI .i64 (w:Int)),(18,vI .i64 i),(9,vI .i64 ((w-1-i:Nat):Int))]) (objs':=[some (bN w x),some (bN w y),some zV,some zV,some (gUs (lmb (z6 w) (dvQN w x y i))),none,some (cV w 4),some (bN w R2)]) ?_ hC hCl ⟨⟨_,rfl,.refl _⟩,⟨_,rfl,.refl _⟩,⟨_,rfl,.refl _⟩,⟨_,rfl,.refl _⟩,⟨_,rfl,.refl _⟩,⟨_,rfl,.refl _⟩,⟨_,rfl,.refl _⟩,⟨_,rfl,.refl _⟩,⟨_,rfl,.refl _⟩,trivial⟩ ⟨.refl _,.refl _,.refl _,.refl _,.refl _,.refl _,.refl _,trivial⟩ rfl rfl (Nat.zero_le _);refine yV Tryz.func250 rfl trivial (z6y w R2 y h2 hy hw (by omega)) (.refl _) ?_;refine yB Tryz.func250 rfl trivial (fun h=>?_) (fun h=>?_)
   ·have h:¬R2<y:=by simpa using h
    rw [if_neg h]at hs;rw [decide_eq_false h]at hq;refine yO 3 Tryz.func250 rfl trivial ?_;refine yQ Tryz.func217 rfl trivial (z2s w y hy hw (by omega)) (.refl _) ?_;refine yq rfl trivial ?_;refine yV Tryz.func250 rfl trivial (z3e w R2 (2^w-(y+1)) 1 hw (by omega) (by decide)) (.refl _) ?_;rw [show R2+(2^w-(y+1))+1=(R2-y)+2^w by omega,Nat.add_mod_right,Nat.mod_eq_of_lt (by omega:R2-y<2^w),←hs];refine yW [6,4] Tryz.func250 rfl trivial (z5j w (w-1-i) (lmb (z6 w) (dvQN w x y i)) (z14 _ _) (by rw [zr];exact z1o (by omega)) (by omega)) ⟨⟨_,rfl,.refl _⟩,⟨_,rfl,.refl _⟩,trivial⟩ (.refl _) ?_;refine yS Tryz.func250 rfl trivial ?_;exact yE (ih (i+1) (by omega) (by omega)) ⟨erl rfl,erl rfl,erl rfl,erl rfl,erl rfl,erl rfl,erl rfl,erw rfl,trivial⟩ ⟨.refl _,.refl _,.refl _,.refl _,.of (by rw [z4k (z1o (by omega)),←zqt hlt hq];rfl),.refl _,.refl _,trivial⟩
   ·have h:R2<y:=by simpa using h
    rw [if_pos h]at hs;rw [decide_eq_true h]at hq;refine yS Tryz.func250 rfl trivial ?_;exact yE (ih (i+1) (by omega) (by omega)) ⟨erl rfl,erl rfl,erl rfl,erl rfl,erl rfl,erl rfl,erl rfl,erw rfl,trivial⟩ ⟨.refl _,.refl _,.refl _,.refl _,.of (by rw [zqu hlt hq]),.refl _,.of (by rw [hs]),trivial⟩
  ·rw [if_neg (by simp [hb2]),Nat.add_zero]at hR2;rw [hR2];refine zj 11 rfl ?_;refine zt (env':=[(2,.ptr 0 0),(3,.ptr 1 0),(4,.ptr 2 0),(5,.ptr 3 0),(6,.ptr 6 0),(7,.ptr 7 0),(17,vI .i64 (w:Int)),(18,vI .i64 i),(9,vI .i64 ((w-1-i:Nat):Int)),(30,.lit false)]) (objs':=[some (bN w x),some (bN w y),some zV,some zV,some (gUs (lmb (z6 w) (dvQN w x y i))),none,some (cV w 4),some (bN w R2)]) ?_ hC hCl ⟨⟨_,rfl,.refl _⟩,⟨_,rfl,.refl _⟩,⟨_,rfl,.refl _⟩,⟨_,rfl,.refl _⟩,⟨_,rfl,.refl _⟩,⟨_,rfl,.refl _⟩,⟨_,rfl,.refl _⟩,⟨_,rfl,.refl _⟩,⟨_,rfl,.refl _⟩,⟨_,rfl,.refl _⟩,trivial⟩ ⟨.refl _,.refl _,.refl _,.refl _,.refl _,.refl _,.refl _,trivial⟩ rfl rfl (Nat.zero_le _);refine yV Tryz.func250 rfl trivial (z6y w R2 y h2 hy hw (by omega)) (.refl _) ?_;refine yB Tryz.func250 rfl trivial (fun h=>?_) (fun h=>?_)
   ·have h:¬R2<y:=by simpa using h
    rw [if_neg h]at hs;rw [decide_eq_false h]at hq;refine yO 3 Tryz.func250 rfl trivial ?_;refine yQ Tryz.func217 rfl trivial (z2s w y hy hw (by omega)) (.refl _) ?_;refine yq rfl trivial ?_;refine yV Tryz.func250 rfl trivial (z3e w R2 (2^w-(y+1)) 1 hw (by omega) (by decide)) (.refl _) ?_;rw [show R2+(2^w-(y+1))+1=(R2-y)+2^w by omega,Nat.add_mod_right,Nat.mod_eq_of_lt (by omega:R2-y<2^w),←hs];refine yW [6,4] Tryz.func250 rfl trivial (z5j w (w-1-i) (lmb (z6 w) (dvQN w x y i)) (z14 _ _) (by rw [zr];exact z1o (by omega)) (by omega)) ⟨⟨_,rfl,.refl _⟩,⟨_,rfl,.refl _⟩,trivial⟩ (.refl _) ?_;refine yS Tryz.func250 rfl trivial ?_;exact yE (ih (i+1) (by omega) (by omega)) ⟨erl rfl,erl rfl,erl rfl,erl rfl,erl rfl,erl rfl,erl rfl,erw rfl,trivial⟩ ⟨.refl _,.refl _,.refl _,.refl _,.of (by rw [z4k (z1o (by omega)),←zqt hlt hq];rfl),.refl _,.refl _,trivial⟩
   ·have h:R2<y:=by simpa using h
    rw [if_pos h]at hs;rw [decide_eq_true h]at hq;refine yS Tryz.func250 rfl trivial ?_;exact yE (ih (i+1) (by omega) (by omega)) ⟨erl rfl,erl rfl,erl rfl,erl rfl,erl rfl,erl rfl,erl rfl,erw rfl,trivial⟩ ⟨.refl _,.refl _,.refl _,.refl _,.of (by rw [zqu hlt hq]),.refl _,.of (by rw [hs]),trivial⟩
 ·obtain rfl:i=w:=by omega
  rw [zpp hx,zsi];refine zj 4 rfl ?_;refine zt (env':=[(2,.ptr 0 0),(3,.ptr 1 0),(4,.ptr 2 0),(5,.ptr 3 0),(6,.ptr 6 0),(7,.ptr 7 0),(19,.lit false)]) (objs':=[some (bN i x),some (bN i y),some zV,some zV,none,none,some (bN i (quN i x y)),some (bN i (reN x y))]) ?_ hC hCl ⟨⟨_,rfl,.refl _⟩,⟨_,rfl,.refl _⟩,⟨_,rfl,.refl _⟩,⟨_,rfl,.refl _⟩,⟨_,rfl,.refl _⟩,⟨_,rfl,.refl _⟩,⟨_,rfl,.refl _⟩,trivial⟩ ⟨.refl _,.refl _,.refl _,.refl _,.refl _,.refl _,trivial⟩ rfl rfl (Nat.zero_le _);refine z50 3 0 [(2,none)] (fun L=>[some (bN i x),some (bN i y),some (sel 2 L (bN i (quN i x y)) zV),some zV,none,none,some (bN i (quN i x y)),some (bN i (reN x y))]) _
   (objsF:=[some (bN i x),some (bN i y),some (bN i (quN i x y)),some zV,none,none,some (bN i (quN i x y)),some (bN i (reN x y))])
   tabOk Tryz.func250 rfl rfl trivial (by kernel_rfl) (by kernel_rfl) ?_ ?_ ?_ rfl (fun L=>yq rfl trivial rfl) ?_ ?_
  ·rfl
  ·intro L hL;simp only [z4s (hL 2 (by decide))]
  ·intro j L hb;simp only [actB,List.any_cons,List.any_nil,Bool.or_false]at hb;have n1:=Nat.ne_of_beq_eq_false hb;simp only [z1q (fun e=>n1 e.symm)]
  ·refine List.forall_mem_cons.2 ⟨⟨_,rfl,rfl,?_⟩,fun x h=>by cases h⟩;refine zck (c:=none) (a:=.dead) tabOk rfl (fun _ _ _ h=>h) ?_ trivial rfl;intro L h;simp only [z5k,z80 h];rfl
  exact yR Tryz.func250 rfl trivial rfl
@[reducible] def cI(w:Int):AObj:=.cells 3 [.d (eI w)]
def anyNe(ws:List Int)(w:Int):Bool:=ws.any fun a=>!(a==w)
theorem zrv(a w:Int):ACall Tryz.prog 125 [vI .i64 a,.ptr 0 0] [some (cI w)] (fun r o=>r=vB (!(a==w))∧o=[some (cI w)]):=by
 refine yN Tryz.func125 fun C hC hCl hDs hGk=>?_;exact yL Tryz.func125 rfl trivial (.refl _) (oAl rfl) ⟨rfl,rfl⟩ (o2:=[some (cI w)])
theorem zm6(ws:List Int)(w:Int)(ha:ws.length≤1000000):ACall Tryz.prog 155 [.d (eIs ws),.fn (.func 125) [.ptr 0 0]] [some (cI w)] (fun r o=>∃k:Int,r=vI .i64 k∧decide (k≥0)=anyNe ws w∧o=[some (cI w)]):=by
 refine yN Tryz.func155 fun C hC hCl hDs hGk=>?_;refine yS Tryz.func155 rfl trivial ?_;refine z8 (α:=Nat) (fun j=>[(0,.d (eIs ws)),(1,.fn (.func 125) [.ptr 0 0]),(7,vI .i64 (ws.length:Int)),(8,vI .i64 (j:Int))]) (fun j=>[some (cI w)]) (fun j=>j≤ws.length∧∀q,q<j→ws.getD q 0=w) (fun j=>ws.length-j) 0 ⟨Nat.zero_le _,fun q hq=>by omega⟩ ?_ ?_
 ·exact fun h=>yE h ⟨erl rfl,erl rfl,⟨_,rfl,.of (by rw [List.length_map])⟩,erl rfl,trivial⟩ (oAl rfl)
 rintro j ⟨hj,hall⟩ ih;refine yB Tryz.func155 rfl trivial (fun hb=>?_) (fun hb=>?_)<;>simp only [decide_eq_true_eq,decide_eq_false_iff_not]at hb
 ·have hlt:j<ws.length:=by omega
  refine yW [0] Tryz.func155 rfl (by simp [andP]<;>omega) (zrv (ws.getD j 0) w) ⟨⟨_,rfl,.refl _⟩,trivial⟩ (.refl _) ?_;refine yB Tryz.func155 rfl trivial (fun g=>?_) (fun g=>?_)
  ·refine yL Tryz.func155 rfl trivial (.refl _) (oAl rfl) ⟨_,rfl,?_,rfl⟩ (o2:=[some (cI w)]);have:anyNe ws w=true:=List.any_eq_true.2 ⟨_,z11 0 hlt,g⟩;rw [this];exact decide_eq_true (by omega)
  ·have g:(!(ws.getD j 0==w))=false:=g;have g:ws.getD j 0=w:=by simpa using g
   refine yS Tryz.func155 rfl trivial ?_;refine yE (ih (j+1) ⟨by omega,fun q hq=>?_⟩ (by omega)) ⟨erl rfl,erl rfl,erl rfl,erw rfl,trivial⟩ (oAl rfl);rcases Nat.lt_or_ge q j with h|h
   ·exact hall q h
   ·obtain rfl:q=j:=by omega
    exact g
 ·obtain rfl:j=ws.length:=by omega
  refine yL Tryz.func155 rfl trivial (.refl _) (oAl rfl) ⟨-1,rfl,?_,rfl⟩ (o2:=[some (cI w)]);have:anyNe ws w=false:=by
   unfold anyNe;rw [List.any_eq_false];intro a ha;obtain⟨q,hq,rfl⟩:=List.getElem_of_mem ha;have:=hall q hq;rw [List.getD_eq_getElem?_getD,List.getElem?_eq_getElem hq]at this;simpa using this
  rw [this];rfl
theorem zjy(ws:List Int)(w:Int)(ha:ws.length≤1000000):ACall Tryz.prog 124 [.d (eIs ws),.fn (.func 125) [.ptr 0 0]] [some (cI w)] (fun r o=>r=vB (anyNe ws w)∧o=[some (cI w)]):=by
 refine yN Tryz.func124 fun C hC hCl hDs hGk=>?_;refine yG [0] Tryz.func124 rfl trivial (zm6 ws w ha) ⟨⟨_,rfl,.refl _⟩,trivial⟩ (.refl _) ?_;rintro r o ⟨k,rfl,hk,rfl⟩;refine yL Tryz.func124 rfl trivial (.refl _) (oAl rfl) ⟨?_,rfl⟩ (o2:=[some (cI w)]);show vB (decide (k≥0))=_;rw [hk]
theorem za0(ws:List Int)(w:Int)(ha:ws.length≤1000000):ACall Tryz.prog 123 [.d (eIs ws),.ptr 0 0] [some (cI w)] (fun r o=>r=vB (!anyNe ws w)∧o=[some (cI w)]):=by
 refine yN Tryz.func123 fun C hC hCl hDs hGk=>?_;refine yW [0] Tryz.func123 rfl trivial (zjy ws w ha) ⟨⟨_,rfl,.refl _⟩,trivial⟩ (.refl _) ?_;exact yL Tryz.func123 rfl trivial (.refl _) (oAl rfl) ⟨rfl,rfl⟩ (o2:=[some (cI w)])
theorem zq:ACall Tryz.prog 93 [.dead,vB true,.dead] [] (fun r o=>r=.tp []):=by
 refine yN Tryz.func93 fun C hC hCl hDs hGk=>?_;refine yF Tryz.func93 rfl trivial ?_;exact yR Tryz.func93 rfl trivial rfl
@[reducible] def mpI(s:List Int):AObj:=.map (s.map fun a=>(.int .i64 a,vB true))
@[reducible] def chkO(l:List Nd)(i:Nat)(id:Int)(s t:List Int)(vh:Value):List (Option AObj):=
 [some (.cells 147 [.d (eNds l),.gs 1,.mp 2,.d (eI id)]),some (gIs (wL l i)),some (mpK [(kInit,.mp 3),(kNext,.mp 4)]),some (mpI s),some (mpI t),some (.hold (.gs 1) vh)]
theorem zaj(m:Nat):∀s:List Int,refsM m (s.map fun a=>(Value.int .i64 a,vB true))=true
 | []=>rfl
 | a::r=>zaj m r
theorem zf4(ρ:Nat→Nat):∀s:List Int,renEs ρ (s.map fun a=>(Value.int .i64 a,vB true))=s.map fun a=>(Value.int .i64 a,vB true)
 | []=>rfl
 | a::r=>by simp only [List.map_cons,renEs,AV.ren,zf4 ρ r]
theorem z3k(ρ:Nat→Nat)(s:List Int):(mpI s).ren ρ=mpI s:=by simp only [AObj.ren,zf4]
theorem z9w(i:Nat)(s:List Int):(mpI s).drop i=mpI s:=by
 have:∀s:List Int,zfr i (s.map fun a=>(Value.int .i64 a,vB true))=s.map fun a=>(Value.int .i64 a,vB true):=fun s=>by
  induction s with
  | nil=>rfl
  | cons a r ih=>simp only [List.map_cons,zfr,AV.drop,ih]
 simp only [AObj.drop,this]
theorem z3j(q:Nat→Bool)(s:List Int):(mpI s).dropS q=mpI s:=by
 have:∀s:List Int,zbe q (s.map fun a=>(Value.int .i64 a,vB true))=s.map fun a=>(Value.int .i64 a,vB true):=fun s=>by
  induction s with
  | nil=>rfl
  | cons a r ih=>simp only [List.map_cons,zbe,AV.dropS,ih]
 simp only [AObj.dropS,this]
theorem zmk(i:Nat)(x:D)(s:List Int):(mpI s).frz i x=mpI s:=by
 have:∀s:List Int,frzEs i x (s.map fun a=>(Value.int .i64 a,vB true))=s.map fun a=>(Value.int .i64 a,vB true):=fun s=>by
  induction s with
  | nil=>rfl
  | cons a r ih=>simp only [List.map_cons,frzEs,AV.frz,ih]
 simp only [AObj.frz,this]
theorem z4l{l:List Nd}{i:Nat}{id:Int}{s t:List Int}{vh:Value}(k:Nat)(ex:List (Option AObj)):refsO (6+k) (chkO l i id s t vh++ex)=refsO (6+k) ex:=by
 show refsO (6+k) (some _::some _::some _::some (mpI s)::some (mpI t)::some _::ex)=_;have e1:Nat.blt 1 (6+k)=true:=by rw [Nat.blt_eq];omega
 have e2:Nat.blt 2 (6+k)=true:=by rw [Nat.blt_eq];omega
 have e3:Nat.blt 3 (6+k)=true:=by rw [Nat.blt_eq];omega
 have e4:Nat.blt 4 (6+k)=true:=by rw [Nat.blt_eq];omega
 simp only [refsO,z6a,refsBs,refsB,zaj,refsM,List.map,gL,e1,e2,e3,e4]
theorem zw{l:List Nd}{i:Nat}{id:Int}{s t:List Int}{vh:Value}:refsO 6 (chkO l i id s t vh)=true:=by
 have:=z4l (l:=l) (i:=i) (id:=id) (s:=s) (t:=t) (vh:=vh) 0 [];rw [List.append_nil]at this;exact this
theorem zkf{l:List Nd}{i q:Nat}(h:q<i):(wL l i).getD q 0=wN l (nd l q):=by simp [wL,h]
theorem zj1(l:List Nd)(i:Nat)(id:Int)(s t:List Int)(vh:Value)(a:Int)(h1:1≤a)(h2:a≤i)(hi:i≤1000000)(hw:0<wN l (ln l a)):ACall Tryz.prog 122 [.ptr 0 0,vI .i64 a] (chkO l i id s t vh) (fun r o=>r=vI .i64 (wN l (ln l a))∧o=chkO l i id s t vh):=by
 refine yN Tryz.func122 fun C hC hCl hDs hGk=>?_;have e1:IntKind.i64.wrap (a-1)=a-1:=z7 (by omega) (by omega);have hg:(wL l i).getD (a-1).toNat 0=wN l (ln l a):=by
  exact zkf (by omega)
 refine yV Tryz.func122 rfl ?_ zq ⟨fun _ _ _ _ _=>.dead,.of ?_,fun _ _ _ _ _=>.dead,trivial⟩ ?_
 ·simp only [e1,List.length_map,z95];exact⟨by omega,⟨by omega,by omega⟩,trivial⟩
 ·show vB (decide ((wL l i).getD (IntKind.i64.wrap (a-1)).toNat 0>0))=_;rw [e1,hg,decide_eq_true hw]
 refine yL Tryz.func122 rfl trivial (.of ?_) (oAl rfl) ⟨rfl,rfl⟩ (hro:=zw) (o2:=chkO l i id s t vh);show vI .i64 ((wL l i).getD (IntKind.i64.wrap (a-1)).toNat 0)=_;rw [e1,hg]
@[reducible] def zNd:AObj:=.cells 49 [.d (dSL []),.d (eI 0),.d (.v (.slice none 0 0)),.d (.v (.slice none 0 0)),.d (dSL [])]
theorem zkn(l:List Nd)(i:Nat)(id:Int)(s t:List Int)(vh:Value)(x:Nd)(hS:SortAt l x)(hl:l.length≤1000000):ACall Tryz.prog 121 [.ptr 0 0,.d (eNd x)] (chkO l i id s t vh) (fun r o=>r=vI .i64 (wdN l x)∧o=chkO l i id s t vh):=by
 refine yN Tryz.func121 fun C hC hCl hDs hGk=>?_;have hb:=hS.lo;have hb2:=hS.hi;have e1:IntKind.i64.wrap (x.s-1)=x.s-1:=z7 (by omega) (by omega);have hpl:C.π.length=6:=by rw [hCl,hC];rfl
 refine z50 11 1 [(10,some (5,.ptr 7 0))] (fun L=>chkO l i id s t vh++[some (bNd x),some (sel 10 L zNd HD)]) _ (objsF:=chkO l i id s t vh++[some (bNd x),some zNd])
  tabOk Tryz.func121 rfl rfl trivial (by kernel_rfl) (by kernel_rfl) ?_ ?_ ?_ rfl (fun L=>yq rfl (by simp [andP,e1]<;>omega) rfl) ?_ ?_
 ·rfl
 ·intro L hL;simp only [z4s (hL 10 (by decide))]
 ·intro j L hb;simp only [actB,List.any_cons,List.any_nil,Bool.or_false]at hb;have n1:=Nat.ne_of_beq_eq_false hb;simp only [z1q (fun e=>n1 e.symm)]
 ·refine List.forall_mem_cons.2 ⟨⟨_,rfl,rfl,?_⟩,fun x h=>by cases h⟩;refine z7t (p:=7) tabOk rfl rfl rfl rfl rfl rfl (by omega) ?_ ?_
  ·intro L h;show some (some (sel 10 L _ _))=_;rw [z80 h]
  ·intro L;simp only [z5k];rfl
 refine yV Tryz.func121 rfl trivial zq ⟨fun _ _ _ _ _=>.dead,.of ?_,fun _ _ _ _ _=>.dead,trivial⟩ ?_
 ·show vB ((⟨(l.getD (IntKind.i64.wrap (x.s-1)).toNat default).op.toArray⟩:ByteArray).toList==(⟨kSort.toArray⟩:ByteArray).toList)=_;rw [e1,strB,decide_eq_true hS.op]
 refine yL Tryz.func121 rfl ?_ (.of ?_) (oAl rfl) ⟨rfl,rfl⟩ (hro:=zw) (o2:=chkO l i id s t vh)
 ·simp only [e1,List.length_map];exact⟨⟨by decide,Int.ofNat_lt.2 hS.n⟩,trivial⟩
 ·simp only [e1];rfl
end Go.Proofs.YtbodbhpdelgpnaaGreatDoor
namespace Ab
open Go
variable [Draws]
section
variable {P:Program}[Globals P]{T:Tab}{n:Nat}{env:Env}{objs:List (Option AObj)}{ops:Array Oper}{K:Env→Prop}{X:Nat→Prop}
theorem ds_ok{o:Oper}{r:List Oper}{a:AV}{e:Env}(hT:TabOk P T)(hfree:z4a o r (o.looksAt ops)=true)(halone:z2i o r=true)(hw:wantE ops (restr env (o.looksAt ops)) o=.yes)
  (hp:pstep T o (restr env (o.looksAt ops)) objs=.ok a) (hput:putE n o.dst a env=some e) (h:DSat P n X objs ops K r e):DSat P n X objs ops K (o::r) env:=by
 refine ds_op hfree halone hput hw (fun π w tmps hm he=>?_) h;have hdo:=z3c (ds:=[]) hT hm he o;rw [hp]at hdo;obtain⟨v,d1,d2⟩:=hdo;exact⟨v,w,d2 w (.refl w),.refl w,d1⟩
theorem zfq{o:Oper}{r:List Oper}{a:AV}{e:Env}{c:Prop}(hT:TabOk P T)(hfree:z4a o r (o.looksAt ops)=true)(halone:z2i o r=true)(hw:wantE ops (restr env (o.looksAt ops)) o=.yes)
  (hp:pstep T o (restr env (o.looksAt ops)) objs=.iff c a) (hc:c) (hput:putE n o.dst a env=some e) (h:DSat P n X objs ops K r e):DSat P n X objs ops K (o::r) env:=by
 refine ds_op hfree halone hput hw (fun π w tmps hm he=>?_) h;have hdo:=z3c (ds:=[]) hT hm he o;rw [hp]at hdo;obtain⟨v,d1,d2⟩:=hdo hc;exact⟨v,w,d2 w (.refl w),.refl w,d1⟩
theorem z5d{o:Oper}{r:List Oper}{e:Env}{t kt et:TypeId}{mo ko:Operand}{ok:Bool}{rm rk re:TRow}{j:Nat}{es:List (Value×AV)}{key:Value}{a:Option AV}(hT:TabOk P T)(hfree:z4a o r (o.looksAt ops)=true)(halone:z2i o r=true)(hw:wantE ops (restr env (o.looksAt ops)) o=.yes)
  (hop:o.op=.lookup t mo ko ok) (hm:opnd (restr env (o.looksAt ops)) mo=some (.mp j)) (hk:opnd (restr env (o.looksAt ops)) ko=some (.d (.v key))) (h1:tlook T t=some rm) (h2:rm.kd=.map kt et) (h3:tlook T kt=some rk) (h4:tlook T et=some re)
  (hobj:nth objs j=some (some (.map es))) (hkey:keyB rk.kd key=true) (hks:keysB rk.kd es=true) (hf:MFind key es a) (hput:putE n o.dst (lookA (zeroD re) ok a) env=some e) (h:DSat P n X objs ops K r e):DSat P n X objs ops K (o::r) env:=by
 refine ds_op hfree halone hput hw (fun π w tmps m he=>?_) h;obtain⟨v,e1,e2⟩:=zfc hT m h1 h2 h3 h4 hobj hkey hks hf (zf (ds:=[]) he hm) ok;refine⟨v,w,?_,.refl w,e2⟩;unfold execOp;simp only [hop];rw [z49 (P:=P) he hk];simp only [Sem.run_bind,e1,Result.andThen_ok,Sem.run_pure]
end
end Ab
namespace Go.Proofs.YtbodbhpdelgpnaaGreatDoor
open Go Ab
def hadI(l:List Nd)(op:List UInt8)(n:Nat):List Int:=((List.range n).filter fun j:Nat=>decide ((nd l j).op=op)).map fun j:Nat=>(nd l j).a.getD 0 0
theorem z8d(l:List Nd)(op:List UInt8)(n:Nat):hadI l op (n+1)=hadI l op n++(if(nd l n).op=op then [(nd l n).a.getD 0 0]else []):=by
 unfold hadI;rw [List.range_succ,List.filter_append,List.map_append];congr 1;by_cases h:(nd l n).op=op
 ·rw [if_pos h,List.filter_cons_of_pos (p:=fun j:Nat=>decide ((nd l j).op=op)) (a:=n) (l:=[]) (decide_eq_true h)];rfl
 ·rw [if_neg h,List.filter_cons_of_neg (p:=fun j:Nat=>decide ((nd l j).op=op)) (a:=n) (l:=[]) (by show ¬decide ((nd l n).op=op)=true;rw [decide_eq_false h];exact Bool.false_ne_true)];rfl
theorem zdq{l:List Nd}{op:List UInt8}{n:Nat}{a:Int}:a∈hadI l op n↔hadP l n op a:=by
 unfold hadI hadP;simp only [List.mem_map,List.mem_filter,List.mem_range,decide_eq_true_eq];exact⟨fun⟨j,⟨h1,h2⟩,h3⟩=>⟨j,h1,h2,h3⟩,fun⟨j,h1,h2,h3⟩=>⟨j,⟨h1,h2⟩,h3⟩⟩
theorem zgv{a b:Int}(h:a≠b):Value.int .i64 a≠Value.int .i64 b:=fun e=>h (by cases e;rfl)
theorem zh2{k:Int}:∀{s:List Int},k∉s→MFind (.int .i64 k) (s.map fun a=>(Value.int .i64 a,vB true)) none
 | [],_=>.nil
 | a::r,h=>.miss (zgv fun e=>h (e▸List.mem_cons_self ..)) (zh2 fun hm=>h (List.mem_cons_of_mem _ hm))
theorem zil{k:Int}:∀{s:List Int},k∈s→MFind (.int .i64 k) (s.map fun a=>(Value.int .i64 a,vB true)) (some (vB true))
 | [],h=>by cases h
 | a::r,h=>by
  by_cases e:a=k
  ·subst e;exact .hit
  ·refine .miss (zgv e) (zil ?_);rcases List.mem_cons.1 h with h|h
   ·exact absurd h.symm e
   ·exact h
theorem zgj{k:Int}:∀{s:List Int},k∉s→MPut (.int .i64 k) (vB true) (s.map fun a=>(Value.int .i64 a,vB true)) ((s++[k]).map fun a=>(Value.int .i64 a,vB true))
 | [],_=>.nil
 | a::r,h=>.miss (zgv fun e=>h (e▸List.mem_cons_self ..)) (zgj fun hm=>h (List.mem_cons_of_mem _ hm))
theorem z6z:∀s:List Int,keysB (.int .i64) (s.map fun a=>(Value.int .i64 a,vB true))=true
 | []=>rfl
 | a::r=>by simp only [List.map_cons,keysB,keyB,beq_self_eq_true];exact z6z r
theorem z9z{ws:List Int}{w:Int}(h:∀a∈ws,a=w):anyNe ws w=false:=by
 unfold anyNe;rw [List.any_eq_false];intro a ha;simp [h a ha]
theorem zig{op:List UInt8}(h:op=kInit):MFind (.string ⟨op.toArray⟩) (([(kInit,AV.mp 3),(kNext,AV.mp 4)]:List (List UInt8×AV)).map fun p=>(strK p.1,p.2)) (some (.mp 3)):=by
 subst h;exact .hit
theorem zif{op:List UInt8}(h:op=kNext):MFind (.string ⟨op.toArray⟩) (([(kInit,AV.mp 3),(kNext,AV.mp 4)]:List (List UInt8×AV)).map fun p=>(strK p.1,p.2)) (some (.mp 4)):=by
 subst h;exact .miss (zd7 (by decide)) .hit
theorem zm3(l:List Nd)(hm:MdB l)(hl:l.length≤1000000)(i:Nat)(hi:i<l.length)(hn:∀j,j<l.length→NodeOk (nd l j) ((j:Int)+1))(ty:TyOk l)(s t:List Int)(vh:Value)(hs:s=hadI l kInit i)(ht:t=hadI l kNext i):
  ACall Tryz.prog 92 [.ptr 0 0,.d (eNd (nd l i))] (chkO l i ((i:Int)+1) s t vh) (fun r o=>r=vI .i64 (wN l (nd l i))∧o=chkO l i ((i:Int)+1) (hadI l kInit (i+1)) (hadI l kNext (i+1)) vh):=by
 refine yN Tryz.func92 fun C hC hCl hDs hGk=>?_;have hni:=hn i hi;have hlk:=ty.ln i hi;obtain⟨x,hx⟩:∃x,nd l i=x:=⟨_,rfl⟩
 rw [hx]at hni hlk ⊢;have hS:=hlk.srt;have hask:=hlk.ask;have hI1:x.op≠kInit→hadI l kInit (i+1)=s:=fun h=>by rw [z8d,hx,if_neg h,List.append_nil,hs]
 have hI2:x.op≠kNext→hadI l kNext (i+1)=t:=fun h=>by rw [z8d,hx,if_neg h,List.append_nil,ht]
 have hxa:x.a.length≤4:=by
  rw [hni.al];exact Nat.le_trans List.count_le_length (z8g _)
 have hdl:∀j,j<x.a.length→1≤x.a.getD j 0∧x.a.getD j 0≤i:=fun j hj=>by
  have:=hni.ab _ (z11 0 hj);omega
 have hvl:∀j,j<x.a.length→isVal (ln l (x.a.getD j 0)).op=true:=fun j hj=>hlk.val _ (z11 0 hj)
 have hbd:∀j,j<x.a.length→1≤awN l x j∧awN l x j≤128:=fun j hj=>by
  have hd:=hdl j hj;have hk:=hn (x.a.getD j 0-1).toNat (by omega);have hS2:=zcy hk (ty.ln _ (by omega)) (hvl j hj);refine wd_bd (i:=i) (fun q hq=>hn q (by omega)) hS2 ?_;have h1:=z6h (hvl j hj) hk.known;have h3:(ln l (x.a.getD j 0)).s<(((x.a.getD j 0-1).toNat:Nat):Int)+1:=(hk.s1 h1).2;omega
 have hnb:∀j,j<x.n.length→0≤x.n.getD j 0∧x.n.getD j 0≤128:=fun j hj=>by
  have:=hni.nb _ (z11 0 hj);omega
 have hid:∃id:Int,(i:Int)+1=id:=⟨_,rfl⟩
 obtain⟨id,hid⟩:=hid;rw [hid]at hC ⊢;apply letK (p:=ASat Tryz.prog 92 Tryz.f92.ntmps C _ [(0,.ptr 0 0),(3,.ptr 6 0),(5,.ptr 7 0),(6,.d (.v (.slice none 0 0))),(20,.d (eIs x.a)),(21,vI .i64 (x.a.length:Int)),(22,vI .i64 (0:Nat))] (chkO l i id s t vh++[some (bNd x),some (cI (wOf l x))]) (fun r o=>r=vI .i64 (wN l x)∧o=chkO l i id (hadI l kInit (i+1)) (hadI l kNext (i+1)) vh))
 ·intro key;refine yB Tryz.func92 rfl trivial (fun h=>?_) (fun h=>?_)
  ·have h:decide (x.s>0)=true:=h;rw [decide_eq_true_eq]at h;refine yW [0,1,2,3,4,5] Tryz.func92 rfl trivial (zkn l i id s t vh x (hS h) hl) ⟨⟨_,rfl,.refl _⟩,⟨_,rfl,.refl _⟩,⟨_,rfl,.refl _⟩,⟨_,rfl,.of (z3k _ _).symm⟩,⟨_,rfl,.of (z3k _ _).symm⟩,⟨_,rfl,.refl _⟩,trivial⟩ (.refl _) ?_ (hro:=zw);refine yS Tryz.func92 rfl trivial ?_;refine yE key ⟨erl rfl,erl rfl,erl rfl,erl rfl,erl rfl,⟨_,rfl,.of (by rw [List.length_map])⟩,erl rfl,trivial⟩ ⟨.refl _,.refl _,.refl _,.of (z3k _ _),.of (z3k _ _),.refl _,.refl _,.of ?_,trivial⟩ (hro:=(z4l 2 _).trans rfl);rw [wOf,if_pos h];rfl
  ·have h:decide (x.s>0)=false:=h;rw [decide_eq_false_iff_not]at h;refine yS Tryz.func92 rfl trivial ?_;refine yE key ⟨erl rfl,erl rfl,erl rfl,erl rfl,erl rfl,⟨_,rfl,.of (by rw [List.length_map])⟩,erl rfl,trivial⟩ ⟨.refl _,.refl _,.refl _,.refl _,.refl _,.refl _,.refl _,.of ?_,trivial⟩ (hro:=(z4l 2 _).trans rfl);rw [wOf,if_neg h];rfl
 refine z45 (s:=1) (e:=3) (t:=6) (.inl rfl) (fun i=>eI (([]:List Int).getD i 0)) ?_;refine z8 (α:=Nat) (fun j=>[(0,.ptr 0 0),(3,.ptr 6 0),(5,.ptr 7 0),(6,.gs 8),(20,.d (eIs x.a)),(21,vI .i64 (x.a.length:Int)),(22,vI .i64 (j:Int))]) (fun j=>chkO l i id s t vh++[some (bNd x),some (cI (wOf l x)),some (gIs (aws l x j))]) (fun j=>j≤x.a.length) (fun j=>x.a.length-j) 0 (Nat.zero_le _) ?_ ?_
 ·exact fun h=>yE h (eAl rfl) (oAl rfl) (hro:=(z4l 3 _).trans rfl)
 rintro j hj ih;refine yB Tryz.func92 rfl trivial (fun hb=>?_) (fun hb=>?_)<;>simp only [decide_eq_true_eq,decide_eq_false_iff_not]at hb
 ·have hlt:j<x.a.length:=by omega
  have hd:=hdl j hlt;have hb1:=hbd j hlt;have hv:=hvl j hlt;have hwn:wN l (ln l (x.a.getD j 0))=awN l x j:=by rw [wN,if_pos hv];rfl
  refine yW [0,1,2,3,4,5] Tryz.func92 rfl (by simp [andP]<;>omega) (zj1 l i id s t vh (x.a.getD j 0) hd.1 hd.2 (by omega) (by rw [hwn];omega)) ⟨⟨_,rfl,.refl _⟩,⟨_,rfl,.refl _⟩,⟨_,rfl,.refl _⟩,⟨_,rfl,.of (z3k _ _).symm⟩,⟨_,rfl,.of (z3k _ _).symm⟩,⟨_,rfl,.refl _⟩,trivial⟩ (.refl _) ?_ (hro:=zw);rw [hwn];have hmap:(aws l x j).map eI++[eI (awN l x j)]=(aws l x (j+1)).map eI:=by
   simp [aws,List.range_succ]
  refine yS Tryz.func92 rfl ?_ ?_
  ·show((List.map eI (aws l x j)).length+1)*8≤140737488355328∧True;rw [List.length_map,z1e];exact⟨by omega,trivial⟩
  exact yE (ih (j+1) (by omega) (by omega)) ⟨erl rfl,erl rfl,erl rfl,erl rfl,erl rfl,erl rfl,erw rfl,trivial⟩ ⟨.refl _,.refl _,.refl _,.of ((congrArg (AObj.drop 8) (z3k _ _)).trans (z9w 8 _)),.of ((congrArg (AObj.drop 8) (z3k _ _)).trans (z9w 8 _)),.refl _,.refl _,.refl _,.gL hmap,trivial⟩ (hro:=(z4l 3 _).trans rfl)
 obtain rfl:j=x.a.length:=by omega
 clear ih;refine zj 8 rfl ?_;obtain⟨aw,haw⟩:∃aw,aws l x x.a.length=aw:=⟨_,rfl⟩
 have awl:aw.length=x.a.length:=by rw [←haw,z1e]
 have awg:∀q,q<x.a.length→aw.getD q 0=awN l x q:=fun q hq=>by rw [←haw,z18 hq]
 have awm:∀a∈aw,∃q,q<x.a.length∧a=awN l x q:=fun a ha=>by
  obtain⟨q,hq,rfl⟩:=List.getElem_of_mem ha;refine⟨q,by omega,?_⟩;rw [←awg q (by omega),List.getD_eq_getElem?_getD,List.getElem?_eq_getElem hq];rfl
 have awd:∀a∈aw.drop 1,∃q,1≤q∧q<x.a.length∧a=awN l x q:=fun a ha=>by
  obtain⟨q,hq,rfl⟩:=List.getElem_of_mem ha;rw [List.length_drop]at hq;refine⟨1+q,by omega,by omega,?_⟩;rw [←awg (1+q) (by omega),List.getElem_drop,List.getD_eq_getElem?_getD,List.getElem?_eq_getElem (by omega)];rfl
 rw [haw];refine zt (env':=[(0,.ptr 0 0),(3,.ptr 6 0),(5,.ptr 7 0),(6,.d (eIs aw)),(23,.lit false)]) (objs':=chkO l i id s t vh++[some (bNd x),some (cI (wOf l x))]) ?_ hC hCl ⟨⟨_,rfl,.refl _⟩,⟨_,rfl,.refl _⟩,⟨_,rfl,.refl _⟩,⟨_,rfl,.refl _⟩,⟨_,rfl,.refl _⟩,trivial⟩ ⟨.refl _,.refl _,.refl _,.of (zmk _ _ _),.of (zmk _ _ _),.refl _,.refl _,.refl _,trivial⟩ rfl ((z4l 2 _).trans rfl) (Nat.le_of_ble_eq_true rfl);refine yB Tryz.func92 rfl trivial (fun qSort=>?_) (fun qSort=>?_)<;>rw [show((⟨#[115,111,114,116]⟩:ByteArray))=⟨kSort.toArray⟩from rfl,strB]at qSort<;>simp only [decide_eq_true_eq,decide_eq_false_iff_not]at qSort
 ·refine yL Tryz.func92 rfl trivial (.of ?_) (oAl rfl) ⟨rfl,?_⟩ (hro:=zw) (o2:=chkO l i id s t vh)
  ·rw [wN,if_neg (by rw [qSort];decide)];rfl
  ·rw [hI1 (by rw [qSort];decide),hI2 (by rw [qSort];decide)]
 refine yB Tryz.func92 rfl trivial (fun qConst=>?_) (fun qConst=>?_)<;>rw [show((⟨#[99,111,110,115,116]⟩:ByteArray))=⟨z1a.toArray⟩from rfl,strB]at qConst<;>simp only [decide_eq_true_eq,decide_eq_false_iff_not]at qConst
 ·have hv:isVal x.op=true:=by rw [qConst];decide
  have hs0:0<x.s:=by
   have:=hni.s1 (by rw [qConst];decide);omega
  refine yV Tryz.func92 rfl trivial zq ⟨fun _ _ _ _ _=>.dead,.of ?_,fun _ _ _ _ _=>.dead,trivial⟩ ?_
  ·show vB (((⟨x.t.toArray⟩:ByteArray).size:Int)==wOf l x)=vB true;rw [zp,hask.const qConst,beq_self_eq_true]
  refine yL Tryz.func92 rfl trivial (.of ?_) (oAl rfl) ⟨rfl,?_⟩ (hro:=zw) (o2:=chkO l i id s t vh)
  ·show vI .i64 (wOf l x)=_;rw [wOf,if_pos hs0,wN,if_pos hv]
  ·rw [hI1 (by rw [qConst];decide),hI2 (by rw [qConst];decide)]
 refine yB Tryz.func92 rfl trivial (fun qInput=>?_) (fun qInput=>?_)<;>rw [show((⟨#[105,110,112,117,116]⟩:ByteArray))=⟨zy.toArray⟩from rfl,strB]at qInput<;>simp only [decide_eq_true_eq,decide_eq_false_iff_not]at qInput
 ·have hv:isVal x.op=true:=by rw [qInput];decide
  have hs0:0<x.s:=by
   have:=hni.s1 (by rw [qInput];decide);omega
  refine yV Tryz.func92 rfl trivial zq ⟨fun _ _ _ _ _=>.dead,.of ?_,fun _ _ _ _ _=>.dead,trivial⟩ ?_
  ·rfl
  refine yL Tryz.func92 rfl trivial (.of ?_) (oAl rfl) ⟨rfl,?_⟩ (hro:=zw) (o2:=chkO l i id s t vh)
  ·show vI .i64 (wOf l x)=_;rw [wOf,if_pos hs0,wN,if_pos hv]
  ·rw [hI1 (by rw [qInput];decide),hI2 (by rw [qInput];decide)]
 refine yB Tryz.func92 rfl trivial (fun qState=>?_) (fun qState=>?_)<;>rw [show((⟨#[115,116,97,116,101]⟩:ByteArray))=⟨ze.toArray⟩from rfl,strB]at qState<;>simp only [decide_eq_true_eq,decide_eq_false_iff_not]at qState
 ·have hv:isVal x.op=true:=by rw [qState];decide
  have hs0:0<x.s:=by
   have:=hni.s1 (by rw [qState];decide);omega
  refine yV Tryz.func92 rfl trivial zq ⟨fun _ _ _ _ _=>.dead,.of ?_,fun _ _ _ _ _=>.dead,trivial⟩ ?_
  ·rfl
  refine yL Tryz.func92 rfl trivial (.of ?_) (oAl rfl) ⟨rfl,?_⟩ (hro:=zw) (o2:=chkO l i id s t vh)
  ·show vI .i64 (wOf l x)=_;rw [wOf,if_pos hs0,wN,if_pos hv]
  ·rw [hI1 (by rw [qState];decide),hI2 (by rw [qState];decide)]
 refine yB Tryz.func92 rfl trivial (fun qBad=>?_) (fun qBad=>?_)<;>rw [show((⟨#[98,97,100]⟩:ByteArray))=⟨kBad.toArray⟩from rfl,strB]at qBad<;>simp only [decide_eq_true_eq,decide_eq_false_iff_not]at qBad
 ·have hx1:x.a.length=1:=by rw [hni.al,qBad];decide
  refine yV Tryz.func92 rfl (by simp only [List.length_map,awl,hx1];decide) zq ⟨fun _ _ _ _ _=>.dead,.of ?_,fun _ _ _ _ _=>.dead,trivial⟩ ?_
  ·show vB (aw.getD 0 0==1)=vB true;rw [awg 0 (by omega),hask.bad (.inl qBad)];rfl
  refine yL Tryz.func92 rfl trivial (.of ?_) (oAl rfl) ⟨rfl,?_⟩ (hro:=zw) (o2:=chkO l i id s t vh)
  ·rw [wN,if_neg (by rw [qBad];decide)];rfl
  ·rw [hI1 (by rw [qBad];decide),hI2 (by rw [qBad];decide)]
 refine yB Tryz.func92 rfl trivial (fun qConstraint=>?_) (fun qConstraint=>?_)<;>rw [show((⟨#[99,111,110,115,116,114,97,105,110,116]⟩:ByteArray))=⟨zg.toArray⟩from rfl,strB]at qConstraint<;>simp only [decide_eq_true_eq,decide_eq_false_iff_not]at qConstraint
 ·have hx1:x.a.length=1:=by rw [hni.al,qConstraint];decide
  refine yV Tryz.func92 rfl (by simp only [List.length_map,awl,hx1];decide) zq ⟨fun _ _ _ _ _=>.dead,.of ?_,fun _ _ _ _ _=>.dead,trivial⟩ ?_
  ·show vB (aw.getD 0 0==1)=vB true;rw [awg 0 (by omega),hask.bad (.inr qConstraint)];rfl
  refine yL Tryz.func92 rfl trivial (.of ?_) (oAl rfl) ⟨rfl,?_⟩ (hro:=zw) (o2:=chkO l i id s t vh)
  ·rw [wN,if_neg (by rw [qConstraint];decide)];rfl
  ·rw [hI1 (by rw [qConstraint];decide),hI2 (by rw [qConstraint];decide)]
 refine yB Tryz.func92 rfl trivial (fun qInit=>?_) (fun qInit=>?_)<;>rw [show((⟨#[105,110,105,116]⟩:ByteArray))=⟨kInit.toArray⟩from rfl,strB]at qInit<;>simp only [decide_eq_true_eq,decide_eq_false_iff_not]at qInit
 ·have hx2:x.a.length=2:=by rw [hni.al,qInit];decide
  obtain⟨hsame,hnot⟩:=hask.inx (.inl qInit);have hst:=hlk.st (.inl qInit);have d0:=hdl 0 (by omega);have d1:=hdl 1 (by omega);have e0:IntKind.i64.wrap (x.a.getD 0 0-1)=x.a.getD 0 0-1:=z7 (by omega) (by omega);have e1:IntKind.i64.wrap (x.a.getD 1 0-1)=x.a.getD 1 0-1:=z7 (by omega) (by omega);have hnk:x.a.getD 0 0∉s:=by
   rw [hs,zdq];rw [qInit]at hnot;exact hnot
  refine yO 15 Tryz.func92 rfl trivial ?_;refine yq rfl ?_ ?_
  ·show(0≤IntKind.i64.wrap (x.a.getD 0 0-1)∧IntKind.i64.wrap (x.a.getD 0 0-1)<((l.map eNd).length:Int))∧((0:Int)≤0∧(0:Int)<((x.a.map eI).length:Int))∧True;rw [e0,List.length_map,List.length_map,hx2];exact⟨⟨by omega,by omega⟩,by decide,trivial⟩
  refine yV Tryz.func92 rfl trivial zq ⟨fun _ _ _ _ _=>.dead,.of ?_,fun _ _ _ _ _=>.dead,trivial⟩ ?_
  ·show vB ((⟨(l.getD (IntKind.i64.wrap (x.a.getD 0 0-1)).toNat default).op.toArray⟩:ByteArray).toList==(⟨ze.toArray⟩:ByteArray).toList)=vB true;rw [e0,strB,decide_eq_true hst]
  refine yO 20 Tryz.func92 rfl trivial ?_;refine yb rfl trivial (fun g=>?_) (fun g=>?_)<;>rw [show((⟨#[110,101,120,116]⟩:ByteArray))=⟨kNext.toArray⟩from rfl,strB,qInit]at g
  ·exact absurd g (by decide)
  refine yq rfl ?_ ?_
  ·show(0≤IntKind.i64.wrap (x.a.getD 1 0-1)∧IntKind.i64.wrap (x.a.getD 1 0-1)<((l.map eNd).length:Int))∧((0:Int)≤1∧(1:Int)<((x.a.map eI).length:Int))∧True;rw [e1,List.length_map,List.length_map,hx2];exact⟨⟨by omega,by omega⟩,by decide,trivial⟩
  refine yV Tryz.func92 rfl trivial zq ⟨fun _ _ _ _ _=>.dead,.of ?_,fun _ _ _ _ _=>.dead,trivial⟩ ?_
  ·show vB ((⟨(l.getD (IntKind.i64.wrap (x.a.getD 1 0-1)).toNat default).op.toArray⟩:ByteArray).toList==(⟨z1a.toArray⟩:ByteArray).toList)=vB true;rw [e1,strB,decide_eq_true (hask.ini qInit)]
  refine yW [7] Tryz.func92 rfl trivial (za0 aw (wOf l x) (by omega)) ⟨⟨_,rfl,.refl _⟩,trivial⟩ (.refl _) ?_;refine yV Tryz.func92 rfl trivial zq ⟨fun _ _ _ _ _=>.dead,.of ?_,fun _ _ _ _ _=>.dead,trivial⟩ ?_
  ·show vB (!anyNe aw (wOf l x))=vB true;rw [z9z]
   ·rfl
   intro a ha;obtain⟨q,h2,rfl⟩:=awm a ha;exact hsame q h2
  refine zt (env':=[(0,.ptr 0 0),(3,.ptr 6 0),(5,.ptr 7 0),(6,.d (eIs aw))]) (objs':=chkO l i id s t vh++[some (bNd x),some (cI (wOf l x))]) ?_ hC hCl ⟨⟨_,rfl,.refl _⟩,⟨_,rfl,.refl _⟩,⟨_,rfl,.refl _⟩,⟨_,rfl,.refl _⟩,trivial⟩ ⟨.refl _,.refl _,.refl _,.of (z3j _ _),.of (z3j _ _),.refl _,.refl _,.refl _,trivial⟩ rfl ((z4l 2 _).trans rfl) (Nat.le_of_ble_eq_true rfl);refine yO 14 Tryz.func92 rfl trivial ?_
  iterate 7 refine ds_ok tabOk rfl rfl rfl rfl rfl ?_
  refine z5d tabOk rfl rfl rfl rfl rfl rfl rfl rfl rfl rfl rfl rfl rfl (zig qInit) rfl ?_
  iterate 2 refine ds_ok tabOk rfl rfl rfl rfl rfl ?_
  refine zfq tabOk rfl rfl rfl rfl ⟨Int.le_refl _,by rw [List.length_map,hx2];decide⟩ rfl ?_;refine ds_ok tabOk rfl rfl rfl rfl rfl ?_;refine z5d tabOk rfl rfl rfl rfl rfl rfl rfl rfl rfl rfl rfl rfl (z6z _) (zh2 hnk) rfl ?_;refine yq rfl trivial ?_;refine yV Tryz.func92 rfl trivial zq ⟨fun _ _ _ _ _=>.dead,.of ?_,fun _ _ _ _ _=>.dead,trivial⟩ ?_
  ·rfl
  refine yO 11 Tryz.func92 rfl trivial ?_
  iterate 6 refine ds_ok tabOk rfl rfl rfl rfl rfl ?_
  refine z5d tabOk rfl rfl rfl rfl rfl rfl rfl rfl rfl rfl rfl rfl rfl (zig qInit) rfl ?_
  iterate 2 refine ds_ok tabOk rfl rfl rfl rfl rfl ?_
  refine zfq tabOk rfl rfl rfl rfl ⟨Int.le_refl _,by rw [List.length_map,hx2];decide⟩ rfl ?_;refine ds_ok tabOk rfl rfl rfl rfl rfl ?_;refine yq rfl trivial ?_;refine zc2 tabOk rfl rfl rfl rfl rfl rfl rfl rfl rfl rfl rfl rfl (z6z _) (zgj hnk) ?_;refine yL Tryz.func92 rfl trivial (.of ?_) (oAl rfl) ⟨rfl,?_⟩ (hro:=zw) (o2:=chkO l i id (s++[x.a.getD 0 0]) t vh)
  ·rw [wN,if_neg (by rw [qInit];decide)];rfl
  ·rw [z8d,hx,if_pos qInit,←hs,hI2 (by rw [qInit];decide)]
 refine yB Tryz.func92 rfl trivial (fun qNext=>?_) (fun qNext=>?_)<;>rw [show((⟨#[110,101,120,116]⟩:ByteArray))=⟨kNext.toArray⟩from rfl,strB]at qNext<;>simp only [decide_eq_true_eq,decide_eq_false_iff_not]at qNext
 ·have hx2:x.a.length=2:=by rw [hni.al,qNext];decide
  obtain⟨hsame,hnot⟩:=hask.inx (.inr qNext);have hst:=hlk.st (.inr qNext);have d0:=hdl 0 (by omega);have d1:=hdl 1 (by omega);have e0:IntKind.i64.wrap (x.a.getD 0 0-1)=x.a.getD 0 0-1:=z7 (by omega) (by omega);have e1:IntKind.i64.wrap (x.a.getD 1 0-1)=x.a.getD 1 0-1:=z7 (by omega) (by omega);have hnk:x.a.getD 0 0∉t:=by
   rw [ht,zdq];rw [qNext]at hnot;exact hnot
  refine yO 15 Tryz.func92 rfl trivial ?_;refine yq rfl ?_ ?_
  ·show(0≤IntKind.i64.wrap (x.a.getD 0 0-1)∧IntKind.i64.wrap (x.a.getD 0 0-1)<((l.map eNd).length:Int))∧((0:Int)≤0∧(0:Int)<((x.a.map eI).length:Int))∧True;rw [e0,List.length_map,List.length_map,hx2];exact⟨⟨by omega,by omega⟩,by decide,trivial⟩
  refine yV Tryz.func92 rfl trivial zq ⟨fun _ _ _ _ _=>.dead,.of ?_,fun _ _ _ _ _=>.dead,trivial⟩ ?_
  ·show vB ((⟨(l.getD (IntKind.i64.wrap (x.a.getD 0 0-1)).toNat default).op.toArray⟩:ByteArray).toList==(⟨ze.toArray⟩:ByteArray).toList)=vB true;rw [e0,strB,decide_eq_true hst]
  refine yO 20 Tryz.func92 rfl trivial ?_;refine yb rfl trivial (fun g=>?_) (fun g=>?_)<;>rw [show((⟨#[110,101,120,116]⟩:ByteArray))=⟨kNext.toArray⟩from rfl,strB,qNext]at g;rotate_left
  ·exact absurd g (by decide)
  refine yq rfl trivial ?_;refine yV Tryz.func92 rfl trivial zq ⟨fun _ _ _ _ _=>.dead,.of ?_,fun _ _ _ _ _=>.dead,trivial⟩ ?_
  ·rfl
  refine yW [7] Tryz.func92 rfl trivial (za0 aw (wOf l x) (by omega)) ⟨⟨_,rfl,.refl _⟩,trivial⟩ (.refl _) ?_;refine yV Tryz.func92 rfl trivial zq ⟨fun _ _ _ _ _=>.dead,.of ?_,fun _ _ _ _ _=>.dead,trivial⟩ ?_
  ·show vB (!anyNe aw (wOf l x))=vB true;rw [z9z]
   ·rfl
   intro a ha;obtain⟨q,h2,rfl⟩:=awm a ha;exact hsame q h2
  refine zt (env':=[(0,.ptr 0 0),(3,.ptr 6 0),(5,.ptr 7 0),(6,.d (eIs aw))]) (objs':=chkO l i id s t vh++[some (bNd x),some (cI (wOf l x))]) ?_ hC hCl ⟨⟨_,rfl,.refl _⟩,⟨_,rfl,.refl _⟩,⟨_,rfl,.refl _⟩,⟨_,rfl,.refl _⟩,trivial⟩ ⟨.refl _,.refl _,.refl _,.of (z3j _ _),.of (z3j _ _),.refl _,.refl _,.refl _,trivial⟩ rfl ((z4l 2 _).trans rfl) (Nat.le_of_ble_eq_true rfl);refine yO 14 Tryz.func92 rfl trivial ?_
  iterate 7 refine ds_ok tabOk rfl rfl rfl rfl rfl ?_
  refine z5d tabOk rfl rfl rfl rfl rfl rfl rfl rfl rfl rfl rfl rfl rfl (zif qNext) rfl ?_
  iterate 2 refine ds_ok tabOk rfl rfl rfl rfl rfl ?_
  refine zfq tabOk rfl rfl rfl rfl ⟨Int.le_refl _,by rw [List.length_map,hx2];decide⟩ rfl ?_;refine ds_ok tabOk rfl rfl rfl rfl rfl ?_;refine z5d tabOk rfl rfl rfl rfl rfl rfl rfl rfl rfl rfl rfl rfl (z6z _) (zh2 hnk) rfl ?_;refine yq rfl trivial ?_;refine yV Tryz.func92 rfl trivial zq ⟨fun _ _ _ _ _=>.dead,.of ?_,fun _ _ _ _ _=>.dead,trivial⟩ ?_
  ·rfl
  refine yO 11 Tryz.func92 rfl trivial ?_
  iterate 6 refine ds_ok tabOk rfl rfl rfl rfl rfl ?_
  refine z5d tabOk rfl rfl rfl rfl rfl rfl rfl rfl rfl rfl rfl rfl rfl (zif qNext) rfl ?_
  iterate 2 refine ds_ok tabOk rfl rfl rfl rfl rfl ?_
  refine zfq tabOk rfl rfl rfl rfl ⟨Int.le_refl _,by rw [List.length_map,hx2];decide⟩ rfl ?_;refine ds_ok tabOk rfl rfl rfl rfl rfl ?_;refine yq rfl trivial ?_;refine zc2 tabOk rfl rfl rfl rfl rfl rfl rfl rfl rfl rfl rfl rfl (z6z _) (zgj hnk) ?_;refine yL Tryz.func92 rfl trivial (.of ?_) (oAl rfl) ⟨rfl,?_⟩ (hro:=zw) (o2:=chkO l i id s (t++[x.a.getD 0 0]) vh)
  ·rw [wN,if_neg (by rw [qNext];decide)];rfl
  ·rw [hI1 (by rw [qNext];decide),z8d,hx,if_pos qNext,←ht]
 refine yB Tryz.func92 rfl trivial (fun qRedand=>?_) (fun qRedand=>?_)<;>rw [show((⟨#[114,101,100,97,110,100]⟩:ByteArray))=⟨z1z.toArray⟩from rfl,strB]at qRedand<;>simp only [decide_eq_true_eq,decide_eq_false_iff_not]at qRedand
 ·have hv:isVal x.op=true:=by rw [qRedand];decide
  have hs0:0<x.s:=by
   have:=hni.s1 (by rw [qRedand];decide);omega
  refine yV Tryz.func92 rfl trivial zq ⟨fun _ _ _ _ _=>.dead,.of ?_,fun _ _ _ _ _=>.dead,trivial⟩ ?_
  ·show vB (wOf l x==1)=vB true;rw [hask.red (.inl qRedand)];rfl
  refine yL Tryz.func92 rfl trivial (.of ?_) (oAl rfl) ⟨rfl,?_⟩ (hro:=zw) (o2:=chkO l i id s t vh)
  ·show vI .i64 (wOf l x)=_;rw [wOf,if_pos hs0,wN,if_pos hv]
  ·rw [hI1 (by rw [qRedand];decide),hI2 (by rw [qRedand];decide)]
 refine yB Tryz.func92 rfl trivial (fun qRedor=>?_) (fun qRedor=>?_)<;>rw [show((⟨#[114,101,100,111,114]⟩:ByteArray))=⟨z2l.toArray⟩from rfl,strB]at qRedor<;>simp only [decide_eq_true_eq,decide_eq_false_iff_not]at qRedor
 ·have hv:isVal x.op=true:=by rw [qRedor];decide
  have hs0:0<x.s:=by
   have:=hni.s1 (by rw [qRedor];decide);omega
  refine yV Tryz.func92 rfl trivial zq ⟨fun _ _ _ _ _=>.dead,.of ?_,fun _ _ _ _ _=>.dead,trivial⟩ ?_
  ·show vB (wOf l x==1)=vB true;rw [hask.red (.inr (.inl qRedor))];rfl
  refine yL Tryz.func92 rfl trivial (.of ?_) (oAl rfl) ⟨rfl,?_⟩ (hro:=zw) (o2:=chkO l i id s t vh)
  ·show vI .i64 (wOf l x)=_;rw [wOf,if_pos hs0,wN,if_pos hv]
  ·rw [hI1 (by rw [qRedor];decide),hI2 (by rw [qRedor];decide)]
 refine yB Tryz.func92 rfl trivial (fun qRedxor=>?_) (fun qRedxor=>?_)<;>rw [show((⟨#[114,101,100,120,111,114]⟩:ByteArray))=⟨z1y.toArray⟩from rfl,strB]at qRedxor<;>simp only [decide_eq_true_eq,decide_eq_false_iff_not]at qRedxor
 ·have hv:isVal x.op=true:=by rw [qRedxor];decide
  have hs0:0<x.s:=by
   have:=hni.s1 (by rw [qRedxor];decide);omega
  refine yV Tryz.func92 rfl trivial zq ⟨fun _ _ _ _ _=>.dead,.of ?_,fun _ _ _ _ _=>.dead,trivial⟩ ?_
  ·show vB (wOf l x==1)=vB true;rw [hask.red (.inr (.inr qRedxor))];rfl
  refine yL Tryz.func92 rfl trivial (.of ?_) (oAl rfl) ⟨rfl,?_⟩ (hro:=zw) (o2:=chkO l i id s t vh)
  ·show vI .i64 (wOf l x)=_;rw [wOf,if_pos hs0,wN,if_pos hv]
  ·rw [hI1 (by rw [qRedxor];decide),hI2 (by rw [qRedxor];decide)]
 refine yB Tryz.func92 rfl trivial (fun qEq=>?_) (fun qEq=>?_)<;>rw [show((⟨#[101,113]⟩:ByteArray))=⟨kEq.toArray⟩from rfl,strB]at qEq<;>simp only [decide_eq_true_eq,decide_eq_false_iff_not]at qEq
 ·have hv:isVal x.op=true:=by rw [qEq];decide
  have hs0:0<x.s:=by
   have:=hni.s1 (by rw [qEq];decide);omega
  have hx2:x.a.length=2:=by rw [hni.al,qEq];decide
  obtain⟨hw1,hw2⟩:=hask.cmp (.inl qEq);refine yO 9 Tryz.func92 rfl trivial ?_;refine yb rfl trivial (fun _=>?_) (fun g4=>?_);rotate_left
  ·have g4:(wOf l x==1)=false:=g4;rw [hw1]at g4;cases g4
  refine yq rfl (by first|(simp only [List.length_map,awl,hx2];decide)|simp only [List.length_map,awl,hx2]) ?_;refine yV Tryz.func92 rfl (by first|(simp only [List.length_map,awl,hx2];decide)|simp only [List.length_map,awl,hx2]) zq ⟨fun _ _ _ _ _=>.dead,.of ?_,fun _ _ _ _ _=>.dead,trivial⟩ ?_
  ·show vB (aw.getD 0 0==aw.getD 1 0)=vB true;rw [awg 0 (by omega),awg 1 (by omega),hw2,beq_self_eq_true]
  refine yL Tryz.func92 rfl trivial (.of ?_) (oAl rfl) ⟨rfl,?_⟩ (hro:=zw) (o2:=chkO l i id s t vh)
  ·show vI .i64 (wOf l x)=_;rw [wOf,if_pos hs0,wN,if_pos hv]
  ·rw [hI1 (by rw [qEq];decide),hI2 (by rw [qEq];decide)]
 refine yB Tryz.func92 rfl trivial (fun qUlt=>?_) (fun qUlt=>?_)<;>rw [show((⟨#[117,108,116]⟩:ByteArray))=⟨kUlt.toArray⟩from rfl,strB]at qUlt<;>simp only [decide_eq_true_eq,decide_eq_false_iff_not]at qUlt
 ·have hv:isVal x.op=true:=by rw [qUlt];decide
  have hs0:0<x.s:=by
   have:=hni.s1 (by rw [qUlt];decide);omega
  have hx2:x.a.length=2:=by rw [hni.al,qUlt];decide
  obtain⟨hw1,hw2⟩:=hask.cmp (.inr (.inl qUlt));refine yO 9 Tryz.func92 rfl trivial ?_;refine yb rfl trivial (fun _=>?_) (fun g4=>?_);rotate_left
  ·have g4:(wOf l x==1)=false:=g4;rw [hw1]at g4;cases g4
  refine yq rfl (by first|(simp only [List.length_map,awl,hx2];decide)|simp only [List.length_map,awl,hx2]) ?_;refine yV Tryz.func92 rfl (by first|(simp only [List.length_map,awl,hx2];decide)|simp only [List.length_map,awl,hx2]) zq ⟨fun _ _ _ _ _=>.dead,.of ?_,fun _ _ _ _ _=>.dead,trivial⟩ ?_
  ·show vB (aw.getD 0 0==aw.getD 1 0)=vB true;rw [awg 0 (by omega),awg 1 (by omega),hw2,beq_self_eq_true]
  refine yL Tryz.func92 rfl trivial (.of ?_) (oAl rfl) ⟨rfl,?_⟩ (hro:=zw) (o2:=chkO l i id s t vh)
  ·show vI .i64 (wOf l x)=_;rw [wOf,if_pos hs0,wN,if_pos hv]
  ·rw [hI1 (by rw [qUlt];decide),hI2 (by rw [qUlt];decide)]
 refine yB Tryz.func92 rfl trivial (fun qSlt=>?_) (fun qSlt=>?_)<;>rw [show((⟨#[115,108,116]⟩:ByteArray))=⟨kSlt.toArray⟩from rfl,strB]at qSlt<;>simp only [decide_eq_true_eq,decide_eq_false_iff_not]at qSlt
 ·have hv:isVal x.op=true:=by rw [qSlt];decide
  have hs0:0<x.s:=by
   have:=hni.s1 (by rw [qSlt];decide);omega
  have hx2:x.a.length=2:=by rw [hni.al,qSlt];decide
  obtain⟨hw1,hw2⟩:=hask.cmp (.inr (.inr qSlt));refine yO 9 Tryz.func92 rfl trivial ?_;refine yb rfl trivial (fun _=>?_) (fun g4=>?_);rotate_left
  ·have g4:(wOf l x==1)=false:=g4;rw [hw1]at g4;cases g4
  refine yq rfl (by first|(simp only [List.length_map,awl,hx2];decide)|simp only [List.length_map,awl,hx2]) ?_;refine yV Tryz.func92 rfl (by first|(simp only [List.length_map,awl,hx2];decide)|simp only [List.length_map,awl,hx2]) zq ⟨fun _ _ _ _ _=>.dead,.of ?_,fun _ _ _ _ _=>.dead,trivial⟩ ?_
  ·show vB (aw.getD 0 0==aw.getD 1 0)=vB true;rw [awg 0 (by omega),awg 1 (by omega),hw2,beq_self_eq_true]
  refine yL Tryz.func92 rfl trivial (.of ?_) (oAl rfl) ⟨rfl,?_⟩ (hro:=zw) (o2:=chkO l i id s t vh)
  ·show vI .i64 (wOf l x)=_;rw [wOf,if_pos hs0,wN,if_pos hv]
  ·rw [hI1 (by rw [qSlt];decide),hI2 (by rw [qSlt];decide)]
 refine yB Tryz.func92 rfl trivial (fun qConcat=>?_) (fun qConcat=>?_)<;>rw [show((⟨#[99,111,110,99,97,116]⟩:ByteArray))=⟨z1b.toArray⟩from rfl,strB]at qConcat<;>simp only [decide_eq_true_eq,decide_eq_false_iff_not]at qConcat
 ·have hv:isVal x.op=true:=by rw [qConcat];decide
  have hs0:0<x.s:=by
   have:=hni.s1 (by rw [qConcat];decide);omega
  have hx2:x.a.length=2:=by rw [hni.al,qConcat];decide
  have b0:=hbd 0 (by omega);have b1:=hbd 1 (by omega);refine yO 8 Tryz.func92 rfl trivial ?_;refine yq rfl (by first|(simp only [List.length_map,awl,hx2];decide)|simp only [List.length_map,awl,hx2]) ?_;refine yV Tryz.func92 rfl trivial zq ⟨fun _ _ _ _ _=>.dead,.of ?_,fun _ _ _ _ _=>.dead,trivial⟩ ?_
  ·show vB (wOf l x==IntKind.i64.wrap (aw.getD 0 0+aw.getD 1 0))=vB true;rw [awg 0 (by omega),awg 1 (by omega),z7 (by omega) (by omega),hask.cat qConcat,beq_self_eq_true]
  refine yL Tryz.func92 rfl trivial (.of ?_) (oAl rfl) ⟨rfl,?_⟩ (hro:=zw) (o2:=chkO l i id s t vh)
  ·show vI .i64 (wOf l x)=_;rw [wOf,if_pos hs0,wN,if_pos hv]
  ·rw [hI1 (by rw [qConcat];decide),hI2 (by rw [qConcat];decide)]
 refine yB Tryz.func92 rfl trivial (fun qIte=>?_) (fun qIte=>?_)<;>rw [show((⟨#[105,116,101]⟩:ByteArray))=⟨kIte.toArray⟩from rfl,strB]at qIte<;>simp only [decide_eq_true_eq,decide_eq_false_iff_not]at qIte
 ·have hv:isVal x.op=true:=by rw [qIte];decide
  have hs0:0<x.s:=by
   have:=hni.s1 (by rw [qIte];decide);omega
  have hx3:x.a.length=3:=by rw [hni.al,qIte];decide
  obtain⟨w0,w1,w2⟩:=hask.ite qIte;refine yB Tryz.func92 rfl (by simp only [List.length_map,awl,hx3];decide) (fun g4=>?_) (fun g4=>?_);rotate_left
  ·have g4:(aw.getD 0 0==1)=false:=g4;rw [awg 0 (by omega),w0]at g4;cases g4
  refine yW [7] Tryz.func92 rfl (by simp only [List.length_map,awl,hx3];decide) (za0 (aw.drop 1) (wOf l x) (by rw [List.length_drop];omega)) ⟨⟨_,rfl,.refl _⟩,trivial⟩ ⟨.eL ?_,.refl _,trivial⟩ ?_
  ·show List.take _ (List.drop 1 (aw.map eI))=_;rw [←List.map_drop];exact List.take_of_length_le (by rw [List.length_map,List.length_map,List.length_drop];omega)
  refine yV Tryz.func92 rfl trivial zq ⟨fun _ _ _ _ _=>.dead,.of ?_,fun _ _ _ _ _=>.dead,trivial⟩ ?_
  ·show vB (!anyNe (aw.drop 1) (wOf l x))=vB true;rw [z9z]
   ·rfl
   intro a ha;obtain⟨q,h1,h2,rfl⟩:=awd a ha;have:q=1∨q=2:=by omega
   rcases this with rfl|rfl
   ·exact w1
   ·exact w2
  refine yL Tryz.func92 rfl trivial (.of ?_) ⟨.refl _,.refl _,.refl _,.of (z3j _ _),.of (z3j _ _),.refl _,trivial⟩ ⟨rfl,?_⟩ (hro:=zw) (o2:=chkO l i id s t vh)
  ·show vI .i64 (wOf l x)=_;rw [wOf,if_pos hs0,wN,if_pos hv]
  ·rw [hI1 (by rw [qIte];decide),hI2 (by rw [qIte];decide)]
 refine yB Tryz.func92 rfl trivial (fun qSlice=>?_) (fun qSlice=>?_)<;>rw [show((⟨#[115,108,105,99,101]⟩:ByteArray))=⟨z1p.toArray⟩from rfl,strB]at qSlice<;>simp only [decide_eq_true_eq,decide_eq_false_iff_not]at qSlice
 ·have hv:isVal x.op=true:=by rw [qSlice];decide
  have hs0:0<x.s:=by
   have:=hni.s1 (by rw [qSlice];decide);omega
  have hx1:x.a.length=1:=by rw [hni.al,qSlice];decide
  have hn2:x.n.length=2:=by rw [hni.nl,qSlice];decide
  have b0:=hbd 0 (by omega);have m0:=hnb 0 (by omega);have m1:=hnb 1 (by omega);obtain⟨w0,w1,w2⟩:=hask.slice qSlice;have e9:IntKind.i64.wrap (x.n.getD 0 0-x.n.getD 1 0)=x.n.getD 0 0-x.n.getD 1 0:=z7 (by omega) (by omega);refine yO 9 Tryz.func92 rfl trivial ?_;refine yq rfl (by simp only [List.length_map,hn2];decide) ?_;refine yB Tryz.func92 rfl (by first|trivial|(simp only [List.length_map,hn2];decide)) (fun g4=>?_) (fun g4=>?_);rotate_left
  ·have g4:decide (x.n.getD 1 0≤x.n.getD 0 0)=false:=g4;rw [decide_eq_true w0]at g4;cases g4
  refine yB Tryz.func92 rfl (by simp only [List.length_map,awl,hx1];decide) (fun g5=>?_) (fun g5=>?_);rotate_left
  ·have g5:decide (x.n.getD 0 0<aw.getD 0 0)=false:=g5;rw [awg 0 (by omega),decide_eq_true w1]at g5;cases g5
  refine yV Tryz.func92 rfl trivial zq ⟨fun _ _ _ _ _=>.dead,.of ?_,fun _ _ _ _ _=>.dead,trivial⟩ ?_
  ·show vB (wOf l x==IntKind.i64.wrap (IntKind.i64.wrap (x.n.getD 0 0-x.n.getD 1 0)+1))=vB true;rw [e9,z7 (by omega) (by omega),w2,beq_self_eq_true]
  refine yL Tryz.func92 rfl trivial (.of ?_) (oAl rfl) ⟨rfl,?_⟩ (hro:=zw) (o2:=chkO l i id s t vh)
  ·show vI .i64 (wOf l x)=_;rw [wOf,if_pos hs0,wN,if_pos hv]
  ·rw [hI1 (by rw [qSlice];decide),hI2 (by rw [qSlice];decide)]
 refine yB Tryz.func92 rfl trivial (fun qUext=>?_) (fun qUext=>?_)<;>rw [show((⟨#[117,101,120,116]⟩:ByteArray))=⟨kUext.toArray⟩from rfl,strB]at qUext<;>simp only [decide_eq_true_eq,decide_eq_false_iff_not]at qUext
 ·have hv:isVal x.op=true:=by rw [qUext];decide
  have hs0:0<x.s:=by
   have:=hni.s1 (by rw [qUext];decide);omega
  have hx1:x.a.length=1:=by rw [hni.al,qUext];decide
  have hn1:x.n.length=1:=by rw [hni.nl,qUext];decide
  have b0:=hbd 0 (by omega);have m0:=hnb 0 (by omega);refine yO 9 Tryz.func92 rfl trivial ?_;refine yq rfl (by simp only [List.length_map,awl,hx1,hn1];decide) ?_;refine yV Tryz.func92 rfl trivial zq ⟨fun _ _ _ _ _=>.dead,.of ?_,fun _ _ _ _ _=>.dead,trivial⟩ ?_
  ·show vB (wOf l x==IntKind.i64.wrap (aw.getD 0 0+x.n.getD 0 0))=vB true;rw [awg 0 (by omega),z7 (by omega) (by omega),hask.ext (.inl qUext),beq_self_eq_true]
  refine yL Tryz.func92 rfl trivial (.of ?_) (oAl rfl) ⟨rfl,?_⟩ (hro:=zw) (o2:=chkO l i id s t vh)
  ·show vI .i64 (wOf l x)=_;rw [wOf,if_pos hs0,wN,if_pos hv]
  ·rw [hI1 (by rw [qUext];decide),hI2 (by rw [qUext];decide)]
 refine yB Tryz.func92 rfl trivial (fun qSext=>?_) (fun qSext=>?_)<;>rw [show((⟨#[115,101,120,116]⟩:ByteArray))=⟨kSext.toArray⟩from rfl,strB]at qSext<;>simp only [decide_eq_true_eq,decide_eq_false_iff_not]at qSext
 ·have hv:isVal x.op=true:=by rw [qSext];decide
  have hs0:0<x.s:=by
   have:=hni.s1 (by rw [qSext];decide);omega
  have hx1:x.a.length=1:=by rw [hni.al,qSext];decide
  have hn1:x.n.length=1:=by rw [hni.nl,qSext];decide
  have b0:=hbd 0 (by omega);have m0:=hnb 0 (by omega);refine yO 9 Tryz.func92 rfl trivial ?_;refine yq rfl (by simp only [List.length_map,awl,hx1,hn1];decide) ?_;refine yV Tryz.func92 rfl trivial zq ⟨fun _ _ _ _ _=>.dead,.of ?_,fun _ _ _ _ _=>.dead,trivial⟩ ?_
  ·show vB (wOf l x==IntKind.i64.wrap (aw.getD 0 0+x.n.getD 0 0))=vB true;rw [awg 0 (by omega),z7 (by omega) (by omega),hask.ext (.inr qSext),beq_self_eq_true]
  refine yL Tryz.func92 rfl trivial (.of ?_) (oAl rfl) ⟨rfl,?_⟩ (hro:=zw) (o2:=chkO l i id s t vh)
  ·show vI .i64 (wOf l x)=_;rw [wOf,if_pos hs0,wN,if_pos hv]
  ·rw [hI1 (by rw [qSext];decide),hI2 (by rw [qSext];decide)]
 have hd:sameP l x:=hask.dflt fun k hk=>by
  simp only [List.mem_cons,List.not_mem_nil,or_false]at hk;rcases hk with rfl|rfl|rfl|rfl|rfl|rfl|rfl|rfl|rfl|rfl|rfl|rfl|rfl|rfl|rfl|rfl|rfl|rfl|rfl<;>assumption
 have hv:isVal x.op=true:=by
  unfold isVal;rw [decide_eq_false qSort,decide_eq_false qInit,decide_eq_false qNext,decide_eq_false qBad,decide_eq_false qConstraint];rfl
 have hs0:0<x.s:=by
  have:=hni.s1 (z6h hv hni.known);omega
 refine yW [7] Tryz.func92 rfl trivial (za0 aw (wOf l x) (by omega)) ⟨⟨_,rfl,.refl _⟩,trivial⟩ (.refl _) ?_;refine yV Tryz.func92 rfl trivial zq ⟨fun _ _ _ _ _=>.dead,.of ?_,fun _ _ _ _ _=>.dead,trivial⟩ ?_
 ·show vB (!anyNe aw (wOf l x))=vB true;rw [z9z]
  ·rfl
  intro a ha;obtain⟨q,h2,rfl⟩:=awm a ha;exact hd q h2
 refine yL Tryz.func92 rfl trivial (.of ?_) ⟨.refl _,.refl _,.refl _,.of (z3j _ _),.of (z3j _ _),.refl _,trivial⟩ ⟨rfl,?_⟩ (hro:=zw) (o2:=chkO l i id s t vh)
 ·show vI .i64 (wOf l x)=_;rw [wOf,if_pos hs0,wN,if_pos hv]
 ·rw [hI1 (by assumption),hI2 (by assumption)]
end Go.Proofs.YtbodbhpdelgpnaaGreatDoor
namespace Ab
open Go
variable [Draws]
section
variable {P:Program}[Globals P]{T:Tab}{f:FuncId}{fn:Func}{n m:Nat}{C:Cx}{R:AV→List (Option AObj)→Prop}{todo todo' k:List Item}{env env0 env' envF:Env}{objs objs':List (Option AObj)}{nd:Prop}{ops:Array Oper}{l:List Oper}{K:Env→Prop}{X:Nat→Prop}
def LiveT(ops:Array Oper)(m:Nat)(L:List Nat)(t:Tmp):Prop:=(∃q∈L,∃o,ops[q]?=some o∧o.dst=some t)∨∀j,j<m→dstIs ops j t=false
structure StepX(X:Nat→Prop)(O:List Nat→List (Option AObj))(m:Nat)(ops:Array Oper)(envF:Env)(L:List Nat)(j:Nat)(π:List Value)(w:World)(π':List Value)(w2:World):Prop where
 mem:Mem X π' (O (j::L)) w2
 hist:Hist π (O L) w π' (O (j::L)) w2
 keep:∀t a v,look envF t=some a→LiveT ops m L t→RelV w (okOf X π (O L)) π a v→RelV w2 (okOf X π' (O (j::L))) π' a v
def HeadX(P:Program)[Globals P](n:Nat)(X:Nat→Prop)(O:List Nat→List (Option AObj))(m:Nat)(ops:Array Oper)(envF:Env)(j:Nat)(o:Oper):Prop:=
 ∀L,(∀q∈L,q<m)→j∉L→(∀q,zv ops j q=true→q∈L)→(∀q∈L,∀q',zv ops q q'=true→q'∈L)→∀π w tmps,tmps.size=n→Mem X π (O L) w→GOk P π (O L) w→(∀t∈o.looksAt ops,∀a,look envF t=some a→RelV w (okOf X π (O L)) π a (tmps.getD t undef)) →
  (Region.wanted o (yielded ops tmps)=false∧∃π',StepX X O m ops envF L j π w π' w∧PutOk n w (okOf X π' (O (j::L))) π' envF o undef) ∨
  (Region.wanted o (yielded ops tmps)=true ∧
   ((∃v w2 π',(execOp (Act.eval ⟨tmps,[]⟩) o).run P w=.ok (.value v) w2∧StepX X O m ops envF L j π w π' w2∧PutOk n w2 (okOf X π' (O (j::L))) π' envF o v) ∨
    (∃w2 π',(execOp (Act.eval ⟨tmps,[]⟩) o).run P w=.ok .skip w2∧StepX X O m ops envF L j π w π' w2∧PutOk n w2 (okOf X π' (O (j::L))) π' envF o undef) ∨
    (∃g args,(execOp (Act.eval ⟨tmps,[]⟩) o).run P w=.ok (.enter g args) w∧Calls P g args w fun e w2=>∃v π',e=.returned v∧StepX X O m ops envF L j π w π' w2∧PutOk n w2 (okOf X π' (O (j::L))) π' envF o v)))
theorem z9f{O:List Nat→List (Option AObj)}{objsF:List (Option AObj)}(hmx:P.follows .mixedOrders=true)(hB:drawB ops m=true)(hops:∀j o,j<m→ops[j]?=some o→HeadX P n C.X O m ops envF j o)
  (hO0:O []=objs) (hOF:∀L,(∀i,i<m→i∈L)→O L=objsF)
  (henv:∀t,(∀j,j<m→dstIs ops j t=false)→∀a,look envF t=some a→∃b,look env0 t=some b∧VLe b a)
  (hK:ASat P f n C (.inRegion ops (List.range' m (ops.size-m))::k) envF objsF R) {id:Nat} (hGk:GOk P C.π C.objs C.w:=by with_reducible assumption):ASat P f n C (.code (.region id ops true)::k) env0 objs R:=by
 simp only [drawB,Bool.and_eq_true,decide_eq_true_eq]at hB;obtain⟨⟨⟨⟨hms,hback⟩,hsink⟩,hchain⟩,hap⟩:=hB;have hap:∀j o,j<m→ops[j]?=some o→(∀k,k<m→k≠j→∀d,o.dst=some d→dstIs ops k d=false)∧∀k,k<m→∀t∈o.looksAt ops,dstIs ops k t=true→zv ops j k=true:=by
  intro j o hj ho;have h1:=List.all_eq_true.1 hap j (List.mem_range.2 hj);rw [ho]at h1;have h2:∀k,k<m→((decide (k=j)||z3l ops o k)=true∧(o.looksAt ops).all (fun t=>!dstIs ops k t||zv ops j k)=true):=fun k hk=>by
   have:=List.all_eq_true.1 h1 k (List.mem_range.2 hk);simpa only [Bool.and_eq_true]using this
  refine⟨fun k hk hne d hd=>?_,fun k hk t ht hd=>?_⟩
  ·have:=(h2 k hk).1;unfold z3l at this;rw [hd]at this;simpa [hne]using this
  ·have:=List.all_eq_true.1 (h2 k hk).2 t ht;simpa [hd]using this
 intro π w tmps0 hn hm hh he;have hl1:Later w { w with drawn:=w.drawn+1 }:=⟨rfl,rfl,⟨rfl,z17 (Nat.le_succ _)⟩,Nat.le_refl _,fun _ _=>rfl⟩
 have htr1:=hl1.tr hm;have key:∀(fuel t:Nat) (listed:Array Bool) (L:List Nat) (tmps:Array Value) (w':World) (π:List Value),Lst ops m L listed→L.length+fuel=ops.size→Mem C.X π (O L) w'→Hist C.π C.objs C.w π (O L) w'→tmps.size=n →
   (∀j∈L,∀o,ops[j]?=some o→∀d,o.dst=some d→∃b,look envF d=some b∧RelV w' (okOf C.X π (O L)) π b (tmps.getD d undef)) →
   (∀t,(∀j,j<m→dstIs ops j t=false)→∀a,look envF t=some a→RelV w' (okOf C.X π (O L)) π a (tmps.getD t undef)) →
   Sat P f C.ds (.inRegion ops (Region.linearise.go .any ops fuel t listed [])::k) tmps w' (APost C R):=by
  intro fuel;induction fuel with
  | zero=>
   intro t listed L tmps w' π hL hlen _ _ _ _ _;have:=z1m hL.nd (b:=List.range m) fun y hy=>List.mem_range.2 (hL.lt y hy)
   rw [List.length_range]at this;omega
  | succ fuel ih=>
   intro t listed L tmps w' π hL hlen hm hh hsz hdone hrest;have hLm:=z1m hL.nd (b:=List.range m) fun y hy=>List.mem_range.2 (hL.lt y hy)
   rw [List.length_range]at hLm;by_cases hall:∀i,i<m→i∈L
   ·have hml:=z1m (List.nodup_range (n:=m)) (b:=L) fun y hy=>hall y (List.mem_range.1 hy)
    rw [List.length_range]at hml;have hfu:fuel+1=ops.size-m:=by omega
    rw [hfu];have hg:=z73 hback hchain (ops.size-m) t listed (.inl (by omega)) (by omega) hL.size (fun i hi=>by
     rw [hL.mem i hi,show ops.size-(ops.size-m)=m by omega];exact⟨fun h=>hL.lt i h,fun h=>hall i h⟩)
    rw [hg,show ops.size-(ops.size-m)=m by omega];rw [hOF L hall]at hm hh hdone hrest;refine hK π w' tmps hsz hm hh fun u a hu=>?_;by_cases hd:∃j,j<m∧dstIs ops j u=true
    ·obtain⟨j,hj,hd⟩:=hd;obtain⟨o,ho,hdo⟩:=zh.1 hd;obtain⟨b,hb,hr⟩:=hdone j (hall j hj) o ho u hdo;rw [hu]at hb;cases hb;exact hr
    ·have hd':∀j,j<m→dstIs ops j u=false:=fun j hj=>by
      cases hx:dstIs ops j u with
      | false=>rfl
      | true=>exact absurd ⟨j,hj,hx⟩ hd
     exact hrest u hd' a hu
   ·have hex:∃i,i∈Region.ready .any ops listed:=by
     have hmin:∀q i,i≤q→i<m→i∉L→∃j,j<m∧j∉L∧∀j',j'<j→j'∈L:=by
      intro q;induction q with
      | zero=>intro i hi hm hL;exact⟨i,hm,hL,by omega⟩
      | succ q ihq=>
       intro i hi him hiL;by_cases hx:∃j',j'<i∧j'∉L
       ·obtain⟨j',h1,h2⟩:=hx;exact ihq j' (by omega) (by omega) h2
       ·exact⟨i,him,hiL,fun j' hj'=>Decidable.byContradiction fun h2=>hx ⟨j',hj',h2⟩⟩
     obtain⟨i,hi⟩:=Classical.not_forall.1 hall;have hi1:i<m:=Classical.byContradiction fun h=>hi fun h2=>absurd h2 h
     have hi2:i∉L:=fun h=>hi fun _=>h
     obtain⟨j,h1,h2,h3⟩:=hmin i i (Nat.le_refl _) hi1 hi2;refine⟨j,(z1v (by omega) hL).2 ⟨by omega,h2,ops[j],Array.getElem?_eq_getElem (by omega),fun e hee hb=>?_⟩⟩;have hlt:=z2g hback (Array.getElem?_eq_getElem (by omega:j<ops.size)) hee hb;exact(hL.mem e.on (by omega)).2 (h3 e.on hlt)
    rw [z8x];have hlen2:0<(Region.ready .any ops listed).length:=List.length_pos_of_mem hex.choose_spec;have hmod:t%(Region.ready .any ops listed).length<(Region.ready .any ops listed).length:=Nat.mod_lt _ hlen2;rw [List.getElem?_eq_getElem hmod];simp only;have hir:(Region.ready .any ops listed)[t%(Region.ready .any ops listed).length]∈Region.ready .any ops listed:=List.getElem_mem hmod;generalize (Region.ready .any ops listed)[t%(Region.ready .any ops listed).length]=i at hir;have him:i<m:=by
     apply Classical.byContradiction;intro hge;exact hall (z5f (by omega) hsink hback hL (by omega) hchain hir).2
    obtain⟨his,hiL,o,ho,hdeps⟩:=(z1v (by omega) hL).1 hir;obtain⟨ha1,ha2⟩:=hap i o him ho;have hlooks:∀u∈o.looksAt ops,∀a,look envF u=some a→RelV w' (okOf C.X π (O L)) π a (tmps.getD u undef):=by
     intro u hu a hua;by_cases hd:∃j,j<m∧dstIs ops j u=true
     ·obtain⟨j,hj,hd⟩:=hd;have hw:=ha2 j hj u hu hd;obtain⟨o2,ho2,e,hee,hb,heq⟩:=zz hw;rw [ho]at ho2;cases ho2;have hjL:=z1f hL (hdeps e hee hb);rw [heq]at hjL;obtain⟨oj,hoj,hdj⟩:=zh.1 hd;obtain⟨b,hb2,hr⟩:=hdone j hjL oj hoj u hdj;rw [hua]at hb2;cases hb2;exact hr
     ·have hd':∀j,j<m→dstIs ops j u=false:=fun j hj=>by
       cases hx:dstIs ops j u with
       | false=>rfl
       | true=>exact absurd ⟨j,hj,hx⟩ hd
      exact hrest u hd' a hua
    have hL':Lst ops m (i::L) (listed.setIfInBounds i true):=by
     refine⟨by simpa using hL.size,fun j hj=>?_,List.nodup_cons.2 ⟨hiL,hL.nd⟩,fun j hj=>?_,fun j hj oj hoj e hee hb=>?_⟩
     ·by_cases e:i=j
      ·subst e;rw [show(listed.setIfInBounds i true).getD i false=true by simp [hL.size,hj]];simp
      ·rw [show(listed.setIfInBounds i true).getD j false=listed.getD j false by simp [Array.getElem?_setIfInBounds,e]];rw [hL.mem j hj,List.mem_cons];exact⟨.inr,fun h=>h.resolve_left fun h2=>e h2.symm⟩
     ·rcases List.mem_cons.1 hj with rfl|hj
      ·exact him
      ·exact hL.lt j hj
     ·rcases List.mem_cons.1 hj with rfl|hj
      ·rw [ho]at hoj;cases hoj;exact List.mem_cons_of_mem _ (z1f hL (hdeps e hee hb))
      ·exact List.mem_cons_of_mem _ (hL.cl j hj oj hoj e hee hb)
    have hdeps2:∀q,zv ops i q=true→q∈L:=by
     intro q hq;obtain⟨o2,ho2,e,hee,hb,heq⟩:=zz hq;rw [ho]at ho2;cases ho2;rw [←heq];exact z1f hL (hdeps e hee hb)
    have hcl2:∀q∈L,∀q',zv ops q q'=true→q'∈L:=by
     intro q hqL q' hq;obtain⟨o2,ho2,e,hee,hb,heq⟩:=zz hq;rw [←heq];exact hL.cl q hqL o2 ho2 e hee hb
    have next:∀(v:Value) (w2:World) (π':List Value),StepX C.X O m ops envF L i π w' π' w2→PutOk n w2 (okOf C.X π' (O (i::L))) π' envF o v→Sat P f C.ds (.inRegion ops (Region.linearise.go .any ops fuel (t / (Region.ready .any ops listed).length) (listed.setIfInBounds i true) [])::k) (putT o.dst v tmps) w2 (APost C R):=by
     intro v w2 π' hst hput;refine ih _ _ (i::L) _ w2 π' hL' (by simp only [List.length_cons];omega) hst.mem (hh.trans hst.hist) ?_ ?_ ?_
     ·cases hd:o.dst with
      | none=>exact hsz
      | some d=>simpa [putT]using hsz
     ·intro j hj0 oj hoj d hd;rcases List.mem_cons.1 hj0 with e|hj
      ·subst e;rw [ho]at hoj;cases hoj;obtain⟨h1,b,h2,h3⟩:=hput d hd;refine⟨b,h2,?_⟩;rw [hd,z1l,if_pos ⟨rfl,by rw [hsz];exact h1⟩];exact h3
      ·obtain⟨b,h2,h3⟩:=hdone j hj oj hoj d hd;refine⟨b,h2,?_⟩;have hne:∀d',o.dst=some d'→d'≠d:=by
        rintro d' hd' rfl;have:=ha1 j (hL.lt j hj) (fun e=>hiL (e▸hj)) d' hd';rw [zh.2 ⟨oj,hoj,hd⟩]at this;cases this
       cases hdo:o.dst with
       | none=>exact hst.keep _ _ _ h2 (.inl ⟨j,hj,oj,hoj,hd⟩) h3
       | some d'=>
        rw [z1l,if_neg fun hh=>hne d' hdo hh.1];exact hst.keep _ _ _ h2 (.inl ⟨j,hj,oj,hoj,hd⟩) h3
     ·intro u hu a hua;have h3:=hst.keep _ _ _ hua (.inr hu) (hrest u hu a hua);cases hdo:o.dst with
      | none=>exact h3
      | some d'=>
       rw [z1l,if_neg fun hh=>?_]
       ·exact h3
       ·have:=hu i him;rw [zh.2 ⟨o,ho,by rw [hdo,hh.1]⟩]at this;cases this
    rcases hops i o him ho L (fun q hq=>hL.lt q hq) hiL hdeps2 hcl2 π w' tmps hsz hm (hGk.hist hh) hlooks with⟨hw,hput⟩|⟨hw,⟨v,w2,π',hrun,hst,hput⟩|⟨w2,π',hrun,hst,hput⟩|⟨g,args,hrun,hcall⟩⟩
    ·obtain⟨π',hst,hput⟩:=hput;exact .opSkip ho hw (next undef w' π' hst hput)
    ·exact .opVal ho hw hrun (next v w2 π' hst hput)
    ·exact .opUnit ho hw hrun (next undef w2 π' hst hput)
    ·exact .opCall ho hw hrun (hcall.mono fun e w2 ⟨v,π',h1,h2,h3⟩=>⟨v,h1,next v w2 π' h2 h3⟩)
 refine .step (fun kd cs=>z60) ?_;simp only [Region.schedule,hmx,Bool.true_or,if_true];subst hO0;refine key ops.size _ _ [] tmps0 _ π ⟨by simp,fun i hi=>?_,List.nodup_nil,by simp,by simp⟩ (by simp) htr1.mem (z22 hh htr1) hn (by simp) (fun u hu a hua=>?_)
 ·simp [hi]
 ·obtain⟨b,hb,hle⟩:=henv u hu a hua;exact z2a hl1 (hle _ _ _ _ (he u b hb))
end
end Ab
namespace Ab
open Go
variable [Draws]
section
variable {P:Program}[Globals P]{T:Tab}{f:FuncId}{fn:Func}{n m:Nat}{C:Cx}{R:AV→List (Option AObj)→Prop}{todo todo' k:List Item}{env env0 env' envF:Env}{objs objs' objs1 objs2:List (Option AObj)}{nd:Prop}{ops:Array Oper}{l:List Oper}{K:Env→Prop}{X:Nat→Prop}{O:List Nat→List (Option AObj)}
theorem z2p{L:List Nat}{j:Nat}(hO:O (j::L)=O L){π:List Value}{w w2:World}(hm:Mem X π (O L) w)(l:Later w w2):StepX X O m ops envF L j π w π w2:=by
 have htr:=l.tr hm;refine⟨by rw [hO];exact htr.mem,by rw [hO];exact htr.hist,fun t a v _ _ h=>?_⟩;rw [hO];exact z2a l h
theorem zpb{j:Nat}{o:Oper}(hO:∀L,O (j::L)=O L)(h:∀L,z36 P n X (O L) ops envF o):HeadX P n X O m ops envF j o:=by
 intro L _ _ _ _ π w tmps hs hm hgk hl;rcases h L π w tmps hs hm hgk hl with⟨hw,hp⟩|⟨hw,⟨v,w2,hr,hlt,hp⟩|⟨g,args,hr,hc⟩⟩
 ·exact .inl ⟨hw,π,z2p (hO L) hm (.refl w),by rw [hO];exact hp⟩
 ·exact .inr ⟨hw,.inl ⟨v,w2,π,hr,z2p (hO L) hm hlt,by rw [hO];exact hp⟩⟩
 ·refine .inr ⟨hw,.inr (.inr ⟨g,args,hr,hc.mono fun e w2 ⟨v,h1,h2,h3⟩=>⟨v,π,h1,z2p (hO L) hm h2,by rw [hO];exact h3⟩⟩)⟩
theorem zfi{j:Nat}{o:Oper}{E:Env}{a:AV}{c:Option Prop}{d:Nat}(hT:TabOk P T)(hw:wantE ops (restr E (o.looksAt ops)) o=.yes)(hE:∀t∈o.looksAt ops,∀b,look E t=some b→look envF t=some b)
  (hs:∀L,estep T o (restr E (o.looksAt ops)) (O L)=some ⟨c,false,a,none,O L⟩) (hO:∀L,O (j::L)=O L) (hc:cond c) (hdst:o.dst=some d) (hdn:Nat.blt d n=true) (hlook:look envF d=some a):HeadX P n X O m ops envF j o:=by
 intro L _ hjL _ _ π w tmps hsz hm hgk hlk;have he:z13 w (okOf X π (O L)) π (restr E (o.looksAt ops)) tmps:=fun t b ht=>by
  obtain⟨h1,h2⟩:=z12 ht;exact hlk t h1 b (hE t h1 b h2)
 have hst:=z3v (ds:=[]) hT hm he o;rw [hs L]at hst;obtain⟨v,w',π',h1,h2,h3⟩:=hst hc;refine .inr ⟨(zm he).1 hw,.inl ⟨v,w',π',h1,⟨by rw [hO];exact h2.mem,by rw [hO];exact h2.hist,fun t a u _ _ hu=>by rw [hO];exact h2.keep _ _ hu⟩,fun d' hd=>?_⟩⟩;rw [hdst]at hd;cases hd;refine⟨by simpa [Nat.blt_eq]using hdn,a,hlook,by rw [hO];exact h3 rfl⟩
theorem zgw{π:List Value}{objs:List (Option AObj)}{w:World}(hm:Mem X π objs w){p i:Nat}{vh:Value}(hh:nth objs p=some (some (.hold (.gs i) vh))):RelV w (okOf X π objs) π (.gs i) vh:=by
 obtain⟨h,hp,hr⟩:=hm.obj p _ hh;cases hr with|hold h=>exact h
theorem zmj{w:World}{ok:Nat→Prop}{π:List Value}{i:Nat}{v u:Value}(h:RelV w ok π (.gs i) v)(k:RelV w ok π (.gs i) u):v=u:=by
 cases h with
 | gs h=>cases k with
  | gs k=>
   rw [h]at k;cases k;rfl
theorem zdx{j q p i:Nat}{o:Oper}{E:Env}{d:Nat}{vh:Value}(hT:TabOk P T)(hw:wantE ops (restr E (o.looksAt ops)) o=.yes)(hE:∀t∈o.looksAt ops,∀b,look E t=some b→look envF t=some b)
  (hq:zv ops q j=true) (hp:∀L,q∉L→pstep T o (restr E (o.looksAt ops)) (O L)=.ok (.gs i)) (hh:∀L,q∉L→nth (O L) p=some (some (.hold (.gs i) vh))) (hfl:flat vh=true) (hO:∀L,O (j::L)=O L)
  (hdst:o.dst=some d) (hdn:Nat.blt d n=true) (hlook:look envF d=some (.d (.v vh))):HeadX P n X O m ops envF j o:=by
 intro L _ hjL _ hcl π w tmps hsz hm hgk hlk;have hqL:q∉L:=fun h=>hjL (hcl q h j hq)
 have he:z13 w (okOf X π (O L)) π (restr E (o.looksAt ops)) tmps:=fun t b ht=>by
  obtain⟨h1,h2⟩:=z12 ht;exact hlk t h1 b (hE t h1 b h2)
 have hdo:=z3c (ds:=[]) hT hm he o;rw [hp L hqL]at hdo;obtain⟨v,d1,d2⟩:=hdo;obtain rfl:=zmj d1 (zgw hm (hh L hqL));refine .inr ⟨(zm he).1 hw,.inl ⟨v,w,π,d2 w (.refl w),z2p (hO L) hm (.refl w),fun d' hd=>?_⟩⟩;rw [hdst]at hd;cases hd;exact⟨by simpa [Nat.blt_eq]using hdn,_,hlook,.d (.v hfl)⟩
theorem zjl{e q1 q2 late:Nat}{aL:AV}{envR E:Env}(ι:List Nat){oe:Oper}{d:Tmp}{g:FuncId}{az bs:List AV}{objs0:List (Option AObj)}{R':AV→List (Option AObj)→Prop}{r0:AV}
  (hE:∀t∈oe.looksAt ops,∀b,look E t=some b→look envF t=some b) (hF:envF=(late,aL)::envR) (hdr:z3p (memN ι) envR=envR) (hq1:zv ops q1 q2=true) (hq2:zv ops q2 e=true) (hq1m:q1<m)
  (hlate:dstIs ops q1 late=true) (honly:((List.range ops.size).all fun q=>q==q1||!dstIs ops q late)=true)
  (hO0:∀L,e∉L→q1∉L→O L=objs') (hO1:∀L,e∉L→q1∉L→O (e::L)=objs1)
  (hdst:oe.dst=some d) (hdn:Nat.blt d n=true) (hlook:look envF d=some r0) (hw:wantE ops (restr E (oe.looksAt ops)) oe=.yes) (hco:z4p (restr E (oe.looksAt ops)) oe=some (g,az)) (hen:∀args w,(callFunc g args).run P w=.ok (.enter g args) w)
  (hc:ACall P g bs objs0 R') (hs:subR (rho ι objs'.length) objs' ι objs0) (hv:VLs az (AV.rens (rho ι objs'.length) bs)) (hnd:z3m ι=true) (hd:refsBs ι.length bs=true) (hro:refsO ι.length objs0=true)
  (hr:∀r o,R' r o→r.ren (rho ι objs'.length)=r0∧z35 ι o objs'=objs1):HeadX P n X O m ops envF e oe:=by
 intro L hLm heL hdeps hcl π w tmps hsz hm hgk hlk;have hq1L:q1∉L:=fun h=>heL (hcl q2 (hcl q1 h q2 hq1) e hq2)
 have hOL:=hO0 L heL hq1L;have hOj:=hO1 L heL hq1L;rw [hOL]at hm hgk hlk;have he:z13 w (okOf X π objs') π (restr E (oe.looksAt ops)) tmps:=fun t b ht=>by
  obtain⟨h1,h2⟩:=z12 ht;exact hlk t h1 b (hE t h1 b h2)
 obtain⟨vs,c1,c2⟩:=z2t he hco;refine .inr ⟨(zm he).1 hw,.inr (.inr ⟨g,vs.toArray,by rw [c2,hen],?_⟩)⟩;have hargs:RelVs w (okOf (lendX X π objs' ι) (lendP π ι) objs0) (lendP π ι) bs vs:=by
  refine RelVs.unren (m:=ι.length) (z3z hm hs) ?_ bs hd (hv.rel c1);intro j' h' hj' hh';obtain⟨i',hi'⟩:∃i',nth ι j'=some i':=by
   rw [z1k];exact⟨ι[j'],List.getElem?_eq_getElem hj'⟩
  rw [z9a hi']at hh';rw [z2d hi' (z1r hh')];exact hh'
 rcases hc _ _ w vs (z8b hgk hm hs) (z8a hm hs hnd hro) hargs with⟨_,hcl2⟩|⟨v,w',hcl2,_⟩
 ·refine hcl2.mono ?_;rintro e2 w2 ⟨v,r,o,π',rfl,hR,hm',hrel,hhist⟩;have L2:=lended hm hs hnd hm' hhist;obtain⟨e3,e4⟩:=hr r o hR;have hmem:=L2.mem;have hhst:=L2.hist;have hkp:=L2.keep;have hbk:=L2.back _ _ hrel;rw [e4]at hmem hhst hkp hbk;rw [e3]at hbk;refine⟨v,z2c ι π' π,rfl,⟨by rw [hOj];exact hmem,by rw [hOL,hOj];exact hhst,fun t a u ht hlv hau=>?_⟩,fun d' hd'=>?_⟩
  ·rw [hOL]at hau;have htl:late≠t:=by
    rintro rfl;rcases hlv with⟨q,hqL,o',ho',hd'⟩|hfree
    ·have hqs:=(Array.getElem?_eq_some_iff.1 ho').1;have h1:=List.all_eq_true.1 honly q (List.mem_range.2 hqs);rw [zh.2 ⟨o',ho',hd'⟩]at h1;simp only [Bool.not_true,Bool.or_false,beq_iff_eq]at h1;exact hq1L (h1▸hqL)
    ·rw [hfree q1 hq1m]at hlate;cases hlate
   rw [hF,zu,if_neg htl]at ht;have:=hkp a u hau;rw [z5u hdr ht]at this;rw [hOj];exact this
  ·rw [hdst]at hd';cases hd';exact⟨by simpa [Nat.blt_eq]using hdn,r0,hlook,by rw [hOj];exact hbk⟩
 ·rw [hen]at hcl2;cases hcl2
theorem z6l{i:Nat}{env:Env}(h:z4v i env=env){t:Tmp}{a:AV}(ht:look env t=some a):a.drop i=a:=by
 have:=z6f i env t;rw [h,ht]at this;simpa using this.symm
theorem zme{j p i late tv:Nat}{o:Oper}{E' envR:Env}{c:Option Prop}{vh:Value}(hT:TabOk P T)(hw:wantE ops E' o=.yes)(hE:∀t b,look E' t=some b→t∈o.looksAt ops∧((t=tv∧b=.gs i)∨look envF t=some b))(htv:look envF tv=some (.d (.v vh)))
  (hF:envF=(late,.gs i)::envR) (hdr:z4v i envR=envR) (hjm:j<m) (hoj:ops[j]?=some o) (honly:((List.range ops.size).all fun q=>q==j||!dstIs ops q late)=true)
  (hO1:∀L,j∉L→(∀q,zv ops j q=true→q∈L)→(∀q∈L,∀q',zv ops q q'=true→q'∈L)→O L=objs1) (hO2:∀L,O (j::L)=objs2) (hh:nth objs1 p=some (some (.hold (.gs i) vh)))
  (hs:estep T o E' objs1=some ⟨c,false,.gs i,some i,objs2⟩) (hc:cond c) (hdst:o.dst=some late) (hdn:Nat.blt late n=true):HeadX P n X O m ops envF j o:=by
 intro L _ hjL hdeps hcl π w tmps hsz hm hgk hlk;have hOL:=hO1 L hjL hdeps hcl;have hOj:=hO2 L;rw [hOL]at hm hgk hlk;have hheld:=zgw hm hh;have he:z13 w (okOf X π objs1) π E' tmps:=fun t b ht=>by
  obtain⟨h1,h2⟩:=hE t b ht;rcases h2 with⟨rfl,rfl⟩|h2
  ·have:=hlk t h1 _ htv;cases this with
   | d h=>cases h with|v _=>exact hheld
  ·exact hlk t h1 b h2
 have hst:=z3v (ds:=[]) hT hm he o;rw [hs]at hst;obtain⟨v,w',π',h1,h2,h3⟩:=hst hc;refine .inr ⟨(zm he).1 hw,.inl ⟨v,w',π',h1,⟨by rw [hOj];exact h2.mem,by rw [hOL,hOj];exact h2.hist,fun t a u ht hlv hu=>?_⟩,fun d' hd=>?_⟩⟩
 ·rw [hOL]at hu;have htl:late≠t:=by
   rintro rfl;rcases hlv with⟨q,hqL,o',ho',hd'⟩|hfree
   ·have hqs:=(Array.getElem?_eq_some_iff.1 ho').1;have h4:=List.all_eq_true.1 honly q (List.mem_range.2 hqs);rw [zh.2 ⟨o',ho',hd'⟩]at h4;simp only [Bool.not_true,Bool.or_false,beq_iff_eq]at h4;exact hjL (h4▸hqL)
   ·have:=hfree j hjm;rw [zh.2 ⟨o,hoj,hdst⟩]at this;cases this
  rw [hF,zu,if_neg htl]at ht;have:=h2.keep _ _ hu;rw [keepQ,z6l hdr ht]at this;rw [hOj];exact this
 ·rw [hdst]at hd;cases hd;exact⟨by simpa [Nat.blt_eq]using hdn,.gs i,by rw [hF,zu,if_pos rfl],by rw [hOj];exact h3 rfl⟩
theorem zae(m:Nat)(A:Acts)(O:List Nat→List (Option AObj))(E:Env){id:Nat}{objsF:List (Option AObj)}(hT:TabOk P T)(hf:P.funcs[f]?=some fn)(hmx:P.follows .mixedOrders=true)(h:srun T n fn.results.toList 2000 True todo env objs=.draw nd id ops k env' objs')(hn:nd)
  (hB:drawB ops m=true) (hsee:seeB ops m A=true) (hO0:O []=objs') (hOF:∀L,(∀i,i<m→i∈L)→O L=objsF) (hOj:∀j L,actB A j=false→O (j::L)=O L)
  (hAm:(A.all fun x=>Nat.blt x.1 m)=true) (hD:∀L,DSat P n C.X (O L) ops (fun x=>x=E) (zx ops m A) env')
  (hA:∀x∈A,∃oe,ops[x.1]?=some oe∧oe.dst=x.2.map (·.1)∧HeadX P n C.X O m ops (actE A++E) x.1 oe)
  (hk:ASat P f n C (.inRegion ops (List.range' m (ops.size-m))::k) (actE A++E) objsF R) (hGk:GOk P C.π C.objs C.w:=by with_reducible assumption):ASat P f n C todo env objs R:=by
 have hq:∀{j:Nat} {o:Oper},j<m→actB A j=false→ops[j]?=some o→o∈zx ops m A:=by
  intro j o hj hb ho;unfold zx;rw [List.mem_filterMap];exact⟨j,List.mem_filter.2 ⟨List.mem_range.2 hj,by rw [hb];rfl⟩,ho⟩
 have hns:∀{j:Nat} {o:Oper},j<m→actB A j=false→ops[j]?=some o→∀x∈actE A,x.1∉o.looksAt ops∧o.dst≠some x.1:=by
  intro j o hj hb ho x hx;have h1:=List.all_eq_true.1 hsee j (List.mem_range.2 hj);rw [hb,ho]at h1;have h1':((actE A).all fun x=>!(o.looksAt ops).contains x.1&&o.dst !=some x.1)=true:=by simpa only [Bool.false_or]using h1
  have h2:=List.all_eq_true.1 h1' x hx;simpa using h2
 suffices hcc:Cont P f n C R (.draw nd id ops k env' objs')from(z1j hT hf 2000 True todo env objs (by rw [h];exact hcc)).2
 refine⟨hn,z9f hmx hB (envF:=actE A++E) ?_ hO0 hOF ?_ hk⟩
 ·intro j o hj ho;cases hb:actB A j with
  | false=>
   refine zpb (fun L=>hOj j L hb) fun L=>?_;obtain⟨E0,a1,a2,a3,rfl⟩:=hD L;have hn2:=hns hj hb ho;refine z8w (fun t ht=>z2k fun x hx e=>(hn2 x hx).1 (e▸ht)) (fun d hd=>z2k fun x hx e=>(hn2 x hx).2 (e▸hd)) (a3 o (hq hj hb ho))
  | true=>
   obtain⟨x,hx,hxe⟩:=List.any_eq_true.1 hb;obtain rfl:x.1=j:=Nat.eq_of_beq_eq_true hxe;obtain⟨oe,h1,_,h3⟩:=hA x hx;rw [ho]at h1;cases h1;exact h3
 ·intro t ht a ha;have hne:∀x∈actE A,x.1≠t:=by
   rintro x hx rfl;obtain⟨y,hy,hyx⟩:=List.mem_filterMap.1 hx;obtain⟨oe,h1,h2,_⟩:=hA y hy;rw [hyx]at h2;have hym:=List.all_eq_true.1 hAm y hy;have:=ht y.1 (by simpa [Nat.blt_eq]using hym);rw [zh.2 ⟨oe,h1,by simpa using h2⟩]at this;cases this
  rw [z2k hne]at ha;obtain⟨E0,a1,a2,a3,rfl⟩:=hD [];refine a1 t (fun o ho hd=>?_) a ha;unfold zx at ho;rw [List.mem_filterMap]at ho;obtain⟨j,hj,ho⟩:=ho;have hj:=List.mem_range.1 (List.mem_filter.1 hj).1;have:=ht j hj;rw [zh.2 ⟨o,ho,hd⟩]at this;cases this
def twoO(e9 e7:Nat)(o0 o1 o2:List (Option AObj))(L:List Nat):List (Option AObj):=if e9∈L then o2 else if e7∈L then o1 else o0
theorem zqd{p:List (Option AObj)→Prop}{e9 e7:Nat}{o0 o1 o2:List (Option AObj)}{L:List Nat}(h0:p o0)(h1:p o1)(h:e9∉L):p (twoO e9 e7 o0 o1 o2 L):=by
 rw [twoO,if_neg h];split
 ·exact h1
 ·exact h0
theorem zqc{p:List (Option AObj)→Prop}{e9 e7:Nat}{o0 o1 o2:List (Option AObj)}{L:List Nat}(h0:p o0)(h1:p o1)(h2:p o2):p (twoO e9 e7 o0 o1 o2 L):=by
 rw [twoO];split
 ·exact h2
 ·split
  ·exact h1
  ·exact h0
theorem zd4{e9 e7 j:Nat}{o0 o1 o2:List (Option AObj)}{L:List Nat}(h9:j≠e9)(h7:j≠e7):twoO e9 e7 o0 o1 o2 (j::L)=twoO e9 e7 o0 o1 o2 L:=by
 simp only [twoO,List.mem_cons,Ne.symm h9,Ne.symm h7,false_or]
theorem zj5(m e9 e7:Nat)(A:Acts)(objs1 objs2:List (Option AObj))(E:Env){id:Nat}(hT:TabOk P T)(hf:P.funcs[f]?=some fn)(hmx:P.follows .mixedOrders=true)(h:srun T n fn.results.toList 2000 True todo env objs=.draw nd id ops k env' objs')(hn:nd)
  (hB:drawB ops m=true) (hsee:seeB ops m A=true) (h9m:Nat.blt e9 m=true) (h9:actB A e9=true) (h7:actB A e7=true)
  (hAm:(A.all fun x=>Nat.blt x.1 m)=true) (hD0:DSat P n C.X objs' ops (fun x=>x=E) (zx ops m A) env') (hD1:DSat P n C.X objs1 ops (fun x=>x=E) (zx ops m A) env') (hD2:DSat P n C.X objs2 ops (fun x=>x=E) (zx ops m A) env')
  (hA:∀x∈A,∃oe,ops[x.1]?=some oe∧oe.dst=x.2.map (·.1)∧HeadX P n C.X (twoO e9 e7 objs' objs1 objs2) m ops (actE A++E) x.1 oe)
  (hk:ASat P f n C (.inRegion ops (List.range' m (ops.size-m))::k) (actE A++E) objs2 R) (hGk:GOk P C.π C.objs C.w:=by with_reducible assumption):ASat P f n C todo env objs R:=by
 refine zae m A (twoO e9 e7 objs' objs1 objs2) E hT hf hmx h hn hB hsee (by simp [twoO]) (fun L hL=>by rw [twoO,if_pos (hL e9 (by simpa [Nat.blt_eq]using h9m))]) (fun j L hj=>?_) hAm (fun L=>?_) hA hk
 ·refine zd4 ?_ ?_
  ·rintro rfl;rw [h9]at hj;cases hj
  ·rintro rfl;rw [h7]at hj;cases hj
 ·exact zqc (p:=fun o=>DSat P n C.X o ops (fun x=>x=E) (zx ops m A) env') hD0 hD1 hD2
theorem zmd{j e9 e7 p i:Nat}{o:Oper}{E:Env}{d:Nat}{vh:Value}{objs0:List (Option AObj)}(hT:TabOk P T)(hw:wantE ops (restr E (o.looksAt ops)) o=.yes)(hE:∀t∈o.looksAt ops,∀b,look E t=some b→look envF t=some b)
  (hq:zv ops e9 j=true) (hp0:pstep T o (restr E (o.looksAt ops)) objs0=.ok (.gs i)) (hp1:pstep T o (restr E (o.looksAt ops)) objs1=.ok (.gs i)) (hh0:nth objs0 p=some (some (.hold (.gs i) vh))) (hh1:nth objs1 p=some (some (.hold (.gs i) vh))) (hfl:flat vh=true) (hj9:j≠e9) (hj7:j≠e7)
  (hdst:o.dst=some d) (hdn:Nat.blt d n=true) (hlook:look envF d=some (.d (.v vh))):HeadX P n X (twoO e9 e7 objs0 objs1 objs2) m ops envF j o:=
 zdx hT hw hE hq (fun L hL=>zqd (p:=fun ob=>pstep T o (restr E (o.looksAt ops)) ob=.ok (.gs i)) hp0 hp1 hL) (fun L hL=>zqd (p:=fun ob=>nth ob p=some (some (.hold (.gs i) vh))) hh0 hh1 hL) hfl (fun L=>zd4 hj9 hj7) hdst hdn hlook
theorem zjk{j e9 e7:Nat}{o:Oper}{E:Env}{a:AV}{c:Option Prop}{d:Nat}{objs0:List (Option AObj)}(hT:TabOk P T)(hw:wantE ops (restr E (o.looksAt ops)) o=.yes)(hE:∀t∈o.looksAt ops,∀b,look E t=some b→look envF t=some b)
  (hs0:estep T o (restr E (o.looksAt ops)) objs0=some ⟨c,false,a,none,objs0⟩) (hs1:estep T o (restr E (o.looksAt ops)) objs1=some ⟨c,false,a,none,objs1⟩) (hs2:estep T o (restr E (o.looksAt ops)) objs2=some ⟨c,false,a,none,objs2⟩) (hj9:j≠e9) (hj7:j≠e7) (hc:cond c) (hdst:o.dst=some d) (hdn:Nat.blt d n=true) (hlook:look envF d=some a):HeadX P n X (twoO e9 e7 objs0 objs1 objs2) m ops envF j o:=
 zfi hT hw hE (fun L=>zqc (p:=fun ob=>estep T o (restr E (o.looksAt ops)) ob=some ⟨c,false,a,none,ob⟩) hs0 hs1 hs2) (fun L=>zd4 hj9 hj7) hc hdst hdn hlook
theorem zjm{j e8 e7 p i late tv:Nat}{o:Oper}{E' envR:Env}{c:Option Prop}{vh:Value}{objs0:List (Option AObj)}(hT:TabOk P T)(hw:wantE ops E' o=.yes)(hE:∀t b,look E' t=some b→t∈o.looksAt ops∧((t=tv∧b=.gs i)∨look envF t=some b))(htv:look envF tv=some (.d (.v vh)))
  (hF:envF=(late,.gs i)::envR) (hdr:z4v i envR=envR) (hjm:Nat.blt j m=true) (hoj:ops[j]?=some o) (honly:((List.range ops.size).all fun q=>q==j||!dstIs ops q late)=true)
  (h98:zv ops j e8=true) (h87:zv ops e8 e7=true) (hh:nth objs1 p=some (some (.hold (.gs i) vh)))
  (hs:estep T o E' objs1=some ⟨c,false,.gs i,some i,objs2⟩) (hc:cond c) (hdst:o.dst=some late) (hdn:Nat.blt late n=true):HeadX P n X (twoO j e7 objs0 objs1 objs2) m ops envF j o:=
 zme hT hw hE htv hF hdr (by simpa [Nat.blt_eq]using hjm) hoj honly (fun L h1 h2 h3=>by rw [twoO,if_neg h1,if_pos (h3 e8 (h2 e8 h98) e7 h87)]) (fun L=>by rw [twoO,if_pos (List.mem_cons_self ..)]) hh hs hc hdst hdn
theorem zgy{e e9 e8 late:Nat}{aL:AV}{envR E:Env}(ι:List Nat){oe:Oper}{d:Tmp}{g:FuncId}{az bs:List AV}{objs0:List (Option AObj)}{R':AV→List (Option AObj)→Prop}{r0:AV}
  (hE:∀t∈oe.looksAt ops,∀b,look E t=some b→look envF t=some b) (hF:envF=(late,aL)::envR) (hdr:z3p (memN ι) envR=envR) (h98:zv ops e9 e8=true) (h87:zv ops e8 e=true) (h9m:Nat.blt e9 m=true)
  (hlate:dstIs ops e9 late=true) (honly:((List.range ops.size).all fun q=>q==e9||!dstIs ops q late)=true) (hne:e≠e9)
  (hdst:oe.dst=some d) (hdn:Nat.blt d n=true) (hlook:look envF d=some r0) (hw:wantE ops (restr E (oe.looksAt ops)) oe=.yes) (hco:z4p (restr E (oe.looksAt ops)) oe=some (g,az)) (hen:∀args w,(callFunc g args).run P w=.ok (.enter g args) w)
  (hc:ACall P g bs objs0 R') (hs:subR (rho ι objs'.length) objs' ι objs0) (hv:VLs az (AV.rens (rho ι objs'.length) bs)) (hnd:z3m ι=true) (hd:refsBs ι.length bs=true) (hro:refsO ι.length objs0=true)
  (hr:∀r o,R' r o→r.ren (rho ι objs'.length)=r0∧z35 ι o objs'=objs1):HeadX P n X (twoO e9 e objs' objs1 objs2) m ops envF e oe:=
 zjl ι hE hF hdr h98 h87 (by simpa [Nat.blt_eq]using h9m) hlate honly (fun L h1 h2=>by rw [twoO,if_neg h2,if_neg h1]) (fun L h1 h2=>by rw [twoO,if_neg (by rw [List.mem_cons];exact fun h=>h.elim (fun h=>hne h.symm) h2),if_pos (List.mem_cons_self ..)]) hdst hdn hlook hw hco hen hc hs hv hnd hd hro hr
theorem zad(i:Nat){e:TypeId}{s:Nat}{xs:List D}{rd:Nat→D}(ho:nth objs i=some (some (.grow e s xs rd)))(k:∀v,flat v=true→ASat P f n C todo env (objs++[some (.hold (.gs i) v)]) R):ASat P f n C todo env objs R:=by
 intro π w tmps hn hm hh he;obtain⟨v,hp,hrel⟩:=hm.obj i _ ho;have hv:RelV w (okOf C.X π objs) π (.gs i) v:=by
  cases hrel with
  | gnil=>exact .gs hp
  | grow _ _ _ _ _ _ _ _=>exact .gs hp
 have hfl:flat v=true:=by cases hrel<;>rfl
 have htr:Tr C.X π objs w none (π++[.tuple #[]]) (objs++[some (.hold (.gs i) v)]) w:=
  z4r hm rfl rfl ⟨rfl,z17 (Nat.le_refl _)⟩ (Nat.le_refl _) (fun _ _=>rfl) _ _ (by intro b e;cases e)
   (.hold (hv.mono (z6u (fun _ _=>rfl) _ _ hm.len (by intro b e;cases e)) (zdp _)))
 exact k v hfl _ w tmps hn htr.mem (z22 hh htr) (z5c he htr)
end
end Ab
