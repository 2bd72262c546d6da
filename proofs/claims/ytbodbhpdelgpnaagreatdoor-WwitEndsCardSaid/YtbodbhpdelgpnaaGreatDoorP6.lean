/- A part of the proof. -/
import Derived.Test.YtbodbhpdelgpnaaGreatDoorP5
import Derived.ProofKit
set_option linter.unusedVariables false
set_option linter.unusedSimpArgs false
set_option linter.unusedSectionVars false
set_option maxRecDepth 100000
set_option maxHeartbeats 8000000
namespace Ab
open Go
variable [Draws]
structure Reads(P:Program)(t:TypeId){α:Type}(enc:α→D)(Q:α→Prop):Prop where
 len:∀a,(enc a).cells.length=P.cellsOf t
 rd:∀{H:Type} (eH:TypeId×Value→H) (w:World) (fuel:Nat) (cs:List Value) (x:DataW H×List MemPlace) (ok:Nat→Prop),(∀b,ok b)→DataW.trod eH P w 0 (fun _=>true) true fuel t cs=some x→∃a,Q a∧RelL w ok (enc a).cells cs
theorem zak{P:Program}{t:TypeId}{k:IntKind}(ht:P.underlying t=some (.int k))(hs:P.cellsOf t=1):Reads P t (fun n:Int=>D.v (.int k n)) (fun n=>(Lit.int k n).wf=true) where
 len a:=by rw [hs];rfl
 rd eH w fuel cs x ok hok h:=by
  obtain⟨n,rfl,_,hw⟩:=DataW.trod_int ht h;exact⟨n,hw,.cons (.v rfl) rfl .nil⟩
theorem zf6{P:Program}{t:TypeId}(ht:P.underlying t=some .string)(hs:P.cellsOf t=1):Reads P t (fun b:ByteArray=>D.v (.string b)) (fun b=>b.size≤maxLen) where
 len a:=by rw [hs];rfl
 rd eH w fuel cs x ok hok h:=by
  cases fuel with
  | zero=>simp [DataW.trod]at h
  | succ n=>
   unfold DataW.trod at h;rw [ht]at h;split at h<;>simp_all;rename_i b;exact⟨b,h.1,.cons (.v rfl) rfl .nil⟩
theorem zst(a:Addr)(m n:Nat):(a.add m).add n=a.add (m+n):=by
 unfold Addr.add;by_cases h1:m=0
 ·subst h1;simp
 ·by_cases h2:n=0
  ·subst h2;simp [h1]
  ·simp [h1,h2,Nat.add_assoc]
theorem zex{P:Program}{e:TypeId}{α:Type}{enc:α→D}{Q:α→Prop}(R:Reads P e enc Q){H:Type}(eH:TypeId×Value→H)(w:World)(n:Nat)(ok:Nat→Prop)(hok:∀b,ok b){a:Addr}{elems:List (DataW H×List MemPlace)}
  (hel:∀i,i<elems.length→(w.cells? 0 (a.add (i*P.cellsOf e)) (P.cellsOf e)).bind (DataW.trod eH P w 0 (fun _=>true) true n e)=elems[i]?) :
  ∀k,k≤elems.length→∃(l:List α) (us:List Value),l.length=k∧(∀x∈l,Q x)∧RelE w ok (P.cellsOf e) (l.map enc) us∧∀i,i<us.length→w.cell? (a.add i)=us[i]?
 | 0,_=>⟨[],[],rfl,by simp,.nil,by simp⟩
 | k+1,hk=>by
  obtain⟨l,us,h1,h2,h3,h4⟩:=zex R eH w n ok hok hel k (by omega);have hk':=hel k (by omega);rw [List.getElem?_eq_getElem (by omega:k<elems.length)]at hk';obtain⟨vs,e1,e2⟩:=Option.bind_eq_some_iff.1 hk';obtain⟨x,q1,q2⟩:=R.rd eH w n vs _ ok hok e2;obtain⟨_,e3,e4⟩:=World.cells?_some e1;have hul:us.length=k*P.cellsOf e:=by rw [h3.length,List.length_map,h1]
  refine⟨l++[x],us++vs,by simp [h1],?_,?_,?_⟩
  ·intro y hy;rcases List.mem_append.1 hy with hy|hy
   ·exact h2 y hy
   ·rw [List.mem_singleton.1 hy];exact q1
  ·rw [List.map_append];refine h3.append ?_;have:=RelE.cons (s:=P.cellsOf e) q2 e3 (RelE.nil (w:=w) (ok:=ok));simpa using this
  ·intro i hi;rcases Nat.lt_or_ge i us.length with hlt|hge
   ·rw [List.getElem?_append_left hlt];exact h4 i hlt
   ·rw [List.getElem?_append_right hge];have hlt:i-us.length<P.cellsOf e:=by simp at hi;omega
    have:=e4 (i-us.length) hlt;rw [←this,zst,show k*P.cellsOf e+(i-us.length)=i by omega]
theorem z7l{P:Program}{t e:TypeId}{s:Nat}{α:Type}{enc:α→D}{Q:α→Prop}(d0:α)(ht:P.underlying t=some (.slice e))(hs:P.cellsOf t=1)(he:P.cellsOf e=s)(h0:0<s)(R:Reads P e enc Q):Reads P t (eL s enc d0) (fun l=>(∀a∈l,Q a)∧l.length≤maxLen) where
 len a:=by rw [hs];rfl
 rd eH w fuel cs x ok hok h:=by
  rcases DataW.trod_slice ht h with⟨rfl,rfl⟩|⟨a,len,cap,elems,rest,n,rfl,rfl,rfl,_,hl,hm,hlen,hel,_,_⟩
  ·exact⟨[],⟨by simp,Nat.zero_le _⟩,.cons (.nil (Nat.zero_le _)) rfl .nil⟩
  ·obtain⟨l,us,h1,h2,h3,h4⟩:=zex R eH w n ok hok (a:=a) (elems:=elems) (by rw [hlen];exact hel) len (by omega);refine⟨l,⟨h2,by omega⟩,.cons ?_ rfl .nil⟩;rw [he]at h3;by_cases hz:len=0
   ·subst hz;have:l=[]:=List.length_eq_zero_iff.1 h1;subst this;exact .nil hm
   ·have hul:0<us.length:=by
     rw [h3.length,List.length_map,h1];exact Nat.mul_pos (by omega) h0
    have hspot:a.spot=none:=by
     have:=h4 0 hul;rw [List.getElem?_eq_getElem hul,show a.add 0=a from rfl]at this;unfold World.cell? at this;split at this
     ·split at this
      ·cases this
      ·rename_i hns;simpa using hns
     ·cases this
    obtain⟨b,o,sp⟩:=a;simp only at hspot;subst hspot;have:=RelD.sl (s:=s) (b:=b) (o:=o) (c:=cap) (rd:=fun i=>enc (l.getD i d0)) h3 (fun i hi=>⟨hok b,by rw [←z34];exact h4 i hi⟩) (by simp;omega) hm (z4m enc d0 l);rwa [List.length_map,h1]at this
theorem zqo{H:Type}{eH:TypeId×Value→H}{P:Program}{w:World}{n:Nat}{fs:Array Field}{cs:List Value}{xs:List (DataW H×List MemPlace)}(hf:∀(i:Nat) (f:Field),fs[i]?=some f→DataW.trod eH P w 0 (fun _=>true) true n f.type ((cs.drop f.offset).take (P.cellsOf f.type))=xs[i]?)
  (hl:xs.length=fs.size) (i:Nat) (hi:i<fs.size):∃x,DataW.trod eH P w 0 (fun _=>true) true n fs[i].type ((cs.drop fs[i].offset).take (P.cellsOf fs[i].type))=some x:=by
 have:=hf i fs[i] (Array.getElem?_eq_getElem hi);rw [List.getElem?_eq_getElem (by omega:i<xs.length)]at this;exact⟨_,this⟩
end Ab
namespace Ab
open Go
variable [Draws]
theorem law_calls{P:Program}[Globals P]{f:FuncId}{fn:Func}{c:Code}(h1:P.funcs[f]?=some fn)(h2:fn.body=some c) (h3:(fn.name == "runtime.NumGoroutine")=false) {az:List AV} (h:ACall P f az [] (fun r _=>r=vB true)) {W:World} {vs:List Value} (hg:Globals.tb P W) (hv:RelVs W (okOf (fun _=>False) [] []) [] az vs) :
  Calls P f vs.toArray W fun e w'=>e=.returned (.bool true)∧Go.RowKit.Below W.heap.size W w':=by
 have hm:Mem (fun _=>False) [] [] W:=⟨rfl,fun i o h=>by simp [nth]at h,fun i j o o' h h' b _ h1=>by simp [nth]at h1,fun i o h b h1=>by simp [nth]at h1,fun b h=>h.elim⟩
 rcases h _ [] W vs ⟨hg,fun i o h b h1=>by simp [nth]at h1⟩ hm hv with⟨_,h⟩|⟨v,w',h,_⟩
 ·refine Calls.mono h ?_;rintro e w' ⟨v,r,o,π',rfl,rfl,_,hrel,hh⟩;refine⟨?_,hh.os,hh.tape,hh.output.1,hh.size,fun k hk=>hh.heap k hk (fun i o k h1=>by simp [nth]at h1)⟩;cases hrel with|d hrel=>cases hrel;rfl
 ·rw [zb h1 h2 h3]at h;cases h
theorem ok_all(b:Nat):okOf (fun _=>False) [] [] b:=⟨fun h=>h,fun i o h h1=>by simp [nth]at h1⟩
end Ab
