/- A part of the proof. -/
import Derived.Test.YtbodbhpdelgpnaaGreatDoorP22
import Derived.Test.YtbodbhpdelgpnaaGreatDoorRows
import Derived.Test.YtbodbhpdelgpnaaGreatDoorCards
import Derived.Test.YtbodbhpdelgpnaaGreatDoorTie
import Derived.ProofKit
import Derived.OpenShut
import Derived.LaidMore
import Derived.Lay
import Derived.SevenTiedAt
import Derived.Stop.Joined
set_option linter.unusedVariables false
set_option linter.unusedSimpArgs false
set_option linter.unusedSectionVars false
set_option maxRecDepth 100000
set_option maxHeartbeats 8000000
namespace Go.Proofs.YtbodbhpdelgpnaaGreatDoor
open Go Ab Go.ChangeShapes Go.WideShapes Go.ChangeAt Go.RowKit
theorem own:ownKnob Tryz.prog.godebug=none:=by kernel_rfl
theorem laidOut:laidOutB Tryz.prog=true:=by kernel_rfl
theorem rdI:Reads Tryz.prog 3 eI (fun n=>(Lit.int .i64 n).wf=true):=zak Tryz.underlying3 (by kernel_rfl)
theorem rdS:Reads Tryz.prog 9 (fun b:ByteArray=>D.v (.string b)) (fun b=>b.size≤maxLen):=zf6 Tryz.underlying9 (by kernel_rfl)
end Go.Proofs.YtbodbhpdelgpnaaGreatDoor
namespace Ab
open Go
variable [Draws]
def reachB(l:List Nat):Bool:=l.all fun n=>decide (n≤reachBytes)
theorem zjb{l k:List Nat}(h:reachB (l++k)=true):reachB l=true∧reachB k=true:=by
 simpa [reachB,List.all_append]using h
theorem zgh{n:Nat}{k:List Nat}(h:reachB (n::k)=true):n≤reachBytes∧reachB k=true:=by
 simpa [reachB]using h
theorem reach_each{H:Type}{P:Program}:∀{ts:List TypeId} {ds:List (DataW H)},reachB (DataW.weightsEach P ts ds)=true→∀(i:Nat) (t:TypeId) (d:DataW H),ts[i]?=some t→ds[i]?=some d→reachB (d.weights P t)=true
 | [],_,_,i,t,d,h,_=>by simp at h
 | t0::ts,[],_,i,t,d,_,h=>by simp at h
 | t0::ts,d0::ds,h,i,t,d,h1,h2=>by
  simp only [DataW.weightsEach]at h;obtain⟨a,b⟩:=zjb h;cases i with
  | zero=>simp at h1 h2;subst h1 h2;exact a
  | succ i=>exact reach_each b i t d (by simpa using h1) (by simpa using h2)
structure ReadsS(P:Program)(t:TypeId){α:Type}(enc:α→D)(Q:α→Prop):Prop where
 len:∀a,(enc a).cells.length=P.cellsOf t
 rd:∀{H:Type} (eH:TypeId×Value→H) (w:World) (fuel:Nat) (cs:List Value) (x:DataW H×List MemPlace) (ok:Nat→Prop),(∀b,ok b)→DataW.trod eH P w 0 (fun _=>true) true fuel t cs=some x→reachB (x.1.weights P t)=true→∃a,Q a∧RelL w ok (enc a).cells cs
theorem zi0{w:World}{ok:Nat→Prop}{s len cap:Nat}{A:Option Addr}{xs:List D}{rd:Nat→D}(h:RelD w ok (.sl s xs rd) (.slice A len cap)):xs.length=len:=by
 cases h with
 | nil _=>rfl
 | sl _ _ _ _ _=>rfl
theorem Reads.toS{P:Program}{t:TypeId}{α:Type}{enc:α→D}{Q:α→Prop}(R:Reads P t enc Q):ReadsS P t enc Q where
 len:=R.len
 rd eH w fuel cs x ok hok h _:=R.rd eH w fuel cs x ok hok h
theorem z9b{P:Program}{t e:TypeId}{s:Nat}{α:Type}{enc:α→D}{Q:α→Prop}(d0:α)(ht:P.underlying t=some (.slice e))(hs:P.cellsOf t=1)(he:P.cellsOf e=s)(h0:0<s)(R:Reads P e enc Q):
  ReadsS P t (eL s enc d0) (fun l=>(∀a∈l,Q a)∧l.length*P.bytesOf e≤reachBytes) where
 len a:=by rw [hs];rfl
 rd eH w fuel cs x ok hok h hw:=by
  obtain⟨l,⟨q1,_⟩,hr⟩:=(z7l d0 ht hs he h0 R).rd eH w fuel cs x ok hok h;refine⟨l,⟨q1,?_⟩,hr⟩;rcases DataW.trod_slice ht h with⟨rfl,rfl⟩|⟨a,len,cap,elems,rest,n,rfl,rfl,rfl,_,hl,hm,hlen,hel,_,_⟩
  ·cases hr with|cons hd _ _=>
   have:=zi0 hd;rw [List.length_map]at this;rw [this,Nat.zero_mul];exact Nat.zero_le _
  ·have hll:l.length=len:=by
    cases hr with|cons hd _ _=>
    have:=zi0 hd;rwa [List.length_map]at this
   unfold DataW.weights at hw;rw [ht]at hw;have:=(zgh hw).1;rw [List.length_map,hlen]at this;rw [hll];exact Nat.le_trans (Nat.mul_le_mul_right _ (Nat.le_add_right _ _)) this
theorem Reads.via{P:Program}{t:TypeId}{α β:Type}{enc:α→D}{Q:α→Prop}{enc':β→D}{Q':β→Prop}(R:Reads P t enc Q)(g:α→β)(hg:∀a,Q a→Q' (g a))(he:∀a,Q a→enc' (g a)=enc a)(hl:∀b,(enc' b).cells.length=P.cellsOf t):Reads P t enc' Q' where
 len:=hl
 rd eH w fuel cs x ok hok h:=by
  obtain⟨a,qa,ra⟩:=R.rd eH w fuel cs x ok hok h;exact⟨g a,hg a qa,by rw [he a qa];exact ra⟩
theorem ReadsS.via{P:Program}{t:TypeId}{α β:Type}{enc:α→D}{Q:α→Prop}{enc':β→D}{Q':β→Prop}(R:ReadsS P t enc Q)(g:α→β)(hg:∀a,Q a→Q' (g a))(he:∀a,Q a→enc' (g a)=enc a)(hl:∀b,(enc' b).cells.length=P.cellsOf t):ReadsS P t enc' Q' where
 len:=hl
 rd eH w fuel cs x ok hok h hw:=by
  obtain⟨a,qa,ra⟩:=R.rd eH w fuel cs x ok hok h hw;exact⟨g a,hg a qa,by rw [he a qa];exact ra⟩
structure ReadsFS(P:Program)(fs:List Field)(o tot:Nat){α:Type}(enc:α→List D)(Q:α→Prop):Prop where
 len:∀a,(enc a).length=tot
 rd:∀{H:Type} (eH:TypeId×Value→H) (w:World) (fuel:Nat) (cs:List Value) (ok:Nat→Prop),(∀b,ok b)→(∀f∈fs,∃x,DataW.trod eH P w 0 (fun _=>true) true fuel f.type ((cs.drop f.offset).take (P.cellsOf f.type))=some x∧reachB (x.1.weights P f.type)=true)→∃a,Q a∧RelL w ok (enc a) ((cs.drop o).take tot)
theorem z7m{P:Program}{o:Nat}:ReadsFS P [] o 0 (fun _:Unit=>[]) (fun _=>True) where
 len _:=rfl
 rd eH w fuel cs ok hok h:=⟨(),trivial,by simpa using .nil⟩
theorem z1n{P:Program}{f:Field}{fs:List Field}{o tot s:Nat}{α β:Type}{eA:α→D}{QA:α→Prop}{eB:β→List D}{QB:β→Prop}(ho:f.offset=o)(hs:P.cellsOf f.type=s)(hA:ReadsS P f.type eA QA)(hB:ReadsFS P fs (o+s) tot eB QB):
  ReadsFS P (f::fs) o (s+tot) (fun p:α×β=>(eA p.1).cells++eB p.2) (fun p=>QA p.1∧QB p.2) where
 len p:=by rw [List.length_append,hA.len,hB.len,hs]
 rd eH w fuel cs ok hok h:=by
  obtain⟨x,hx,hw⟩:=h f List.mem_cons_self;obtain⟨a,qa,ra⟩:=hA.rd eH w fuel _ x ok hok hx hw;obtain⟨b,qb,rb⟩:=hB.rd eH w fuel cs ok hok fun g hg=>h g (List.mem_cons_of_mem _ hg)
  refine⟨(a,b),⟨qa,qb⟩,?_⟩;subst ho hs;have e:(cs.drop f.offset).take (P.cellsOf f.type+tot)=(cs.drop f.offset).take (P.cellsOf f.type)++(cs.drop (f.offset+P.cellsOf f.type)).take tot:=by
   rw [List.take_add,List.drop_drop]
  rw [e];exact ra.append rb
theorem z5l{P:Program}{t:TypeId}{fs:Array Field}{tot:Nat}{α:Type}{enc:α→List D}{Q:α→Prop}(ht:P.underlying t=some (.struct fs))(hs:P.cellsOf t=tot)(h:ReadsFS P fs.toList 0 tot enc Q):ReadsS P t (fun a=>.ag (enc a)) Q where
 len a:=by rw [hs];exact h.len a
 rd eH w fuel cs x ok hok hx hw:=by
  obtain⟨xs,n,rfl,rfl,hl,hlen,hf⟩:=DataW.trod_struct ht hx;unfold DataW.weights at hw;rw [ht]at hw;have hw:reachB (DataW.weightsEach P (fs.toList.map (·.type)) (xs.map (·.1)))=true:=hw;obtain⟨a,qa,ra⟩:=h.rd eH w n cs ok hok (fun f hf'=>by
   obtain⟨i,hi,rfl⟩:=List.mem_iff_getElem.1 hf';have hi':i<fs.size:=by simpa using hi
   obtain⟨x,hx⟩:=zqo (fun i f hif=>hf i f hif) hlen i hi';refine⟨x,by simpa using hx,?_⟩;have hxi:=hf i fs[i] (Array.getElem?_eq_getElem hi');rw [hx]at hxi;refine reach_each hw i _ _ ?_ ?_
   ·simp [hi']
   ·rw [List.getElem?_map,←hxi];rfl)
  refine⟨a,qa,?_⟩;rw [List.drop_zero,List.take_of_length_le (by omega)]at ra;exact ra
theorem ReadsS.argS{P:Program}{t:TypeId}{α:Type}{enc:α→D}{Q:α→Prop}(R:ReadsS P t enc Q){H:Type}{eH:TypeId×Value→H}{W:World}{cs:Array Value}{d:DataW H}{p:List MemPlace}(h:DataW.Trod eH P W 0 (fun _=>true) true t (.agg cs) d p)(hw:reachB (d.weights P t)=true)(ok:Nat→Prop)(hok:∀b,ok b):
  ∃a,Q a∧RelL W ok (enc a).cells cs.toList:=by
 obtain⟨fuel,hf⟩:=h;exact R.rd eH W fuel cs.toList _ ok hok hf hw
end Ab
namespace Go.Proofs.YtbodbhpdelgpnaaGreatDoor
open Go Ab
end Go.Proofs.YtbodbhpdelgpnaaGreatDoor
namespace Go.Proofs.YtbodbhpdelgpnaaGreatDoor
open Go Ab Go.ChangeShapes Go.WideShapes Go.ChangeAt Go.RowKit
theorem rdSL:Reads Tryz.prog 9 dSL (fun l=>l.length≤maxLen):=rdS.via (fun b=>b.data.toList) (fun b h=>by
 have h:b.data.size≤maxLen:=h;rwa [Array.length_toList]) (fun b _=>by
 show D.v (.string ⟨b.data.toList.toArray⟩)=D.v (.string b);rw [Array.toArray_toList]) (fun l=>rdS.len ⟨l.toArray⟩)
theorem rdIs:Reads Tryz.prog 47 eIs (fun l=>(∀a∈l,(Lit.int .i64 a).wf=true)∧l.length≤maxLen):=z7l 0 Tryz.underlying47 (by kernel_rfl) (by kernel_rfl) (by decide) rdI
theorem rdNd:Reads Tryz.prog 49 eNd NdB:=
 (zf5 (P:=Tryz.prog) Tryz.underlying49 (by kernel_rfl) (z47 (s:=1) rfl (by kernel_rfl) rdSL (z47 (s:=1) rfl (by kernel_rfl) rdI (z47 (s:=1) rfl (by kernel_rfl) rdIs (z47 (s:=1) rfl (by kernel_rfl) rdIs (z47 (s:=1) rfl (by kernel_rfl) rdSL zja)))))).via
  (fun a=>⟨a.1,a.2.1,a.2.2.1,a.2.2.2.1,a.2.2.2.2.1⟩) (fun a h=>⟨h.1,h.2.2.2.2.1,h.2.2.1.2,h.2.2.2.1.2⟩) (fun a h=>rfl) (fun x=>by
   show 5=_
   kernel_rfl)
theorem rdNds:ReadsS Tryz.prog 22 eNds (fun l=>MdB l∧l.length<2000000000000):=
 (z9b (default:Nd) Tryz.underlying22 (by kernel_rfl) (by kernel_rfl) (by decide) rdNd).via id (fun l h=>by
  have h2:l.length*Tryz.prog.bytesOf 49≤reachBytes:=h.2;rw [show Tryz.prog.bytesOf 49=88 by kernel_rfl]at h2;have e:reachBytes=140737488351232:=rfl;have hm:maxLen=9223372036854775807:=rfl;refine⟨⟨?_,h.1⟩,?_⟩
  ·show l.length≤maxLen;omega
  ·show l.length<_;omega) (fun l _=>rfl) (fun l=>by
   show 1=_
   kernel_rfl)
theorem rdBt:ReadsS Tryz.prog 24 eBt (fun l=>MdB l∧l.length<2000000000000):=
 (z5l (P:=Tryz.prog) Tryz.underlying24 (by kernel_rfl) (z1n (s:=1) rfl (by kernel_rfl) rdNds z7m)).via (fun a=>a.1) (fun a h=>h.1) (fun a h=>rfl) (fun l=>by
   show 1=_
   kernel_rfl)
end Go.Proofs.YtbodbhpdelgpnaaGreatDoor
