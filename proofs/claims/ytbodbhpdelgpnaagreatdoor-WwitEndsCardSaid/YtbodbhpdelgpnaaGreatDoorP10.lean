/- A part of the proof. -/
import Derived.Test.YtbodbhpdelgpnaaGreatDoorP9
import Derived.Lib.UnsafeStr
import Derived.Lib.Builder
import Derived.Laws.Externs
set_option linter.unusedVariables false
set_option linter.unusedSimpArgs false
set_option linter.unusedSectionVars false
set_option maxRecDepth 100000
set_option maxHeartbeats 8000000
namespace Ab
open Go
variable [Draws]
section
variable {P:Program}[Globals P]{T:Tab}{f:FuncId}{fn:Func}{n:Nat}{C:Cx}{R:AV→List (Option AObj)→Prop}{todo todo' k:List Item}{env env':Env}{objs objs':List (Option AObj)}{nd:Prop}{ops:Array Oper}
theorem z4z{i:Nat}{r:List Nat}{o:Oper}{e:Env}(a:AV)(ho:ops[i]?=some o)(hw:wantE ops env o=.yes)
  (hdo:∀X π w tmps,Mem X π objs w→z13 w (okOf X π objs) π env tmps→∃v,(execOp (Act.eval ⟨tmps,[]⟩) o).run P w=.ok (.value v) w∧RelV w (okOf X π objs) π a v) (hput:putE n o.dst a env=some e)
  (h:ASat P f n C (.inRegion ops r::k) e objs R):ASat P f n C (.inRegion ops (i::r)::k) env objs R:=by
 refine za9 ⟨none,false,a,none,objs⟩ ho hw (fun X π w tmps m he _=>?_) trivial hput h;obtain⟨v,h1,h2⟩:=hdo X π w tmps m he;exact⟨v,w,π,h1,z3b m rfl rfl ⟨rfl,z17 (Nat.le_refl _)⟩ (Nat.le_refl _) (fun _ _=>rfl),fun _=>h2⟩
theorem z85{X:Nat→Prop}{π:List Value}{w:World}(m:Mem X π objs w){i off:Nat}{e:TypeId}{cs:List AV}{v:Value}(ho:nth objs i=some (some (.cells e cs)))(h:RelV w (okOf X π objs) π (.ptr i off) v):
  ∃b,v=.pointer (some ⟨b,off,none⟩)∧w.shape? b=some (e,cs.length):=by
 cases h with
 | ptr hp=>
  obtain⟨h',hp',hrel⟩:=m.obj i _ ho;rw [hp]at hp';cases hp';cases hrel with
  | cells hb hcs hf=>
   refine⟨_,rfl,?_⟩;rw [World.shape?,hb];simp [hcs.length]
theorem zes{i:Nat}{r:List Nat}{o:Oper}{e:Env}{src dst t el:TypeId}{x:Operand}{j:Nat}{cs:List AV}{sz:Nat}(ho:ops[i]?=some o)(hw:wantE ops env o=.yes)(hop:o.op=.convert src dst x)(hx:opnd env x=some (.ptr j 0))
  (hobj:nth objs j=some (some (.cells el cs))) (hc:0<cs.length) (hs:P.underlying src=some (.pointer t)) (hd:P.underlying dst=some .unsafePointer) (ht0:(P.info? t).map (·.size)=some (sz+1)) (hput:putE n o.dst (.ptr j 0) env=some e)
  (h:ASat P f n C (.inRegion ops r::k) e objs R):ASat P f n C (.inRegion ops (i::r)::k) env objs R:=by
 obtain⟨inf,ht,hz0⟩:=Option.map_eq_some_iff.1 ht0;refine z4z (.ptr j 0) ho hw (fun X π w tmps m he=>?_) hput h;have hv:=zf (ds:=[]) he hx;obtain⟨b,hb,hsh⟩:=z85 m hobj hv;have hrun:=Go.Lib.run_to_unsafe (P:=P) (w:=w) ⟨b,0,none⟩ hs hd ht (by omega) hsh (by simpa using hc);refine⟨_,?_,hv⟩;unfold execOp;simp only [hop,hb];simp only [Sem.run_bind,hrun,Result.andThen_ok,Sem.run_pure]
theorem zbq{i:Nat}{r:List Nat}{o:Oper}{e:Env}{src dst t el:TypeId}{x:Operand}{j:Nat}{cs:List AV}{sz:Nat}(ho:ops[i]?=some o)(hw:wantE ops env o=.yes)(hop:o.op=.convert src dst x)(hx:opnd env x=some (.ptr j 0))
  (hobj:nth objs j=some (some (.cells el cs))) (hs:P.underlying src=some .unsafePointer) (hd:P.underlying dst=some (.pointer t)) (ht0:(P.info? t).map (·.size)=some sz) (hl:liesAt P P.depth el (cs.length / P.cellsOf el) 0 t 1=true) (hput:putE n o.dst (.ptr j 0) env=some e)
  (h:ASat P f n C (.inRegion ops r::k) e objs R):ASat P f n C (.inRegion ops (i::r)::k) env objs R:=by
 obtain⟨inf,ht,hz0⟩:=Option.map_eq_some_iff.1 ht0;refine z4z (.ptr j 0) ho hw (fun X π w tmps m he=>?_) hput h;have hv:=zf (ds:=[]) he hx;obtain⟨b,hb,hsh⟩:=z85 m hobj hv;have hrun:=Go.Lib.run_from_unsafe (P:=P) (w:=w) ⟨b,0,none⟩ hs hd ht hsh hl;refine⟨_,?_,hv⟩;unfold execOp;simp only [hop,hb];simp only [Sem.run_bind,hrun,Result.andThen_ok,Sem.run_pure]
theorem zaa{i:Nat}{r:List Nat}{o:Oper}{e:Env}{tp te ty el:TypeId}{x y:Operand}{j:Nat}{cs:List AV}{sz:Nat}(ho:ops[i]?=some o)(hw:wantE ops env o=.yes)(hop:o.op=.binOp .neq tp x y ty)(hx:opnd env x=some (.ptr j 0))(hy:opnd env y=some (.ptr j 0))
  (hobj:nth objs j=some (some (.cells el cs))) (hp:P.underlying tp=some (.pointer te)) (ht0:(P.info? te).map (·.size)=some sz) (hput:putE n o.dst (.lit false) env=some e)
  (h:ASat P f n C (.inRegion ops r::k) e objs R):ASat P f n C (.inRegion ops (i::r)::k) env objs R:=by
 obtain⟨inf,ht,hz0⟩:=Option.map_eq_some_iff.1 ht0;refine z4z (.lit false) ho hw (fun X π w tmps m he=>?_) hput h;have hv:=zf (ds:=[]) he hx;have hv2:=zf (ds:=[]) he hy;obtain⟨b,hb,hsh⟩:=z85 m hobj hv;obtain⟨b2,hb2,hsh2⟩:=z85 m hobj hv2;have hbb:b2=b:=by
  rw [hb]at hv;rw [hb2]at hv2;cases hv with|ptr h1=>cases hv2 with|ptr h2=>rw [h1]at h2;cases h2;rfl
 subst hbb;have hrun:=Go.Lib.run_neq_ptr_same (P:=P) (w:=w) ⟨b2,0,none⟩ hp ht;refine⟨.bool false,?_,.lit⟩;have hg:(eqGuard .neq tp x y (.pointer (some ⟨b2,0,none⟩)) (.pointer (some ⟨b2,0,none⟩))).run P w=.ok () w:=by simp [eqGuard]
 unfold execOp;simp only [hop,hb,hb2];simp only [Sem.run_bind,hg,Result.andThen_ok,hrun,Sem.run_pure]
def eU8(b:UInt8):D:=.v (.int .u8 (b.toNat:Int))
theorem zr7{X:Nat→Prop}{π:List Value}{w w':World}(m:Mem X π objs w){j:Nat}{o:AObj}{h:Value}(ho:nth objs j=some (some o))(hp:nth π j=some h)(hos:w'.os=w.os)(htape:w'.tape=w.tape)(hout:w'.output=w.output∧dr w≤dr w')(hsz:w.heap.size≤w'.heap.size)
  (hw:∀b,b<w.heap.size→blk h≠some b→w'.heap[b]?=w.heap[b]?):Tr X π objs w none π (za objs j none) w':=by
 have hold:∀{i:Nat} {o':AObj},nth (za objs j none) i=some (some o')→i≠j∧nth objs i=some (some o'):=by
  intro i o' hi;rcases z3x hi with⟨_,h1⟩|⟨h1,h2⟩
  ·cases h1
  ·exact⟨h1,h2⟩
 have hk:Keeps w (okOf X π objs) w' (okOf X π (za objs j none)):=by
  intro b off u h1 h2;have hb:=z32 h2;refine⟨⟨h1.1,fun i o' h' h3 h4=>h1.2 i o' h' (hold h3).2 h4⟩,?_⟩;have:=hw b hb (h1.2 j o h ho hp);unfold World.cell? at h2 ⊢;rw [this];exact h2
 have hkeep:∀{i:Nat} {o':AObj} {h':Value},i≠j→nth objs i=some (some o')→nth π i=some h'→∀b,blk h'=some b→w'.heap[b]?=w.heap[b]?:=by
  intro i o' h' hne h1 h2 b hb;refine hw b (m.lt h1 h2 hb) fun e=>?_;exact m.dist i j o' o h' h b hne h1 ho h2 hp hb e
 refine⟨⟨by rw [z1t,List.length_set];exact m.len,?_,?_,?_,?_⟩,fun a v hr=>hr.mono hk (fun _ _ h=>h),⟨hos,htape,hout,hsz,?_,?_,fun _ _ h _=>h⟩⟩
 ·intro i o' hi;obtain⟨h1,h2⟩:=hold hi;obtain⟨h',h3,h4⟩:=m.obj i o' h2;exact⟨h',h3,h4.mono hk (fun _ _ h=>h) (hkeep h1 h2 h3)⟩
 ·intro i i' o1 o2 h1 h2 b hne a1 a2;exact m.dist i i' o1 o2 h1 h2 b hne (hold a1).2 (hold a2).2
 ·intro i o' h' b a1;exact m.ext i o' h' b (hold a1).2
 ·intro b hb;exact Nat.lt_of_lt_of_le (m.inX b hb) hsz
 ·intro b hb hn;exact hw b hb fun e=>hn j o h ho hp e
 ·intro i o' h' b a1 a2 a3;exact .inr ⟨i,o',h',(hold a1).2,a2,a3⟩
theorem zm4{e:TypeId}(hc:P.cellsOf e=1)(count off m:Nat)(hn:off+m≤count):liesAt P P.depth e count off e m=true:=by
 have hd:P.depth=(2*(P.types.size+Made.depth)+1)+1:=rfl;rw [hd];simp only [liesAt,Bool.or_eq_true]
 left
 rw [hd];simp [rowAt,hc,hn,sameLayout];exact .inl (Nat.mod_one off)
theorem z7i(w:World)(pt it ty e:TypeId)(hp:P.underlying pt=some (.pointer e))(hc:P.cellsOf e=1)(g off cells:Nat)(hsh:w.shape? g=some (e,cells))(l:List UInt8)(h0:l≠[])(hn:off+l.length≤cells)(h63:l.length≤9223372036854775807)
  (hcell:∀j x,l[j]?=some x→w.cell? ⟨g,off+j,none⟩=some (.int .u8 x.toNat)) :
  (Builtin.unsafeString_ #[pt,it] ty #[.pointer (some ⟨g,off,none⟩),.int .i64 l.length]).run P w=.ok (.string ⟨l.toArray⟩) (w.freeze ⟨g,off,none⟩ l.length):=by
 have hl:l.length≠0:=by simpa using h0
 have hlb:=Go.Lib.run_loadBytes (P:=P) w l ⟨g,off,none⟩ .empty (fun j x h=>by rw [z34];exact hcell j x h);have hlies:=zm4 (P:=P) hc (cells / P.cellsOf e) off l.length (by rw [hc];simpa using hn);have h63':¬(9223372036854775807:Int)<(l.length:Int):=by omega
 have hdef:Builtin.unsafeString_ #[pt,it] ty #[.pointer (some ⟨g,off,none⟩),.int .i64 l.length] =
   (do
    let n ←asInt (.int .i64 l.length)
    if n<0 then runtimePanic (.error "unsafe.String: len out of range")
    if n>IntKind.i64.max then unsupported (.unsafePointer "String: a length above the largest int")
    if n=0 then pure (.string .empty)
    else if ←variablesAt ⟨g,off,none⟩ (←elemOf pt) n.toNat then do
     let s ←loadBytes ⟨g,off,none⟩ .empty n.toNat
     freeze ⟨g,off,none⟩ n.toNat
     pure (.string s)
    else unsupported (.unsafePointer "String: not so many bytes at ptr")):=rfl
 rw [hdef];have hmax:IntKind.i64.max=9223372036854775807:=rfl;have hneg:¬(l.length:Int)<0:=by omega
 simp [asInt,asIntOf,hmax,h63',hneg,hl,variablesAt,hsh,elemOf,run_underlying hp,hlies,hlb]
theorem zkz{i:Nat}{r:List Nat}{o:Oper}{e2:Env}{x y:Operand}{pt it e:TypeId}{j:Nat}{bs:List UInt8}{len:Int}(ho:ops[i]?=some o)(hw:wantE ops env o=.yes)(hop:o.op=.call { callee:=.builtin .unsafeString,args:=#[x,y],argTypes:=#[pt,it] })
  (hx:opnd env x=some (.ge j 1 0 0)) (hy:opnd env y=some (vI .i64 len)) (hobj:nth objs j=some (some (gL e 1 eU8 0 bs))) (hne:bs≠[]) (hlen:len=bs.length) (hp:P.underlying pt=some (.pointer e)) (hc:P.cellsOf e=1)
  (hput:putE n o.dst (vS ⟨bs.toArray⟩) env=some e2) (h:ASat P f n C (.inRegion ops r::k) e2 (za objs j none) R):ASat P f n C (.inRegion ops (i::r)::k) env objs R:=by
 subst hlen;refine za9 ⟨none,false,vS ⟨bs.toArray⟩,none,za objs j none⟩ ho hw (fun X π w tmps m he _=>?_) trivial hput h;have hvx:=zf (ds:=[]) he hx;have hvy:=zf (ds:=[]) he hy;obtain⟨hd,hpj,hrel⟩:=m.obj j _ hobj;revert hvx hvy;generalize hax:Act.eval ⟨tmps,[]⟩ x=vx;generalize hay:Act.eval ⟨tmps,[]⟩ y=vy;intro hvx hvy;cases hvy with|d hvy=>cases hvy with|v _=>
 cases hvx with
 | ge hh=>
  rename_i b off n' c';rw [hpj]at hh;cases hh;have hrel':RelO w (okOf X π objs) π (.grow e 1 (bs.map eU8) (fun i=>eU8 (bs.getD i 0))) (.slice (some ⟨b,off,none⟩) n' c'):=hrel;generalize hys:bs.map eU8=ys at hrel';cases hrel' with
  | gnil=>exact absurd (List.map_eq_nil_iff.1 hys) hne
  | grow hb hz hE hu hcl hm hol hr=>
   rename_i c us vs fz;have hyl:ys.length=bs.length:=by rw [←hys,List.length_map]
   have hE2:∀(l:List UInt8) (us:List Value),RelE w (okOf X π objs) 1 (l.map eU8) us→us.length=l.length∧∀(j:Nat) (x:UInt8),l[j]?=some x→us[j]?=some (Value.int .u8 (x.toNat:Int)):=by
    intro l;induction l with
    | nil=>intro us hE;simp only [List.map_nil]at hE;cases hE;exact⟨rfl,by simp⟩
    | cons x l ih=>
     intro us hE;simp only [List.map_cons]at hE;cases hE with
     | cons h hl ht=>
      obtain⟨h1,h2⟩:=ih _ ht;have h':RelL w (okOf X π objs) [D.v (.int .u8 (x.toNat:Int))] _:=h;cases h' with
      | cons hd hf ht2=>
       cases ht2;cases hd with
       | v _=>
        refine⟨by simp [h1],fun j y hy=>?_⟩;cases j with
        | zero=>simp at hy;subst hy;simp
        | succ j=>simpa using h2 j y (by simpa using hy)
   rw [←hys]at hE;obtain⟨hl1,hl2⟩:=hE2 bs us hE;have hsh:w.shape? b=some (e,vs.length):=by rw [World.shape?,hb];simp
   have hmx:maxLen=9223372036854775807:=rfl;have hcell:∀j x,bs[j]?=some x→w.cell? ⟨b,off+j,none⟩=some (.int .u8 x.toNat):=by
    intro j x hx;rw [cell_of_heap hb,hu j (by have:=(List.getElem?_eq_some_iff.1 hx).1;omega)];exact hl2 j x hx
   have hrun:=z7i (P:=P) w pt it o.type e hp hc b off vs.length hsh bs hne (by omega) (by omega) hcell;refine⟨.string ⟨bs.toArray⟩,w.freeze ⟨b,off,none⟩ bs.length,π,?_,?_,fun _=>.d (.v rfl)⟩
   ·unfold execOp;simp only [hop];have e1:off+0*1+0=off:=by omega
    have hax':Act.eval ⟨tmps,[]⟩ x=.pointer (some ⟨b,off,none⟩):=by rw [hax];simp
    simp [resolve,invoke,builtin,hax',hay,hrun]
   ·have hn0:bs.length≠0:=by simpa using hne
    have hw:w.freeze ⟨b,off,none⟩ bs.length={ w with heap:=(w.freeze ⟨b,off,none⟩ bs.length).heap }:=by simp [World.freeze,hn0]
    refine zr7 m hobj hpj ?_ ?_ ?_ ?_ fun c' hc' hne'=>?_
    ·rw [hw]
    ·rw [hw]
    ·rw [hw];exact⟨rfl,z17 (Nat.le_refl _)⟩
    ·simp [World.freeze,hn0]
    ·have hne2:b≠c':=by
      rintro rfl;have hpos:∃q,ys.length=q+1:=⟨ys.length-1,by omega⟩
      obtain⟨q,hq⟩:=hpos;rw [hq]at hne';exact hne' rfl
     simp [World.freeze,hn0,Array.getElem?_modify,hne2]
end
end Ab
namespace Ab
open Go
variable [Draws]
def dpreK(T:Tab)(n:Nat)(ops:Array Oper):Nat→List Oper→Prop→Env→List (Option AObj)→Option (Prop×List Oper×Env)
 | 0,l,nd,env,_=>some (nd,l,env)
 | _+1,[],_,_,_=>none
 | k+1,o::r,nd,env,objs=>
  match z4a o r (o.looksAt ops)&&z2i o r with
  | false=>none
  | true=>match wantE ops (restr env (o.looksAt ops)) o with
   | .yes=>match pstep T o (restr env (o.looksAt ops)) objs with
    | .ok a=>match putE n o.dst a env with|some e=>dpreK T n ops k r nd e objs|none=>none
    | .iff c a=>match putE n o.dst a env with|some e=>dpreK T n ops k r (c∧nd) e objs|none=>none
    | .no=>none
   | _=>none
section
variable {P:Program}[Globals P]{T:Tab}{f:FuncId}{fn:Func}{n m:Nat}{C:Cx}{R:AV→List (Option AObj)→Prop}{env env0 env' envF:Env}{objs objs':List (Option AObj)}{ops:Array Oper}{K:Env→Prop}{X:Nat→Prop}
theorem z7v(hT:TabOk P T):∀(k:Nat) (l:List Oper) (nd:Prop) (env:Env) {nd':Prop} {l':List Oper} {env':Env},dpreK T n ops k l nd env objs=some (nd',l',env')→nd'→DSat P n X objs ops K l' env'→nd∧DSat P n X objs ops K l env
 | 0,l,nd,env,nd',l',env',h,hn,hd=>by
  simp only [dpreK,Option.some.injEq,Prod.mk.injEq]at h;obtain⟨rfl,rfl,rfl⟩:=h;exact⟨hn,hd⟩
 | k+1,[],_,_,_,_,_,h,_,_=>by simp [dpreK]at h
 | k+1,o::r,nd,env,nd',l',env',h,hn,hd=>by
  simp only [dpreK]at h;cases hf:z4a o r (o.looksAt ops)&&z2i o r with
  | false=>rw [hf]at h;cases h
  | true=>
  rw [hf]at h;simp only at h;simp only [Bool.and_eq_true]at hf;obtain⟨hf1,hf2⟩:=hf;cases hw:wantE ops (restr env (o.looksAt ops)) o with
  | yes=>
   rw [hw]at h;simp only at h;have quiet:∀{a:AV} {e:Env} {c:Prop},c→(pstep T o (restr env (o.looksAt ops)) objs=.ok a∨pstep T o (restr env (o.looksAt ops)) objs=.iff c a)→putE n o.dst a env=some e→DSat P n X objs ops K r e→DSat P n X objs ops K (o::r) env:=by
    intro a e c hc hp hput hr;refine ds_op hf1 hf2 hput hw (fun π w tmps hm he=>?_) hr;have hdo:=z3c (ds:=[]) hT hm he o;rcases hp with hp|hp
    ·rw [hp]at hdo;obtain⟨v,d1,d2⟩:=hdo;exact⟨v,w,d2 w (.refl w),.refl w,d1⟩
    ·rw [hp]at hdo;obtain⟨v,d1,d2⟩:=hdo hc;exact⟨v,w,d2 w (.refl w),.refl w,d1⟩
   cases hp:pstep T o (restr env (o.looksAt ops)) objs with
   | ok a=>
    rw [hp]at h;simp only at h;cases hput:putE n o.dst a env with
    | none=>rw [hput]at h;cases h
    | some e=>
     rw [hput]at h;obtain⟨r1,r2⟩:=z7v hT k r nd e h hn hd;exact⟨r1,quiet trivial (.inl hp) hput r2⟩
   | iff c a=>
    rw [hp]at h;simp only at h;cases hput:putE n o.dst a env with
    | none=>rw [hput]at h;cases h
    | some e=>
     rw [hput]at h;obtain⟨r1,r2⟩:=z7v hT k r (c∧nd) e h hn hd;exact⟨r1.2,quiet r1.1 (.inr hp) hput r2⟩
   | no=>rw [hp]at h;cases h
  | no=>rw [hw]at h;cases h
  | ask t b=>rw [hw]at h;cases h
  | dunno=>rw [hw]at h;cases h
theorem z2z(k:Nat){l l':List Oper}{nd':Prop}(hT:TabOk P T)(h:dpreK T n ops k l True env objs=some (nd',l',env'))(hn:nd')(hd:DSat P n X objs ops K l' env'):DSat P n X objs ops K l env:=
 (z7v hT k l True env h hn hd).2
theorem zsm{o:Oper}{r:List Oper}{e2:Env}{x:Operand}{ty:TypeId}{e:TypeId}{j:Nat}{bs:List UInt8}(hop:o.op=.call { callee:=.builtin .unsafeSliceData,args:=#[x],argTypes:=#[ty] })(hfree:z4a o r (o.looksAt ops)=true)(halone:z2i o r=true)(hw:wantE ops (restr env (o.looksAt ops)) o=.yes)
  (hx:opnd (restr env (o.looksAt ops)) x=some (.gs j)) (hobj:nth objs j=some (some (gL e 1 eU8 0 bs))) (hne:bs≠[]) (hput:putE n o.dst (.ge j 1 0 0) env=some e2) (h:DSat P n X objs ops K r e2):DSat P n X objs ops K (o::r) env:=by
 refine ds_op hfree halone hput hw (fun π w tmps m he=>?_) h;have hv:=zf (ds:=[]) he hx;obtain⟨hd,hpj,hrel⟩:=m.obj j _ hobj;revert hv;generalize hax:Act.eval ⟨tmps,[]⟩ x=vx;intro hv;cases hv with
 | gs hh=>
  rename_i n' c' A;rw [hpj]at hh;cases hh;have hrel':RelO w (okOf X π objs) π (.grow e 1 (bs.map eU8) (fun i=>eU8 (bs.getD i 0))) (.slice A n' c'):=hrel;generalize hys:bs.map eU8=ys at hrel';cases hrel' with
  | gnil=>exact absurd (List.map_eq_nil_iff.1 hys) hne
  | grow hb hz hE hu hcl hm hol hr=>
   rename_i b off c us vs fz;refine⟨.pointer (some ⟨b,off,none⟩),w,?_,.refl w,?_⟩
   ·have hrun:=Go.Lib.run_unsafeSliceData_row (P:=P) (w:=w) #[ty] o.type ⟨b,off,none⟩ ys.length (c+1) (by omega);unfold execOp;simp only [hop];simp [resolve,invoke,builtin,hax,hrun]
   ·have:=RelV.ge (w:=w) (ok:=okOf X π objs) (π:=π) (s:=1) (j:=0) (off:=0) hpj;simpa using this
theorem zjw{o:Oper}{r:List Oper}{e2:Env}{x:Operand}{ty pe:TypeId}(hop:o.op=.call { callee:=.builtin .unsafeSliceData,args:=#[x],argTypes:=#[ty] })(hp:P.underlying o.type=some (.pointer pe))(hfree:z4a o r (o.looksAt ops)=true)(halone:z2i o r=true)(hw:wantE ops (restr env (o.looksAt ops)) o=.yes)
  (hx:opnd (restr env (o.looksAt ops)) x=some (.d (.v (.slice none 0 0)))) (hput:putE n o.dst (.d (.v (.pointer none))) env=some e2) (h:DSat P n X objs ops K r e2):DSat P n X objs ops K (o::r) env:=by
 refine ds_op hfree halone hput hw (fun π w tmps m he=>?_) h;have hv:=zf (ds:=[]) he hx;revert hv;generalize hax:Act.eval ⟨tmps,[]⟩ x=vx;intro hv;cases hv with
 | d hv=>cases hv with
  | v _=>
   refine⟨.pointer none,w,?_,.refl w,.d (.v rfl)⟩;have hrun:=Go.Lib.run_unsafeSliceData_nil (P:=P) (w:=w) #[ty] o.type 0 0;unfold execOp;simp only [hop];simp [resolve,invoke,builtin,hax,hrun]
theorem zg8{i:Nat}{r:List Nat}{k:List Item}{o:Oper}{e2:Env}{x y:Operand}{pt it:TypeId}(ho:ops[i]?=some o)(hw:wantE ops env o=.yes)(hop:o.op=.call { callee:=.builtin .unsafeString,args:=#[x,y],argTypes:=#[pt,it] })
  (hx:opnd env x=some (.d (.v (.pointer none)))) (hy:opnd env y=some (vI .i64 0)) (hput:putE n o.dst (vS .empty) env=some e2) (h:ASat P f n C (.inRegion ops r::k) e2 objs R):ASat P f n C (.inRegion ops (i::r)::k) env objs R:=by
 refine z4z (vS .empty) ho hw (fun X π w tmps m he=>?_) hput h;have hax:=z49 (P:=P) he hx;have hay:=z49 (P:=P) he hy;have hrun:=Go.Lib.run_unsafeString_none (P:=P) (w:=w) pt it o.type none;refine⟨.string .empty,?_,.d (.v rfl)⟩;unfold execOp;simp only [hop];simp [resolve,invoke,builtin,hax,hay,hrun]
end
end Ab
namespace Go.Proofs.YtbodbhpdelgpnaaGreatDoor
open Go Ab
@[reducible] def adrB(a:Bool):AV:=match a with|true=>.ptr 0 0|false=>.d (.v (.pointer none))
@[reducible] def nilS:AV:=.d (.v (.slice none 0 0))
@[reducible] def gB(bs:List UInt8):AObj:=gL 5 1 eU8 0 bs
@[reducible] def bF(a:Bool):AObj:=.cells 100 [adrB a,nilS]
@[reducible] def bW:AObj:=.cells 100 [.ptr 0 0,.gs 1]
theorem ze7(o0:AObj):ACall Tryz.prog 119 [.ptr 0 0] [some o0] (fun r o=>r=.ptr 0 0∧o=[some o0]):=by
 intro X π w vs hgk hm hv;cases hv with|cons h1 hv=>
 cases hv;rename_i v;refine .inr ⟨v,w,?_,v,_,_,π,rfl,⟨rfl,rfl⟩,hm,h1,.refl _ _ _⟩;show(callFunc 119 #[v]).run Tryz.prog w=_;rw [run_callFunc_extern (e:=Extern.AbiNoEscape.same) Tryz.func119 rfl rfl (by kernel_rfl) (by kernel_rfl),Go.Lib.run_noEscape];rfl
theorem z74(a:Bool):ACall Tryz.prog 89 [.ptr 0 0] [some (bF a)] (fun r o=>r=.tp []∧o=[some (bF true)]):=by
 cases a with
 | false=>
  refine yN Tryz.func89 fun C hC hCl hDs hGk=>?_;refine yT Tryz.func89 rfl trivial ?_;refine z9q tabOk Tryz.func89 rfl trivial ?_;refine zes rfl rfl rfl rfl rfl (by decide) Tryz.underlying98 Tryz.underlying173 (sz:=1) (by kernel_rfl) rfl ?_;refine yW [0] Tryz.func89 rfl trivial (ze7 (bF false)) ⟨⟨_,rfl,.refl _⟩,trivial⟩ (.refl _) ?_;refine z9q tabOk Tryz.func89 rfl trivial ?_;refine zbq rfl rfl rfl rfl rfl Tryz.underlying173 Tryz.underlying98 (sz:=2) (by kernel_rfl) (by kernel_rfl) rfl ?_;exact yL Tryz.func89 rfl trivial (.refl _) (oAl rfl) ⟨rfl,rfl⟩ (o2:=[some (bF true)])
 | true=>
  refine yN Tryz.func89 fun C hC hCl hDs hGk=>?_;refine yF Tryz.func89 rfl trivial ?_;refine z9q tabOk Tryz.func89 rfl trivial ?_;refine zaa rfl rfl rfl rfl rfl rfl Tryz.underlying98 (sz:=2) (by kernel_rfl) rfl ?_;exact yL Tryz.func89 rfl trivial (.refl _) (oAl rfl) ⟨rfl,rfl⟩ (o2:=[some (bF true)])
theorem zcs(bs:List UInt8):ACall Tryz.prog 89 [.ptr 0 0] [some bW,some (gB bs)] (fun r o=>r=.tp []∧o=[some bW,some (gB bs)]):=by
 refine yN Tryz.func89 fun C hC hCl hDs hGk=>?_;refine yF Tryz.func89 rfl trivial ?_;refine z9q tabOk Tryz.func89 rfl trivial ?_;refine zaa rfl rfl rfl rfl rfl rfl Tryz.underlying98 (sz:=2) (by kernel_rfl) rfl ?_;exact yL Tryz.func89 rfl trivial (.refl _) (oAl rfl) ⟨rfl,rfl⟩ (o2:=[some bW,some (gB bs)])
theorem z9i(bs:List UInt8)(hne:bs≠[]):ACall Tryz.prog 59 [.ptr 0 0] [some bW,some (gB bs)] (fun r o=>r=vS ⟨bs.toArray⟩∧o=[none,none]):=by
 refine yN Tryz.func59 fun C hC hCl hDs hGk=>?_;refine yO 10 Tryz.func59 rfl trivial ?_;refine z2z 4 tabOk rfl trivial ?_;refine zsm rfl rfl rfl rfl rfl rfl hne rfl ?_;refine yq rfl trivial ?_;refine zkz rfl rfl rfl rfl rfl rfl hne (by rw [List.length_map]) Tryz.underlying139 (by kernel_rfl) rfl ?_;exact yL Tryz.func59 rfl trivial (.refl _) trivial ⟨rfl,rfl⟩ (o2:=[none,none])
theorem zbo(a:Bool)(c:UInt8):ACall Tryz.prog 205 [.ptr 0 0,vI .u8 (c.toNat:Int)] [some (bF a)] (fun r o=>r=.d (.v .nilIface)∧o=[some bW,some (gB [c])]):=by
 refine yN Tryz.func205 fun C hC hCl hDs hGk=>?_;cases a;all_goals
  first
   |refine yG [0] Tryz.func205 rfl trivial (z74 false) ⟨⟨_,rfl,.refl _⟩,trivial⟩ (.refl _) ?_
   |refine yG [0] Tryz.func205 rfl trivial (z74 true) ⟨⟨_,rfl,.refl _⟩,trivial⟩ (.refl _) ?_
  rintro r o ⟨rfl,rfl⟩;refine z2q 0 1 (e':=5) (s:=1) (fun i=>eU8 (([]:List UInt8).getD i 0)) rfl rfl ?_;refine yL Tryz.func205 rfl (by simp [andP]<;>omega) (.refl _) ⟨.refl _,.gL rfl,trivial⟩ ⟨rfl,rfl⟩ (o2:=[some bW,some (gB [c])])
theorem zbn(bs:List UInt8)(c:UInt8)(hl:bs.length≤1000000000):ACall Tryz.prog 205 [.ptr 0 0,vI .u8 (c.toNat:Int)] [some bW,some (gB bs)] (fun r o=>r=.d (.v .nilIface)∧o=[some bW,some (gB (bs++[c]))]):=by
 refine yN Tryz.func205 fun C hC hCl hDs hGk=>?_;refine yW [0,1] Tryz.func205 rfl trivial (zcs bs) ⟨⟨_,rfl,.refl _⟩,⟨_,rfl,.refl _⟩,trivial⟩ (.refl _) ?_;refine yL Tryz.func205 rfl ?_ (.refl _) ⟨.refl _,.gL (by rw [List.map_append];rfl),trivial⟩ ⟨rfl,rfl⟩ (o2:=[some bW,some (gB (bs++[c]))]);simp only [andP,List.length_map,List.length_cons,List.length_nil];refine⟨?_,trivial⟩;show(bs.length+(0+1))*1≤_;omega
@[reducible] def bFz:AObj:=.cells 100 [.d (.v (.pointer none)),nilS]
@[reducible] def bWat(i j:Nat):AObj:=.cells 100 [.ptr i 0,.gs j]
def digU(b:Bool):UInt8:=if b then 49 else 48
def textU(w:Nat)(l:List Nat):List UInt8:=(List.range w).map fun i=>digU (bitN l (w-1-i))
theorem zc0(w:Nat)(l:List Nat)(i:Nat)(h:i<w):(textU w l).take (i+1)=(textU w l).take i++[digU (bitN l (w-1-i))]:=by
 rw [List.take_add_one];simp [textU,h]
theorem za4(w:Nat)(l:List Nat):(textU w l).length=w:=by simp [textU]
def txO(w:Nat)(l:List Nat):Nat→List (Option AObj)
 | 0=>[some (bV w l),some bFz]
 | i+1=>[some (bV w l),some (bWat 1 2),some (gB ((textU w l).take (i+1)))]
theorem znr(w:Nat)(l:List Nat)(hl:lims l)(hw:z6 w≤l.length)(h0:0<w)(hb:w≤100000):ACall Tryz.prog 204 [.d (eV w l)] [] (fun r o=>r=vS ⟨(textU w l).toArray⟩):=by
 refine yN Tryz.func204 fun C hC hCl hDs hGk=>?_;refine yS Tryz.func204 rfl trivial ?_;refine z8 (α:=Nat) (fun i=>[(1,.ptr 0 0),(3,.ptr 1 0),(6,vI .i64 w),(7,vI .i64 i)]) (fun i=>txO w l i) (fun i=>i≤w) (fun i=>w-i) 0 (Nat.zero_le _) ?_ ?_
 ·exact fun h=>yE h (eAl rfl) (oAl rfl)
 rintro i hi ih;have hih:∀j,j=i+1→j≤w→ASat Tryz.prog 204 Tryz.f204.ntmps C _ _ _ _:=fun j hj hw=>ih j hw (by omega)
 have key:i<w→bitV w l (((w-1-i:Nat):Int))=bitN l (w-1-i):=fun h=>by
  have:((w-1-i:Nat):Int)<w:=by omega
  simp [bitV,this]
 have e1:i<w→IntKind.i64.wrap (IntKind.i64.wrap ((w:Int)-1)-i)=((w-1-i:Nat):Int):=fun h=>by
  rw [z7 (n:=(w:Int)-1) (by omega) (by omega),z7 (by omega) (by omega)];omega
 cases i with
 | zero=>
  refine yB Tryz.func204 rfl trivial (fun _=>?_) (fun h=>by simp at h;omega);refine yV Tryz.func204 rfl trivial (za1 w l ((w-1-0:Nat):Int) hl hw (by omega)) ⟨.refl _,.of (by show vI .i64 (IntKind.i64.wrap (IntKind.i64.wrap ((w:Int)-1)-(0:Nat)))=_;rw [e1 h0]),trivial⟩ ?_;rw [key h0];have fin:∀c,c=digU (bitN l (w-1-0))→OLe (gB [c]) (gB ((textU w l).take (0+1))):=fun c hc=>by
   rw [zc0 w l 0 h0,hc];exact .refl _
  refine yB Tryz.func204 rfl trivial (fun hbt=>?_) (fun hbt=>?_)
  ·refine yW [1] Tryz.func204 rfl trivial (zbo false 49) ⟨⟨_,rfl,.refl _⟩,trivial⟩ (.refl _) ?_;refine yS Tryz.func204 rfl trivial ?_;exact yE (hih 1 rfl h0) (eAl rfl) ⟨.refl _,.refl _,fin _ (by rw [hbt];rfl),trivial⟩
  ·refine yW [1] Tryz.func204 rfl trivial (zbo false 48) ⟨⟨_,rfl,.refl _⟩,trivial⟩ (.refl _) ?_;refine yS Tryz.func204 rfl trivial ?_;exact yE (hih 1 rfl h0) (eAl rfl) ⟨.refl _,.refl _,fin _ (by rw [hbt];rfl),trivial⟩
 | succ i=>
  refine yB Tryz.func204 rfl trivial (fun hlt=>?_) (fun hlt=>?_)
  ·have hlt:i+1<w:=by simp at hlt;omega
   have hlen:((textU w l).take (i+1)).length≤1000000000:=by rw [List.length_take,za4];omega
   refine yV Tryz.func204 rfl trivial (za1 w l ((w-1-(i+1):Nat):Int) hl hw (by omega)) ⟨.refl _,.of (by show vI .i64 (IntKind.i64.wrap (IntKind.i64.wrap ((w:Int)-1)-((i+1:Nat):Int)))=_;rw [e1 hlt]),trivial⟩ ?_;rw [key hlt];have fin:∀c,c=digU (bitN l (w-1-(i+1)))→OLe (gB ((textU w l).take (i+1)++[c])) (gB ((textU w l).take (i+1+1))):=fun c hc=>by
    rw [zc0 w l (i+1) hlt,hc];exact .refl _
   refine yB Tryz.func204 rfl trivial (fun hbt=>?_) (fun hbt=>?_)
   ·refine yW [1,2] Tryz.func204 rfl trivial (zbn _ 49 hlen) ⟨⟨_,rfl,.refl _⟩,⟨_,rfl,.refl _⟩,trivial⟩ (.refl _) ?_;refine yS Tryz.func204 rfl trivial ?_;exact yE (hih (i+2) rfl hlt) ⟨erl rfl,erl rfl,erl rfl,erw rfl,trivial⟩ ⟨.refl _,.refl _,fin _ (by rw [hbt];rfl),trivial⟩
   ·refine yW [1,2] Tryz.func204 rfl trivial (zbn _ 48 hlen) ⟨⟨_,rfl,.refl _⟩,⟨_,rfl,.refl _⟩,trivial⟩ (.refl _) ?_;refine yS Tryz.func204 rfl trivial ?_;exact yE (hih (i+2) rfl hlt) ⟨erl rfl,erl rfl,erl rfl,erw rfl,trivial⟩ ⟨.refl _,.refl _,fin _ (by rw [hbt];rfl),trivial⟩
  ·have hw':i+1=w:=by simp at hlt;omega
   have e2:(textU w l).take (i+1)=textU w l:=List.take_of_length_le (by rw [za4];omega);have hne:textU w l≠[]:=by
    intro h;have:=za4 w l;rw [h]at this;simp at this;omega
   have e3:txO w l (i+1)=[some (bV w l),some (bWat 1 2),some (gB (textU w l))]:=by rw [txO,e2]
   rw [e3];refine yW [1,2] Tryz.func204 rfl trivial (z9i (textU w l) hne) ⟨⟨_,rfl,.refl _⟩,⟨_,rfl,.refl _⟩,trivial⟩ (.refl _) ?_;exact yR Tryz.func204 rfl trivial rfl
theorem z4w(l:List Nat)(i:Nat):bitN l i=(l.getD (i / 64) 0).testBit (i%64):=by
 rw [bitN,Nat.testBit_eq_decide_div_mod_eq];rfl
def ofB(f:Nat→Bool):Nat→Nat
 | 0=>0
 | n+1=>ofB f n+if f n then 2^n else 0
theorem z6d(f:Nat→Bool):∀n,ofB f n<2^n
 | 0=>by simp [ofB]
 | n+1=>by
  have:=z6d f n;rw [ofB,Nat.pow_succ];split<;>omega
theorem zas(f:Nat→Bool)(i:Nat):∀n,(ofB f n).testBit i=(decide (i<n)&&f i)
 | 0=>by simp [ofB]
 | n+1=>by
  have hlt:=z6d f n;have ih:=zas f i n;rw [ofB];cases hf:f n with
  | false=>
   rw [if_neg (by simp),Nat.add_zero,ih];by_cases e:i=n
   ·subst e;simp [hf]
   ·rw [decide_eq_decide.2 (show i<n↔i<n+1 by omega)]
  | true=>
   rw [if_pos rfl,Nat.add_comm];rcases Nat.lt_trichotomy i n with h|h|h
   ·rw [Nat.testBit_two_pow_add_gt h,ih];simp [h,Nat.lt_succ_of_lt h]
   ·subst h;rw [Nat.testBit_two_pow_add_eq,ih];simp [hf]
   ·rw [Nat.testBit_lt_two_pow]
    ·simp [show ¬i<n+1 by omega]
    ·calc 2^n+ofB f n<2^(n+1):=by rw [Nat.pow_succ];omega
      _≤2^i:=Nat.pow_le_pow_right (by decide) (by omega)
theorem zlr{f:Nat→Bool}{n x:Nat}(hx:x<2^n)(h:∀i,i<n→f i=x.testBit i):ofB f n=x:=by
 apply Nat.eq_of_testBit_eq;intro i;rw [zas];by_cases hi:i<n
 ·simp [hi,h i hi]
 ·rw [Nat.testBit_lt_two_pow (x:=x) (i:=i) (Nat.lt_of_lt_of_le hx (Nat.pow_le_pow_right (by decide) (by omega)))];simp [hi]
def lw(X i:Nat):Nat:=X / 2^(64*i)%2^64
def lmb(n X:Nat):List Nat:=(List.range n).map (lw X)
theorem lw_tb(X i k:Nat):(lw X i).testBit k=(decide (k<64)&&X.testBit (64*i+k)):=by
 rw [lw,Nat.testBit_mod_two_pow,Nat.testBit_div_two_pow,Nat.add_comm]
theorem lw_lt(X i:Nat):lw X i<18446744073709551616:=Nat.mod_lt _ (by decide)
theorem zr(n X:Nat):(lmb n X).length=n:=by simp [lmb]
theorem z3a{n X i:Nat}(h:i<n):(lmb n X).getD i 0=lw X i:=by simp [lmb,h]
theorem z14(n X:Nat):lims (lmb n X):=by
 intro x hx;obtain⟨i,_,rfl⟩:=List.mem_map.1 hx;exact lw_lt X i
theorem z4q{n X i:Nat}(h:i / 64<n):bitN (lmb n X) i=X.testBit i:=by
 rw [z4w,z3a h,lw_tb];have:i%64<64:=Nat.mod_lt _ (by decide);simp [this,Nat.div_add_mod]
theorem zb0{l:List Nat}{n X:Nat}(hlen:l.length=n)(hl:lims l)(h:∀i,i<64*n→bitN l i=X.testBit i):l=lmb n X:=by
 apply List.ext_getElem?;intro j;rcases Nat.lt_or_ge j n with hj|hj
 ·have e1:l[j]?=some (l.getD j 0):=by simp [show j<l.length by omega]
  have e2:(lmb n X)[j]?=some ((lmb n X).getD j 0):=by simp [show j<(lmb n X).length by rw [zr];omega]
  rw [e1,e2,z3a hj];congr 1;apply Nat.eq_of_testBit_eq;intro k;rw [lw_tb];by_cases hk:k<64
  ·have:=h (64*j+k) (by omega);rw [z4w,show(64*j+k) / 64=j by omega,show(64*j+k)%64=k by omega]at this;rw [this];simp [hk]
  ·rw [Nat.testBit_lt_two_pow (Nat.lt_of_lt_of_le (z29 hl j) (show 2^64≤2^k from Nat.pow_le_pow_right (by decide) (by omega)))];simp [hk]
 ·rw [List.getElem?_eq_none (by omega),List.getElem?_eq_none (by rw [zr];omega)]
theorem zm2{n X Y:Nat}(hX:X<2^(64*n))(hY:Y<2^(64*n))(h:lmb n X=lmb n Y):X=Y:=by
 apply Nat.eq_of_testBit_eq;intro i;rcases Nat.lt_or_ge i (64*n)with hi|hi
 ·rw [←z4q (n:=n) (X:=X) (by omega),h,z4q (by omega)]
 ·have hp:2^(64*n)≤2^i:=Nat.pow_le_pow_right (by decide) hi;rw [Nat.testBit_lt_two_pow (Nat.lt_of_lt_of_le hX hp),Nat.testBit_lt_two_pow (Nat.lt_of_lt_of_le hY hp)]
theorem w_le(w:Nat):w≤64*z6 w:=by unfold z6;omega
theorem tb_ge{w x i:Nat}(hx:x<2^w)(hi:w≤i):x.testBit i=false:=Nat.testBit_lt_two_pow (Nat.lt_of_lt_of_le hx (Nat.pow_le_pow_right (by decide) hi))
theorem z6w{w x:Nat}(hx:x<2^w):x<2^(64*z6 w):=Nat.lt_of_lt_of_le hx (Nat.pow_le_pow_right (by decide) (w_le w))
theorem zq2{w:Nat}{l:List Nat}(hlen:l.length=z6 w){i:Nat}(hi:i<64*z6 w):bitN (cutL w l) i=(decide (i<w)&&bitN l i):=by
 have hm:w%64<64:=Nat.mod_lt _ (by decide);have hn:z6 w=(w+63) / 64:=rfl;unfold cutL;split
 ·rename_i h;rw [z4w,z4w];by_cases e:i / 64=l.length-1
  ·have e1:(l.set (l.length-1) (l.getD (l.length-1) 0%2^(w%64))).getD (i / 64) 0=l.getD (l.length-1) 0%2^(w%64):=by
    rw [e];simp [show l.length-1<l.length by omega]
   rw [e1,Nat.testBit_mod_two_pow,e,decide_eq_decide.2 (show i%64<w%64↔i<w by omega)]
  ·have e1:(l.set (l.length-1) (l.getD (l.length-1) 0%2^(w%64))).getD (i / 64) 0=l.getD (i / 64) 0:=by
    simp [List.getElem?_set,Ne.symm e]
   rw [e1];simp [show i<w by omega]
 ·rename_i h;simp [show i<w by omega]
theorem zpv(w:Nat)(l:List Nat):(cutL w l).length=l.length:=by unfold cutL;split<;>simp
theorem zbf(w X:Nat):cutL w (lmb (z6 w) X)=lmb (z6 w) (X%2^w):=by
 refine zb0 (by rw [zpv,zr]) (zn6 (z14 _ _)) fun i hi=>?_;rw [zq2 (zr _ _) hi,z4q (by omega),Nat.testBit_mod_two_pow]
theorem zne{l:List Nat}{j i:Nat}(hj:j / 64<l.length):bitN (setB l j) i=(bitN l i||decide (i=j)):=by
 rw [z4w,z4w,setB];by_cases e:i / 64=j / 64
 ·have e1:(l.set (j / 64) (l.getD (j / 64) 0 ||| 2^(j%64))).getD (i / 64) 0=l.getD (j / 64) 0 ||| 2^(j%64):=by
   rw [e];simp [hj]
  rw [e1,Nat.testBit_or,Nat.testBit_two_pow,e,decide_eq_decide.2 (show j%64=i%64↔i=j by omega)]
 ·have e1:(l.set (j / 64) (l.getD (j / 64) 0 ||| 2^(j%64))).getD (i / 64) 0=l.getD (i / 64) 0:=by
   simp [List.getElem?_set,Ne.symm e]
  rw [e1];have:i≠j:=fun h=>e (by rw [h])
  simp [this]
theorem z4g(n:Nat):List.replicate n 0=lmb n 0:=by
 refine zb0 (by simp) (zfe n) fun i hi=>?_;rw [z4w,Nat.zero_testBit,List.getD_eq_getElem?_getD,List.getElem?_replicate];split<;>simp
theorem z4k{n X j:Nat}(hj:j / 64<n):setB (lmb n X) j=lmb n (X ||| 2^j):=by
 refine zb0 (by rw [zhr,zr]) (zeq (z14 _ _) _) fun i hi=>?_;rw [zne (by rw [zr];exact hj),z4q (by omega),Nat.testBit_or,Nat.testBit_two_pow,decide_eq_decide.2 (show i=j↔j=i from eq_comm)]
theorem zqy{α:Type}{F:Nat→Nat→Nat}{a b:List Nat}{i:Nat}(ha:i<a.length)(hb:i<b.length):(List.zipWith F a b).getD i 0=F (a.getD i 0) (b.getD i 0):=by
 simp [List.getElem?_zipWith,ha,hb]
theorem zcw{F G:Nat→Nat→Nat}{n X Y:Nat}(hF:∀x y,x<18446744073709551616→y<18446744073709551616→F x y<18446744073709551616)
  (h:∀i,i<n→∀k,k<64→(F (lw X i) (lw Y i)).testBit k=(G X Y).testBit (64*i+k)):List.zipWith F (lmb n X) (lmb n Y)=lmb n (G X Y):=by
 refine zb0 (by simp [zr]) (zhh (z14 _ _) (z14 _ _) hF) fun i hi=>?_;rw [z4w,zqy (α:=Nat) (by rw [zr];omega) (by rw [zr];omega),z3a (by omega),z3a (by omega),h _ (by omega) _ (Nat.mod_lt _ (by decide)),Nat.div_add_mod]
theorem zss(n X Y:Nat):List.zipWith (· &&& ·) (lmb n X) (lmb n Y)=lmb n (X &&& Y):=
 zcw (G:=(· &&& ·)) (fun x y hx _=>Nat.lt_of_le_of_lt Nat.and_le_left hx) fun i _ k hk=>by simp [Nat.testBit_and,lw_tb,hk]
theorem zt7(n X Y:Nat):List.zipWith (· ||| ·) (lmb n X) (lmb n Y)=lmb n (X ||| Y):=
 zcw (G:=(· ||| ·)) (fun x y hx hy=>Nat.or_lt_two_pow (n:=64) hx hy) fun i _ k hk=>by simp [Nat.testBit_or,lw_tb,hk]
theorem zr0(n X Y:Nat):List.zipWith (· ^^^ ·) (lmb n X) (lmb n Y)=lmb n (X ^^^ Y):=
 zcw (G:=(· ^^^ ·)) (fun x y hx hy=>Nat.xor_lt_two_pow (n:=64) hx hy) fun i _ k hk=>by simp [Nat.testBit_xor,lw_tb,hk]
theorem zru{n X:Nat}(hX:X<2^(64*n)):List.zipWith notN (lmb n X) (lmb n X)=lmb n (2^(64*n)-(X+1)):=
 zcw (G:=fun X _=>2^(64*n)-(X+1)) (fun x y hx _=>by unfold notN;omega) fun i hi k hk=>by
  show(notN (lw X i) (lw X i)).testBit k=_;rw [Nat.testBit_two_pow_sub_succ hX,notN,show 18446744073709551615-lw X i=2^64-(lw X i+1)by have:=lw_lt X i;omega,Nat.testBit_two_pow_sub_succ (lw_lt X i),lw_tb];simp [hk,show 64*i+k<64*n by omega]
theorem notw{w X:Nat}(hX:X<2^w):(2^(64*z6 w)-(X+1))%2^w=2^w-(X+1):=by
 apply Nat.eq_of_testBit_eq;intro i;rw [Nat.testBit_mod_two_pow,Nat.testBit_two_pow_sub_succ (z6w hX),Nat.testBit_two_pow_sub_succ hX];by_cases hi:i<w
 ·have:=w_le w;simp [hi,show i<64*z6 w by omega]
 ·simp [hi]
theorem z9p(X i:Nat):X%2^(64*(i+1))=X%2^(64*i)+2^(64*i)*lw X i:=by
 rw [lw,show 64*(i+1)=64*i+64 by omega,Nat.pow_add,Nat.mod_mul]
theorem zqv{n X Y c:Nat}:∀i,i≤n→crN c (lmb n X) (lmb n Y) i=(X%2^(64*i)+Y%2^(64*i)+c) / 2^(64*i)
 | 0,_=>by simp [crN,Nat.mod_one]
 | i+1,h=>by
  rw [crN,zqv i (by omega),z3a (by omega),z3a (by omega),z9p X i,z9p Y i];have hp:0<2^(64*i):=Nat.two_pow_pos _;rw [show 64*(i+1)=64*i+64 by omega,Nat.pow_add,←Nat.div_div_eq_div_mul,show(18446744073709551616:Nat)=2^64 from rfl];congr 1;rw [show X%2^(64*i)+2^(64*i)*lw X i+(Y%2^(64*i)+2^(64*i)*lw Y i)+c=(X%2^(64*i)+Y%2^(64*i)+c)+2^(64*i)*(lw X i+lw Y i)by rw [Nat.mul_add];omega];rw [Nat.add_mul_div_left _ _ hp];omega
theorem zr9(n X Y c:Nat):sumV c (lmb n X) (lmb n Y) n=lmb n (X+Y+c):=by
 unfold sumV;apply List.map_congr_left;intro i hi;have hi:=List.mem_range.1 hi;rw [sumN,zqv i (by omega),z3a hi,z3a hi,lw,lw,lw,show(18446744073709551616:Nat)=2^64 from rfl];have hp:0<2^(64*i):=Nat.two_pow_pos _;have e:X+Y+c=(X%2^(64*i)+Y%2^(64*i)+c)+2^(64*i)*(X / 2^(64*i)+Y / 2^(64*i)):=by
  rw [Nat.mul_add];have h1:=Nat.mod_add_div X (2^(64*i));have h2:=Nat.mod_add_div Y (2^(64*i));omega
 rw [e,Nat.add_mul_div_left _ _ hp];omega
theorem zo9(w X Y c:Nat):sumR w c (lmb (z6 w) X) (lmb (z6 w) Y)=lmb (z6 w) ((X+Y+c)%2^w):=by
 rw [sumR,zr9,zbf]
theorem zd1{w X k:Nat}:∀i,i≤w-k→upI (lmb (z6 w) X) w k i=lmb (z6 w) (X%2^i*2^k)
 | 0,_=>by simp [upI,z4g,Nat.mod_one]
 | i+1,h=>by
  have hw:=w_le w;have e:X%2^(i+1)=X%2^i+if X.testBit i then 2^i else 0:=by
   rw [Nat.pow_succ,Nat.mod_mul,Nat.testBit_eq_decide_div_mod_eq];rcases Nat.mod_two_eq_zero_or_one (X / 2^i)with h|h<;>simp [h]
  rw [upI,zd1 i (by omega),z4q (by omega),e];cases X.testBit i with
  | false=>simp
  | true=>
   rw [if_pos rfl,if_pos rfl,z4k (by omega)];congr 1;have hlt:X%2^i*2^k<2^(i+k):=by
    rw [Nat.pow_add];exact Nat.mul_lt_mul_of_pos_right (Nat.mod_lt _ (Nat.two_pow_pos _)) (Nat.two_pow_pos _)
   have:=Nat.two_pow_add_eq_or_of_lt hlt 1;rw [Nat.mul_one]at this;rw [Nat.add_mul,←Nat.pow_add,Nat.or_comm,←this,Nat.add_comm]
theorem zf0{n x:Nat}(h1:1≤n)(h2:n≤128)(hx:x<2^n):z83 (n:Int) (lmb (z6 n) x)=true:=by
 simp only [z83,Bool.and_eq_true,decide_eq_true_eq,Bool.or_eq_true,Int.toNat_natCast,zr];refine⟨⟨⟨by omega,by omega⟩,trivial⟩,?_⟩;by_cases hm:n%64=0
 ·exact .inl hm
 ·refine .inr (Nat.div_eq_of_lt ?_);have hn:z6 n=(n+63) / 64:=rfl;rw [z3a (by omega),lw];refine Nat.lt_of_le_of_lt (Nat.mod_le _ _) ?_;rw [Nat.div_lt_iff_lt_mul (Nat.two_pow_pos _),←Nat.pow_add];exact Nat.lt_of_lt_of_le hx (Nat.pow_le_pow_right (by decide) (by omega))
end Go.Proofs.YtbodbhpdelgpnaaGreatDoor
namespace Ab
open Go
variable [Draws]
section
variable {P:Program}[Globals P]{T:Tab}{f:FuncId}{fn:Func}{n:Nat}{C:Cx}{R:AV→List (Option AObj)→Prop}{todo todo' k:List Item}{env env':Env}{objs objs':List (Option AObj)}{ops:Array Oper}
theorem zht{i:Nat}{r:List Nat}{o:Oper}{e:Env}(a:AV)(hT:TabOk P T)(ho:ops[i]?=some o)(hw:wantE ops env o=.yes)(hp:pstep T o env objs=.ok a)(hput:putE n o.dst a env=some e)
  (h:ASat P f n C (.inRegion ops r::k) e objs R):ASat P f n C (.inRegion ops (i::r)::k) env objs R:=by
 refine z4z a ho hw (fun X π w tmps m he=>?_) hput h;have hdo:=z3c (ds:=[]) hT m he o;rw [hp]at hdo;obtain⟨v,d1,d2⟩:=hdo;exact⟨v,d2 w (.refl w),d1⟩
theorem zbs{t e:TypeId}{r re:TRow}{m j off i:Nat}{ki:IntKind}(h1:tlook T t=some r)(h2:r.kd=.array m e)(h3:tlook T e=some re)(hi:i<m):
  z56 T t objs (.ptr j off) (.d (.v (.int ki ((i:Nat):Int))))=.ok (.ptr j (off+i*re.size)):=by
 have hb:Nat.blt i m=true:=by rw [Nat.blt_eq];exact hi
 simp only [z56,h1,h2,h3,show asNat (.d (.v (.int ki ((i:Nat):Int))))=some i from rfl,hb]
theorem zlc{t e:TypeId}{r:TRow}{j off:Nat}{cs:List AV}{a:AV}(h1:tlook T t=some r)(h2:r.isAgg=false)(h3:nth objs j=some (some (.cells e cs)))(h4:nth cs off=some a):pLoad T t objs (.ptr j off)=.ok a:=by
 simp only [pLoad,h1,objAt,h3,cut1,h2,h4]
end
end Ab
namespace Go.Proofs.YtbodbhpdelgpnaaGreatDoor
open Go Ab
@[reducible] def vSL(l:List UInt8):AV:=vS ⟨l.toArray⟩
theorem zo(l:List UInt8)(i:Nat):bt ⟨l.toArray⟩ i=((l.getD i 0).toNat:Int):=by
 simp [bt]
theorem ze4(l:List UInt8)(a b:Nat):(⟨l.toArray⟩:ByteArray).extract a b=⟨((l.take b).drop a).toArray⟩:=by
 apply ByteArray.ext;rw [ByteArray.data_extract];apply Array.ext';simp [List.drop_take]
theorem zp(l:List UInt8):(⟨l.toArray⟩:ByteArray).size=l.length:=by simp [ByteArray.size]
end Go.Proofs.YtbodbhpdelgpnaaGreatDoor
