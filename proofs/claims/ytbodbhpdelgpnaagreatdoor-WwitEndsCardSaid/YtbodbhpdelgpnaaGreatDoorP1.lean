/- A part of the proof. -/
import Derived.WalkKit
set_option linter.unusedVariables false
set_option linter.unusedSimpArgs false
set_option linter.unusedSectionVars false
set_option maxRecDepth 100000
set_option maxHeartbeats 8000000
namespace Ab
open Go
inductive D where
 |v (x:Value)
 |sl (s:Nat) (xs:List D) (rd:Nat→D)
 |ag (cs:List D)
 |ifc (t:TypeId) (x:D)
 deriving Inhabited
def D.cells:D→List D
 | .ag cs=>cs
 | x=>[x]
inductive AV where
 |d (x:D)
 |ro (cs:List D)
 |ptr (i off:Nat)
 |gs (i:Nat)
 |ge (i s j off:Nat)
 |mp (i:Nat)
 |e0 (s:Nat)
 |lit (b:Bool)
 |und
 |orc (b:Bool)
 |ag (cs:List AV)
 |tp (cs:List AV)
 |fn (f:Fn) (cs:List AV)
 |ifc (t:TypeId) (x:AV)
 |dead
 deriving Inhabited
def AV.cells:AV→List AV
 | .ag cs=>cs
 | .d (.ag cs)=>cs.map .d
 | x=>[x]
inductive AObj where
 |cells (e:TypeId) (cs:List AV)
 |grow (e:TypeId) (s:Nat) (xs:List D) (rd:Nat→D)
 |siter (s:ByteArray) (pos:Nat)
 |hold (a:AV) (v:Value)
 |map (es:List (Value×AV))
 deriving Inhabited
def flat:Value→Bool
 | .agg _ | .tuple _=>false
 | _=>true
def nth{α:Type}:List α→Nat→Option α
 | [],_=>none
 | a::_,0=>some a
 | _::r,n+1=>nth r n
theorem z1k{α:Type}:∀(l:List α) (n:Nat),nth l n=l[n]?
 | [],_=>by simp [nth]
 | _::_,0=>by simp [nth]
 | _::r,n+1=>by simp [nth,z1k r n]
mutual
inductive RelD(w:World)(ok:Nat→Prop):D→Value→Prop
 |v {x:Value} (hf:flat x=true):RelD w ok (.v x) x
 |nil {s c:Nat} {A:Option Addr} {rd:Nat→D} (hb:c≤maxLen):RelD w ok (.sl s [] rd) (.slice A 0 c)
 |sl {s b o c:Nat} {xs:List D} {us:List Value} {rd:Nat→D} (h:RelE w ok s xs us)
   (hm:∀i,i<us.length→ok b∧w.cell? ⟨b,o+i,none⟩=us[i]?) (hc:xs.length≤c) (hb:c≤maxLen) (hr:∀i,i<xs.length→xs[i]?=some (rd i)) :
   RelD w ok (.sl s xs rd) (.slice (some ⟨b,o,none⟩) xs.length c)
 |ag {cs:List D} {vs:List Value} (h:RelL w ok cs vs):RelD w ok (.ag cs) (.agg vs.toArray)
 |ifc {t:TypeId} {x:D} {v:Value} (h:RelD w ok x v):RelD w ok (.ifc t x) (.iface t v)
inductive RelL(w:World)(ok:Nat→Prop):List D→List Value→Prop
 |nil:RelL w ok [] []
 |cons {x:D} {v:Value} {xs:List D} {vs:List Value} (h:RelD w ok x v) (hf:flat v=true) (t:RelL w ok xs vs):RelL w ok (x::xs) (v::vs)
inductive RelE(w:World)(ok:Nat→Prop):Nat→List D→List Value→Prop
 |nil {s:Nat}:RelE w ok s [] []
 |cons {s:Nat} {x:D} {us:List Value} {xs:List D} {vs:List Value} (h:RelL w ok x.cells us) (hl:us.length=s) (t:RelE w ok s xs vs):RelE w ok s (x::xs) (us++vs)
end
def Keeps(w:World)(ok:Nat→Prop)(w':World)(ok':Nat→Prop):Prop:=
 ∀b o u,ok b→w.cell? ⟨b,o,none⟩=some u→ok' b∧w'.cell? ⟨b,o,none⟩=some u
theorem Keeps.refl(w:World)(ok:Nat→Prop):Keeps w ok w ok:=fun _ _ _ h1 h2=>⟨h1,h2⟩
theorem Keeps.trans{w w1 w2:World}{ok ok1 ok2:Nat→Prop}(h:Keeps w ok w1 ok1)(k:Keeps w1 ok1 w2 ok2):Keeps w ok w2 ok2:=
 fun b o u h1 h2=>let ⟨a,c⟩:=h b o u h1 h2;k b o u a c
theorem z2w{w w':World}{ok ok':Nat→Prop}(hk:Keeps w ok w' ok'){b o:Nat}{us:List Value}
  (hm:∀i,i<us.length→ok b∧w.cell? ⟨b,o+i,none⟩=us[i]?):∀i,i<us.length→ok' b∧w'.cell? ⟨b,o+i,none⟩=us[i]?:=by
 intro i hi;obtain⟨h1,h2⟩:=hm i hi;rw [List.getElem?_eq_getElem hi]at h2 ⊢;exact hk _ _ _ h1 h2
mutual
theorem RelD.mono{w w':World}{ok ok':Nat→Prop}(hk:Keeps w ok w' ok'){d:D}{v:Value}:RelD w ok d v→RelD w' ok' d v
 | .v hf=>.v hf
 | .nil hb=>.nil hb
 | .sl h hm hc hb hr=>.sl (h.mono hk) (z2w hk hm) hc hb hr
 | .ag h=>.ag (h.mono hk)
 | .ifc h=>.ifc (h.mono hk)
theorem RelL.mono{w w':World}{ok ok':Nat→Prop}(hk:Keeps w ok w' ok'){d:List D}{v:List Value}:RelL w ok d v→RelL w' ok' d v
 | .nil=>.nil
 | .cons h hf t=>.cons (h.mono hk) hf (t.mono hk)
theorem RelE.mono{w w':World}{ok ok':Nat→Prop}(hk:Keeps w ok w' ok'){s:Nat}{d:List D}{v:List Value}:RelE w ok s d v→RelE w' ok' s d v
 | .nil=>.nil
 | .cons h hl t=>.cons (h.mono hk) hl (t.mono hk)
end
theorem RelL.length{w:World}{ok:Nat→Prop}:∀{cs:List D} {vs:List Value},RelL w ok cs vs→vs.length=cs.length
 | _,_,.nil=>rfl
 | _,_,.cons _ _ t=>by simp [t.length]
theorem RelL.flat{w:World}{ok:Nat→Prop}:∀{cs:List D} {vs:List Value},RelL w ok cs vs→∀v∈vs,flat v=true
 | _,_,.nil,_,h=>by simp at h
 | _,_,.cons _ hf t,v,h=>by
  rcases List.mem_cons.1 h with rfl|h
  ·exact hf
  ·exact t.flat v h
theorem RelL.get{w:World}{ok:Nat→Prop}:∀{cs:List D} {vs:List Value},RelL w ok cs vs→∀{n:Nat} {x:D},nth cs n=some x→∃v,vs[n]?=some v∧RelD w ok x v∧Ab.flat v=true
 | _,_,.nil,n,x,h=>by simp [nth]at h
 | _,_,.cons hd hf t,0,x,h=>by
  simp only [nth,Option.some.injEq]at h;subst h;exact⟨_,by simp,hd,hf⟩
 | _,_,.cons hd hf t,n+1,x,h=>by
  obtain⟨v,h1,h2⟩:=t.get (n:=n) (x:=x) h;exact⟨v,by simpa using h1,h2⟩
theorem RelL.append{w:World}{ok:Nat→Prop}:∀{cs:List D} {vs:List Value} {ds:List D} {us:List Value},RelL w ok cs vs→RelL w ok ds us→RelL w ok (cs++ds) (vs++us)
 | _,_,_,_,.nil,k=>k
 | _,_,_,_,.cons h hf t,k=>.cons h hf (t.append k)
theorem RelL.take{w:World}{ok:Nat→Prop}:∀{cs:List D} {vs:List Value} (_:RelL w ok cs vs) (n:Nat),RelL w ok (cs.take n) (vs.take n)
 | _,_,.nil,n=>by simpa using .nil
 | _,_,.cons h hf t,0=>by simpa using .nil
 | _,_,.cons h hf t,n+1=>by simpa using .cons h hf (t.take n)
theorem RelL.drop{w:World}{ok:Nat→Prop}:∀{cs:List D} {vs:List Value} (_:RelL w ok cs vs) (n:Nat),RelL w ok (cs.drop n) (vs.drop n)
 | _,_,.nil,n=>by simpa using .nil
 | _,_,.cons h hf t,0=>by simpa using .cons h hf t
 | _,_,.cons h hf t,n+1=>by simpa using t.drop n
theorem RelE.length{w:World}{ok:Nat→Prop}{s:Nat}:∀{xs:List D} {us:List Value},RelE w ok s xs us→us.length=xs.length*s
 | _,_,.nil=>by simp
 | _,_,.cons _ hl t=>by simp [t.length,hl,Nat.add_mul,Nat.add_comm]
theorem RelE.flat{w:World}{ok:Nat→Prop}{s:Nat}:∀{xs:List D} {us:List Value},RelE w ok s xs us→∀v∈us,Ab.flat v=true
 | _,_,.nil,_,h=>by simp at h
 | _,_,.cons h hl t,v,hv=>by
  rcases List.mem_append.1 hv with hv|hv
  ·exact h.flat v hv
  ·exact t.flat v hv
theorem RelE.append{w:World}{ok:Nat→Prop}{s:Nat}:∀{xs ys:List D} {us vs:List Value},RelE w ok s xs us→RelE w ok s ys vs→RelE w ok s (xs++ys) (us++vs)
 | _,_,_,_,.nil,k=>k
 | _,_,_,_,.cons h hl t,k=>by
  rw [List.append_assoc];exact .cons h hl (t.append k)
theorem RelE.get{w:World}{ok:Nat→Prop}{s:Nat}:∀{xs:List D} {us:List Value},RelE w ok s xs us→∀{n:Nat} (hn:n<xs.length),RelL w ok (xs[n]).cells ((us.drop (n*s)).take s)
 | _,_,.nil,n,hn=>by simp at hn
 | _,_,.cons (us:=us) h hl t,0,hn=>by
  subst hl;simpa using h
 | _,_,.cons (us:=us) (vs:=vs) h hl t,n+1,hn=>by
  have:=t.get (n:=n) (by simpa using hn);have e:(us++vs).drop ((n+1)*s)=vs.drop (n*s):=by
   rw [Nat.add_mul,Nat.one_mul,Nat.add_comm,←hl,←List.drop_drop,List.drop_left]
  rw [e];simpa using this
theorem RelE.take{w:World}{ok:Nat→Prop}{s:Nat}:∀{xs:List D} {us:List Value} (_:RelE w ok s xs us) (n:Nat),RelE w ok s (xs.take n) (us.take (n*s))
 | _,_,.nil,n=>by simpa using .nil
 | _,_,.cons h hl t,0=>by simpa using .nil
 | _,_,.cons (us:=us) (vs:=vs) h hl t,n+1=>by
  have e:(us++vs).take ((n+1)*s)=us++vs.take (n*s):=by
   rw [Nat.add_mul,Nat.one_mul,Nat.add_comm,←hl,List.take_length_add_append]
  rw [e];simpa using .cons h hl (t.take n)
theorem RelE.drop{w:World}{ok:Nat→Prop}{s:Nat}:∀{xs:List D} {us:List Value} (_:RelE w ok s xs us) (n:Nat),RelE w ok s (xs.drop n) (us.drop (n*s))
 | _,_,.nil,n=>by simpa using .nil
 | _,_,.cons h hl t,0=>by simpa using .cons h hl t
 | _,_,.cons (us:=us) (vs:=vs) h hl t,n+1=>by
  have e:(us++vs).drop ((n+1)*s)=vs.drop (n*s):=by
   rw [Nat.add_mul,Nat.one_mul,Nat.add_comm,←hl,←List.drop_drop,List.drop_left]
  rw [e];simpa using t.drop n
theorem RelE.set{w:World}{ok:Nat→Prop}{s:Nat}:∀{xs:List D} {us:List Value} (_:RelE w ok s xs us) {y:D} {vs:List Value} (_:RelL w ok y.cells vs) (_:vs.length=s) (n:Nat),n<xs.length →
  RelE w ok s (xs.set n y) (us.take (n*s)++vs++us.drop (n*s+s))
 | _,_,.nil,y,vs,hy,hv,n,hn=>by simp at hn
 | _,_,.cons (us:=us) (vs:=ws) h hl t,y,vs,hy,hv,0,hn=>by
  have e:(us++ws).drop (0*s+s)=ws:=by
   rw [Nat.zero_mul,Nat.zero_add,←hl,List.drop_left]
  rw [e];simpa using .cons hy hv t
 | _,_,.cons (us:=us) (vs:=ws) h hl t,y,vs,hy,hv,n+1,hn=>by
  have ih:=t.set hy hv n (by simpa using hn);have e1:(us++ws).take ((n+1)*s)=us++ws.take (n*s):=by
   rw [Nat.add_mul,Nat.one_mul,Nat.add_comm,←hl,List.take_length_add_append]
  have e2:(us++ws).drop ((n+1)*s+s)=ws.drop (n*s+s):=by
   rw [show(n+1)*s+s=s+(n*s+s)by rw [Nat.add_mul];omega]
   conv=>lhs;rw [←List.drop_drop,←hl,List.drop_left]
   rw [hl]
  rw [e1,e2];have:=RelE.cons h hl ih;simpa [List.append_assoc]using this
mutual
inductive RelV(w:World)(ok:Nat→Prop)(π:List Value):AV→Value→Prop
 |d {x:D} {v:Value} (h:RelD w ok x v):RelV w ok π (.d x) v
 |ro {cs:List D} {us:List Value} {b o:Nat} (h:RelL w ok cs us) (hm:∀i,i<us.length→ok b∧w.cell? ⟨b,o+i,none⟩=us[i]?):RelV w ok π (.ro cs) (.pointer (some ⟨b,o,none⟩))
 |ptr {i off b:Nat} (h:nth π i=some (.pointer (some ⟨b,0,none⟩))):RelV w ok π (.ptr i off) (.pointer (some ⟨b,off,none⟩))
 |gs {i n c:Nat} {A:Option Addr} (h:nth π i=some (.slice A n c)):RelV w ok π (.gs i) (.slice A n c)
 |ge {i s j off b o n c:Nat} (h:nth π i=some (.slice (some ⟨b,o,none⟩) n c)):RelV w ok π (.ge i s j off) (.pointer (some ⟨b,o+j*s+off,none⟩))
 |mp {i:Nat} {r:Option Nat} (h:nth π i=some (.map r)):RelV w ok π (.mp i) (.map r)
 |e0 {s:Nat} {A:Option Addr}:RelV w ok π (.e0 s) (.slice A 0 0)
 |lit {b:Bool}:RelV w ok π (.lit b) (.bool b)
 |und:RelV w ok π .und undef
 |orc {b:Bool} {v:Value}:RelV w ok π (.orc b) v
 |ag {cs:List AV} {vs:List Value} (h:RelVs w ok π cs vs) (hf:∀v∈vs,flat v=true):RelV w ok π (.ag cs) (.agg vs.toArray)
 |tp {cs:List AV} {vs:List Value} (h:RelVs w ok π cs vs):RelV w ok π (.tp cs) (.tuple vs.toArray)
 |fn {f:Fn} {cs:List AV} {vs:List Value} (h:RelVs w ok π cs vs):RelV w ok π (.fn f cs) (.func f #[] vs.toArray)
 |ifc {t:TypeId} {x:AV} {v:Value} (h:RelV w ok π x v):RelV w ok π (.ifc t x) (.iface t v)
 |dead {v:Value}:RelV w ok π .dead v
inductive RelVs(w:World)(ok:Nat→Prop)(π:List Value):List AV→List Value→Prop
 |nil:RelVs w ok π [] []
 |cons {x:AV} {v:Value} {xs:List AV} {vs:List Value} (h:RelV w ok π x v) (t:RelVs w ok π xs vs):RelVs w ok π (x::xs) (v::vs)
end
def blk:Value→Option Nat
 | .pointer (some a)=>some a.block
 | .slice (some a) _ (_+1)=>some a.block
 | .map (some r)=>some r
 | _=>none
mutual
def AV.drop(i:Nat):AV→AV
 | .gs j=>match Nat.beq j i with|true=>.dead|false=>.gs j
 | .ge j s e o=>match Nat.beq j i with|true=>.dead|false=>.ge j s e o
 | .ag cs=>.ag (AV.drops i cs)
 | .tp cs=>.tp (AV.drops i cs)
 | .fn f cs=>.fn f (AV.drops i cs)
 | .ifc t x=>.ifc t (AV.drop i x)
 | .d x=>.d x
 | .ro x=>.ro x
 | .ptr j o=>.ptr j o
 | .mp j=>.mp j
 | .e0 s=>.e0 s
 | .lit b=>.lit b
 | .und=>.und
 | .orc b=>.orc b
 | .dead=>.dead
def AV.drops(i:Nat):List AV→List AV
 | []=>[]
 | x::r=>AV.drop i x::AV.drops i r
end
def zfr(i:Nat):List (Value×AV)→List (Value×AV)
 | []=>[]
 | (k,x)::r=>(k,x.drop i)::zfr i r
def AObj.drop(i:Nat):AObj→AObj
 | .cells e cs=>.cells e (AV.drops i cs)
 | .grow e s xs rd=>.grow e s xs rd
 | .siter s p=>.siter s p
 | .hold a v=>.hold (a.drop i) v
 | .map es=>.map (zfr i es)
def dropO(i:Nat):List (Option AObj)→List (Option AObj)
 | []=>[]
 | some o::r=>some (o.drop i)::dropO i r
 | none::r=>none::dropO i r
def za{α:Type}:List α→Nat→α→List α
 | [],_,_=>[]
 | _::r,0,x=>x::r
 | a::r,n+1,x=>a::za r n x
theorem z1t{α:Type}:∀(l:List α) (n:Nat) (x:α),za l n x=l.set n x
 | [],_,_=>by simp [za]
 | _::_,0,_=>by simp [za]
 | _::r,n+1,x=>by simp [za,z1t r n x]
theorem z48{α:Type}{l r:List α}{n:Nat}{x:α}(h:nth l n=some x):nth (l++r) n=some x:=by
 rw [z1k]at h ⊢;rw [List.getElem?_append_left (List.getElem?_eq_some_iff.1 h).1];exact h
theorem z1r{α:Type}{l:List α}{n:Nat}{x:α}(h:nth l n=some x):n<l.length:=by
 rw [z1k]at h;exact(List.getElem?_eq_some_iff.1 h).1
theorem z3t{α:Type}{l r:List α}{m:Nat}:nth (l++r) (l.length+m)=nth r m:=by
 rw [z1k,z1k,List.getElem?_append_right (by omega)];simp
theorem z1w{α:Type}{l r:List α}{n:Nat}{x:α}(h:nth (l++r) n=some x):nth l n=some x∨(l.length≤n∧nth r (n-l.length)=some x):=by
 simp only [z1k]at h ⊢;rcases Nat.lt_or_ge n l.length with hn|hn
 ·left
  rwa [List.getElem?_append_left hn]at h
 ·right
  exact⟨hn,by rwa [List.getElem?_append_right hn]at h⟩
theorem z3x{α:Type}{l:List α}{i j:Nat}{x y:α}(h:nth (za l i x) j=some y):(j=i∧y=x)∨(j≠i∧nth l j=some y):=by
 rw [z1t,z1k,List.getElem?_set]at h;by_cases e:i=j
 ·subst e;rw [if_pos rfl]at h;split at h
  ·cases h;exact .inl ⟨rfl,rfl⟩
  ·cases h
 ·right
  rw [if_neg e]at h;exact⟨fun e'=>e e'.symm,by rwa [z1k]⟩
theorem z3s{α:Type}{l:List α}{i j:Nat}{x:α}(h:j≠i):nth (za l i x) j=nth l j:=by
 rw [z1t,z1k,z1k,List.getElem?_set];rw [if_neg (fun e=>h e.symm)]
theorem z1g{α:Type}{l:List α}{i:Nat}{x y:α}(h:nth l i=some y):nth (za l i x) i=some x:=by
 have:=z1r h;rw [z1t,z1k,List.getElem?_set];simp [this]
theorem z2u{α:Type}(l:List α)(i:Nat)(x:α):(za l i x).length=l.length:=by simp [z1t]
theorem z6k(i:Nat):∀l:List (Option AObj),(dropO i l).length=l.length
 | []=>rfl
 | some _::r=>by simp [dropO,z6k i r]
 | none::r=>by simp [dropO,z6k i r]
theorem z87(i:Nat):∀(l:List (Option AObj)) {j:Nat} {o:AObj},nth (dropO i l) j=some (some o)→∃o',nth l j=some (some o')∧o=o'.drop i
 | [],_,_,h=>by simp [dropO,nth]at h
 | some o'::r,0,o,h=>by simp [dropO,nth]at h;exact⟨o',by simp [nth],h.symm⟩
 | none::r,0,o,h=>by simp [dropO,nth]at h
 | some _::r,j+1,o,h=>by simp only [dropO,nth]at h ⊢;exact z87 i r h
 | none::r,j+1,o,h=>by simp only [dropO,nth]at h ⊢;exact z87 i r h
mutual
theorem RelV.mono{w w':World}{ok ok':Nat→Prop}{π π':List Value}(hk:Keeps w ok w' ok')(hp:∀j h,nth π j=some h→nth π' j=some h){a:AV}{v:Value}:RelV w ok π a v→RelV w' ok' π' a v
 | .d h=>.d (h.mono hk)
 | .ro h hm=>.ro (h.mono hk) (z2w hk hm)
 | .ptr h=>.ptr (hp _ _ h)
 | .gs h=>.gs (hp _ _ h)
 | .ge h=>.ge (hp _ _ h)
 | .mp h=>.mp (hp _ _ h)
 | .e0=>.e0
 | .lit=>.lit
 | .und=>.und
 | .orc=>.orc
 | .ag h hf=>.ag (h.mono hk hp) hf
 | .tp h=>.tp (h.mono hk hp)
 | .fn h=>.fn (h.mono hk hp)
 | .ifc h=>.ifc (h.mono hk hp)
 | .dead=>.dead
theorem RelVs.mono{w w':World}{ok ok':Nat→Prop}{π π':List Value}(hk:Keeps w ok w' ok')(hp:∀j h,nth π j=some h→nth π' j=some h){a:List AV}{v:List Value}:RelVs w ok π a v→RelVs w' ok' π' a v
 | .nil=>.nil
 | .cons h t=>.cons (h.mono hk hp) (t.mono hk hp)
end
def isSl:Value→Bool
 | .slice ..=>true
 | _=>false
mutual
theorem RelV.drop{w w':World}{ok ok':Nat→Prop}{π π':List Value}{i:Nat}(hk:Keeps w ok w' ok')(hp:∀j h,nth π j=some h→j≠i∨isSl h=false→nth π' j=some h){a:AV}{v:Value}:RelV w ok π a v→RelV w' ok' π' (a.drop i) v
 | .d h=>by simp only [AV.drop];exact .d (h.mono hk)
 | .ro h hm=>by simp only [AV.drop];exact .ro (h.mono hk) (z2w hk hm)
 | .ptr h=>by simp only [AV.drop];exact .ptr (hp _ _ h (.inr rfl))
 | .gs (i:=j) h=>by
  simp only [AV.drop];split
  ·exact .dead
  ·rename_i e;exact .gs (hp _ _ h (.inl (by intro e';subst e';simp at e)))
 | .ge (i:=j) h=>by
  simp only [AV.drop];split
  ·exact .dead
  ·rename_i e;exact .ge (hp _ _ h (.inl (by intro e';subst e';simp at e)))
 | .mp h=>by simp only [AV.drop];exact .mp (hp _ _ h (.inr rfl))
 | .e0=>by simp only [AV.drop];exact .e0
 | .lit=>by simp only [AV.drop];exact .lit
 | .und=>by simp only [AV.drop];exact .und
 | .orc=>by simp only [AV.drop];exact .orc
 | .ag h hf=>by simp only [AV.drop];exact .ag (h.drop hk hp) hf
 | .tp h=>by simp only [AV.drop];exact .tp (h.drop hk hp)
 | .fn h=>by simp only [AV.drop];exact .fn (h.drop hk hp)
 | .ifc h=>by simp only [AV.drop];exact .ifc (h.drop hk hp)
 | .dead=>by simp only [AV.drop];exact .dead
theorem RelVs.drop{w w':World}{ok ok':Nat→Prop}{π π':List Value}{i:Nat}(hk:Keeps w ok w' ok')(hp:∀j h,nth π j=some h→j≠i∨isSl h=false→nth π' j=some h){a:List AV}{v:List Value}:RelVs w ok π a v→RelVs w' ok' π' (AV.drops i a) v
 | .nil=>.nil
 | .cons h t=>.cons (h.drop hk hp) (t.drop hk hp)
end
theorem RelVs.length{w:World}{ok:Nat→Prop}{π:List Value}:∀{cs:List AV} {vs:List Value},RelVs w ok π cs vs→vs.length=cs.length
 | _,_,.nil=>rfl
 | _,_,.cons _ t=>by simp [t.length]
theorem RelVs.get{w:World}{ok:Nat→Prop}{π:List Value}:∀{cs:List AV} {vs:List Value},RelVs w ok π cs vs→∀{n:Nat} {x:AV},nth cs n=some x→∃v,vs[n]?=some v∧RelV w ok π x v
 | _,_,.nil,n,x,h=>by simp [nth]at h
 | _,_,.cons hd t,0,x,h=>by
  simp only [nth,Option.some.injEq]at h;subst h;exact⟨_,by simp,hd⟩
 | _,_,.cons hd t,n+1,x,h=>by
  obtain⟨v,h1,h2⟩:=t.get (n:=n) (x:=x) h;exact⟨v,by simpa using h1,h2⟩
theorem RelVs.set{w:World}{ok:Nat→Prop}{π:List Value}:∀{cs:List AV} {vs:List Value},RelVs w ok π cs vs→∀(n:Nat) {x:AV} {v:Value},RelV w ok π x v→RelVs w ok π (za cs n x) (vs.set n v)
 | _,_,.nil,n,x,v,h=>by simpa [za]using .nil
 | _,_,.cons hd t,0,x,v,h=>by simpa [za]using .cons h t
 | _,_,.cons hd t,n+1,x,v,h=>by simpa [za]using .cons hd (t.set n h)
theorem RelVs.append{w:World}{ok:Nat→Prop}{π:List Value}:∀{cs:List AV} {vs:List Value} {ds:List AV} {us:List Value},RelVs w ok π cs vs→RelVs w ok π ds us→RelVs w ok π (cs++ds) (vs++us)
 | _,_,_,_,.nil,k=>k
 | _,_,_,_,.cons h t,k=>.cons h (t.append k)
theorem RelVs.take{w:World}{ok:Nat→Prop}{π:List Value}:∀{cs:List AV} {vs:List Value} (_:RelVs w ok π cs vs) (n:Nat),RelVs w ok π (cs.take n) (vs.take n)
 | _,_,.nil,n=>by simpa using .nil
 | _,_,.cons h t,0=>by simpa using .nil
 | _,_,.cons h t,n+1=>by simpa using .cons h (t.take n)
theorem RelVs.drop_{w:World}{ok:Nat→Prop}{π:List Value}:∀{cs:List AV} {vs:List Value} (_:RelVs w ok π cs vs) (n:Nat),RelVs w ok π (cs.drop n) (vs.drop n)
 | _,_,.nil,n=>by simpa using .nil
 | _,_,.cons h t,0=>by simpa using .cons h t
 | _,_,.cons h t,n+1=>by simpa using t.drop_ n
theorem RelL.toVs{w:World}{ok:Nat→Prop}{π:List Value}:∀{cs:List D} {vs:List Value},RelL w ok cs vs→RelVs w ok π (cs.map .d) vs
 | _,_,.nil=>.nil
 | _,_,.cons h _ t=>.cons (.d h) t.toVs
inductive RelEs(w:World)(ok:Nat→Prop)(π:List Value):List (Value×AV)→List MapEntry→Prop
 |nil:RelEs w ok π [] []
 |cons {k:Value} {x:AV} {v:Value} {n:Nat} {es:List (Value×AV)} {ms:List MapEntry} (h:RelV w ok π x v) (t:RelEs w ok π es ms):RelEs w ok π ((k,x)::es) (⟨k,v,n⟩::ms)
theorem RelEs.mono{w w':World}{ok ok':Nat→Prop}{π π':List Value}(hk:Keeps w ok w' ok')(hp:∀j h,nth π j=some h→nth π' j=some h):∀{a:List (Value×AV)} {v:List MapEntry},RelEs w ok π a v→RelEs w' ok' π' a v
 | _,_,.nil=>.nil
 | _,_,.cons h t=>.cons (h.mono hk hp) (t.mono hk hp)
theorem RelEs.drop{w w':World}{ok ok':Nat→Prop}{π π':List Value}{i:Nat}(hk:Keeps w ok w' ok')(hp:∀j h,nth π j=some h→j≠i∨isSl h=false→nth π' j=some h):∀{a:List (Value×AV)} {v:List MapEntry},RelEs w ok π a v→RelEs w' ok' π' (zfr i a) v
 | _,_,.nil=>.nil
 | _,_,.cons h t=>.cons (h.drop hk hp) (t.drop hk hp)
inductive RelO(w:World)(ok:Nat→Prop)(π:List Value):AObj→Value→Prop
 |cells {e:TypeId} {cs:List AV} {b:Nat} {vs:List Value} (hb:w.heap[b]?=some (.cells vs.toArray e (0,0))) (h:RelVs w ok π cs vs) (hf:∀v∈vs,flat v=true):RelO w ok π (.cells e cs) (.pointer (some ⟨b,0,none⟩))
 |gnil {e:TypeId} {s:Nat} {A:Option Addr} {rd:Nat→D}:RelO w ok π (.grow e s [] rd) (.slice A 0 0)
 |grow {e:TypeId} {s b o c:Nat} {xs:List D} {us vs:List Value} {rd:Nat→D} {fz:Nat×Nat} (hb:w.heap[b]?=some (.cells vs.toArray e fz)) (hz:∀i,i<vs.length→¬(fz.1≤i∧i<fz.2)) (h:RelE w ok s xs us) (hu:∀i,i<us.length→vs[o+i]?=us[i]?)
   (hc:xs.length≤c+1) (hm:c+1≤maxLen) (ho:o+(c+1)*s≤vs.length) (hr:∀i,i<xs.length→xs[i]?=some (rd i)):RelO w ok π (.grow e s xs rd) (.slice (some ⟨b,o,none⟩) xs.length (c+1))
 |map {es:List (Value×AV)} {r clock:Nat} {ms:List MapEntry} (hb:w.heap[r]?=some (.map ms.toArray clock)) (h:RelEs w ok π es ms):RelO w ok π (.map es) (.map (some r))
 |hold {a:AV} {v:Value} (h:RelV w ok π a v):RelO w ok π (.hold a v) (.tuple #[])
 |siter {s:ByteArray} {p b:Nat} (hb:w.heap[b]?=some (.stringIter s p)):RelO w ok π (.siter s p) (.pointer (some ⟨b,0,none⟩))
theorem RelO.mono{w w':World}{ok ok':Nat→Prop}{π π':List Value}(hk:Keeps w ok w' ok')(hp:∀j h,nth π j=some h→nth π' j=some h){o:AObj}{h:Value}(hh:∀b,blk h=some b→w'.heap[b]?=w.heap[b]?):RelO w ok π o h→RelO w' ok' π' o h
 | .cells hb h hf=>.cells ((hh _ rfl).trans hb) (h.mono hk hp) hf
 | .gnil=>.gnil
 | .grow hb hz h hu hc hm ho hr=>.grow ((hh _ rfl).trans hb) hz (h.mono hk) hu hc hm ho hr
 | .map hb h=>.map ((hh _ rfl).trans hb) (h.mono hk hp)
 | .hold h=>.hold (h.mono hk hp)
 | .siter hb=>.siter ((hh _ rfl).trans hb)
theorem RelO.drop{w w':World}{ok ok':Nat→Prop}{π π':List Value}{i:Nat}(hk:Keeps w ok w' ok')(hp:∀j h,nth π j=some h→j≠i∨isSl h=false→nth π' j=some h){o:AObj}{h:Value}(hh:∀b,blk h=some b→w'.heap[b]?=w.heap[b]?):RelO w ok π o h→RelO w' ok' π' (o.drop i) h
 | .cells hb h hf=>.cells ((hh _ rfl).trans hb) (h.drop hk hp) hf
 | .gnil=>.gnil
 | .grow hb hz h hu hc hm ho hr=>.grow ((hh _ rfl).trans hb) hz (h.mono hk) hu hc hm ho hr
 | .map hb h=>.map ((hh _ rfl).trans hb) (h.drop hk hp)
 | .hold h=>.hold (h.drop hk hp)
 | .siter hb=>.siter ((hh _ rfl).trans hb)
theorem RelO.lt{w:World}{ok:Nat→Prop}{π:List Value}{o:AObj}{h:Value}{b:Nat}:RelO w ok π o h→blk h=some b→b<w.heap.size
 | .cells hb _ _,e=>by cases e;exact(Array.getElem?_eq_some_iff.1 hb).1
 | .gnil,e=>by rename_i A _;cases A<;>cases e
 | .grow hb _ _ _ _ _ _ _,e=>by cases e;exact(Array.getElem?_eq_some_iff.1 hb).1
 | .map hb _,e=>by cases e;exact(Array.getElem?_eq_some_iff.1 hb).1
 | .hold _,e=>by cases e
 | .siter hb,e=>by cases e;exact(Array.getElem?_eq_some_iff.1 hb).1
def okOf(X:Nat→Prop)(π:List Value)(objs:List (Option AObj))(b:Nat):Prop:=
 ¬X b∧∀i o h,nth objs i=some (some o)→nth π i=some h→blk h≠some b
structure Mem(X:Nat→Prop)(π:List Value)(objs:List (Option AObj))(w:World):Prop where
 len:π.length=objs.length
 obj:∀i o,nth objs i=some (some o)→∃h,nth π i=some h∧RelO w (okOf X π objs) π o h
 dist:∀i j o o' h h' b,i≠j→nth objs i=some (some o)→nth objs j=some (some o')→nth π i=some h→nth π j=some h'→blk h=some b→blk h'≠some b
 ext:∀i o h b,nth objs i=some (some o)→nth π i=some h→blk h=some b→¬X b
 inX:∀b,X b→b<w.heap.size
theorem Mem.lt{X:Nat→Prop}{π:List Value}{objs:List (Option AObj)}{w:World}(m:Mem X π objs w){i:Nat}{o:AObj}{h:Value}{b:Nat}(ho:nth objs i=some (some o))(hp:nth π i=some h)(hb:blk h=some b):b<w.heap.size:=by
 obtain⟨h',hp',ho'⟩:=m.obj i o ho;rw [hp]at hp';cases hp';exact ho'.lt hb
end Ab
