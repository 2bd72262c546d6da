/- A part of the proof. -/
import Derived.Test.YtkemmijjpclckaaGreatDoorP5
import Derived.MapKept
set_option linter.unusedVariables false
set_option linter.unusedSimpArgs false
set_option linter.unusedSectionVars false
set_option maxRecDepth 100000
set_option maxHeartbeats 8000000
namespace Ab
open Go Go.MapKept
variable [Draws]
section
variable {P : Program} [Globals P] {T : Tab} {f : FuncId} {fn : Func} {n : Nat} {C : Cx} {R R1 : AV → List (Option AObj) → Prop} {todo todo' : List Item} {env env' : Env} {objs objs' : List (Option AObj)} {nd : Prop}
theorem z5r {ops : Array Oper} {i : Nat} {r : List Nat} {k : List Item} {o : Oper} {e : Env} (out : EOut) (ho : ops[i]? = some o) (hw : wantE ops env o = .yes)
  (hdo : ∀ X π w tmps, Mem X π objs w → zz w (okOf X π objs) π env tmps → ERok P X π objs w (some out) (execOp (Act.eval ⟨tmps, []⟩) o)) (hc : cond out.c) (hput : putE n o.dst (skA out.skip out.a) (z4r out.q env) = some e)
  (h : ASat P f n C (.inRegion ops r :: k) e out.objs R) : ASat P f n C (.inRegion ops (i :: r) :: k) env objs R := by
 intro π w tmps hn hm hh he
 obtain ⟨v, w', π', d1, d2, d3⟩ := hdo _ _ _ _ hm he hc
 have he' := z3u he d2
 obtain ⟨c, sk, a, q, objs'⟩ := out
 cases sk with
 | true =>
  obtain ⟨p1, p2⟩ := z1s he' hn hput (.und)
  exact .opUnit ho ((zw he).1 hw) (by simpa using d1) (h π' w' _ p2 d2.mem (z1u hh d2) p1)
 | false =>
  obtain ⟨p1, p2⟩ := z1s he' hn hput (d3 rfl)
  exact .opVal ho ((zw he).1 hw) (by simpa using d1) (h π' w' _ p2 d2.mem (z1u hh d2) p1)
end
inductive MFind (k : Value) : List (Value × AV) → Option AV → Prop
 |nil : MFind k [] none
 |hit {x : AV} {r : List (Value × AV)} : MFind k ((k, x) :: r) (some x)
 |miss {k' : Value} {y : AV} {r : List (Value × AV)} {a : Option AV} (h : k' ≠ k) (t : MFind k r a) : MFind k ((k', y) :: r) a
inductive MPut (k : Value) (x : AV) : List (Value × AV) → List (Value × AV) → Prop
 |nil : MPut k x [] [(k, x)]
 |hit {y : AV} {r : List (Value × AV)} : MPut k x ((k, y) :: r) ((k, x) :: r)
 |miss {k' : Value} {y : AV} {r r' : List (Value × AV)} (h : k' ≠ k) (t : MPut k x r r') : MPut k x ((k', y) :: r) ((k', y) :: r')
def keyB : TK → Value → Bool
 | .int k, .int k' _ => k == k'
 | .str, .string _ => true
 | .bool, .bool _ => true
 | _, _ => false
def keysB (t : TK) : List (Value × AV) → Bool
 | [] => true
 | (k, _) :: r => match keyB t k with | true => keysB t r | false => false
theorem zdn {P : Program} {t : TK} {d : TypeDesc} {k : Value} (hd : kdOk P t d = true) (h : keyB t k = true) : IsKey d k := by
 cases t <;> cases k <;> cases d <;> simp_all [keyB, kdOk, IsKey]
theorem zex {w : World} {ok : Nat → Prop} {π : List Value} {d : TypeDesc} {k : Value} (hk : IsKey d k) : ∀ {es : List (Value × AV)} {ms : List MapEntry} {a : Option AV} (i : Nat), RelEs w ok π es ms → (∀ e ∈ es, IsKey d e.1) → MFind k es a →
  match a with
  | none => Instr.findNow d k ms i = some none
  | some x => ∃ j v, Instr.findNow d k ms i = some (some (j, v)) ∧ RelV w ok π x v
 | _, _, _, i, .nil, _, hf => by cases hf; rfl
 | _, _, a, i, .cons (k := k1) (v := v) (n := n) h t, hks, hf => by
  obtain ⟨r, hr, hiff⟩ := sameNow_of_keys hk (hks _ List.mem_cons_self)
  cases hf with
  | hit =>
   have : r = true := hiff.2 rfl
   subst this
   exact ⟨i, v, by simp [Instr.findNow, hr], h⟩
  | miss hne ht =>
   have : r = false := by
    cases r with
    | false => rfl
    | true => exact absurd (hiff.1 rfl).symm hne
   subst this
   have ih := zex hk (i + 1) t (fun e he => hks e (List.mem_cons_of_mem _ he)) ht
   cases a with
   | none => simpa [Instr.findNow, hr] using ih
   | some x =>
    obtain ⟨j, u, h1, h2⟩ := ih
    exact ⟨j, u, by simpa [Instr.findNow, hr] using h1, h2⟩
theorem zic {w : World} {ok : Nat → Prop} {π : List Value} {d : TypeDesc} {k : Value} (hk : IsKey d k) {x : AV} {v : Value} (hv : RelV w ok π x v) (n0 : Nat) : ∀ {es es' : List (Value × AV)} {ms : List MapEntry} (i : Nat), RelEs w ok π es ms → (∀ e ∈ es, IsKey d e.1) → MPut k x es es' →
  (Instr.findNow d k ms i = some none ∧ RelEs w ok π es' (ms ++ [⟨k, v, n0⟩])) ∨
  (∃ j u e, Instr.findNow d k ms i = some (some (i + j, u)) ∧ ms[j]? = some e ∧ e.key = k ∧ RelEs w ok π es' (ms.set j { e with key := k, val := v }))
 | _, _, _, i, .nil, _, hf => by cases hf; exact .inl ⟨rfl, .cons hv .nil⟩
 | _, _, _, i, .cons (k := k1) (v := u) (n := n) h t, hks, hf => by
  obtain ⟨r, hr, hiff⟩ := sameNow_of_keys hk (hks _ List.mem_cons_self)
  cases hf with
  | hit =>
   have : r = true := hiff.2 rfl
   subst this
   exact .inr ⟨0, u, ⟨k, u, n⟩, by simp [Instr.findNow, hr], rfl, rfl, .cons hv t⟩
  | miss hne ht =>
   have : r = false := by
    cases r with
    | false => rfl
    | true => exact absurd (hiff.1 rfl).symm hne
   subst this
   rcases zic hk hv n0 (i + 1) t (fun e he => hks e (List.mem_cons_of_mem _ he)) ht with ⟨h1, h2⟩ | ⟨j, u', e, h1, h2, h3, h4⟩
   ·exact .inl ⟨by simpa [Instr.findNow, hr] using h1, .cons h h2⟩
   ·refine .inr ⟨j + 1, u', e, ?_, by simpa using h2, h3, .cons h h4⟩
    simp only [Instr.findNow, hr]
    rw [h1]
    congr 3
    omega
theorem zay {P : Program} {t : TK} {d : TypeDesc} (hd : kdOk P t d = true) : ∀ {es : List (Value × AV)}, keysB t es = true → ∀ e ∈ es, IsKey d e.1
 | [], _, e, h => by simp at h
 | (k, x) :: r, hs, e, h => by
  simp only [keysB] at hs
  split at hs
  ·rename_i hk
   rcases List.mem_cons.1 h with rfl | h
   ·exact zdn hd hk
   ·exact zay hd hs e h
  ·cases hs
theorem RowOk.map {P : Program} {t k e : TypeId} {r : TRow} (h : RowOk P t r) (hk : r.kd = .map k e) : P.underlying t = some (.map k e) := by
 obtain ⟨⟨i, d, hi, hd, _, _, _, hkd⟩, _⟩ := h
 rw [hk] at hkd
 cases d <;> simp_all [kdOk]
theorem RowOk.kd {P : Program} {t : TypeId} {r : TRow} (h : RowOk P t r) : ∃ d, P.underlying t = some d ∧ kdOk P r.kd d = true := by
 obtain ⟨⟨i, d, hi, hd, _, _, _, hkd⟩, _⟩ := h
 exact ⟨d, hd, hkd⟩
def lookA (zero : D) (ok : Bool) : Option AV → AV
 | some x => if ok then .tp [x, vB true] else x
 | none => if ok then .tp [.d zero, vB false] else .d zero
theorem zkt {P : Program} {t : TypeId} {r : TRow} (h : RowOk P t r) (w : World) (ok : Nat → Prop) : ∃ z, (∀ w', (zeroValue t).run P w' = .ok z w') ∧ RelD w ok (zeroD r) z := by
 obtain ⟨z, h1, h2, h3, h4, h5⟩ := h.zero
 refine ⟨z, h1, ?_⟩
 have hrel := ze5 h w ok
 unfold zeroD at hrel ⊢
 cases ha : r.isAgg with
 | true =>
  rw [ha] at hrel
  rw [h4 ha]
  exact .ag hrel
 | false =>
  have e := h5 ha
  rw [ha, e] at hrel
  rw [e]
  simp only at hrel ⊢
  cases hrel with
  | cons h _ _ => exact h
theorem zey {P : Program} {T : Tab} (hT : TabOk P T) {X : Nat → Prop} {π : List Value} {objs : List (Option AObj)} {w : World} (m : Mem X π objs w) {t kt et : TypeId} {r rk re : TRow} (h1 : tlook T t = some r) (h2 : r.kd = .map kt et) (h3 : tlook T kt = some rk) (h4 : tlook T et = some re)
  {i : Nat} {es : List (Value × AV)} (ho : nth objs i = some (some (.map es))) {key : Value} (hk : keyB rk.kd key = true) (hks : keysB rk.kd es = true) {a : Option AV} (hf : MFind key es a) {vm : Value} (hm : RelV w (okOf X π objs) π (.mp i) vm) (ok : Bool) :
  ∃ v, (Instr.lookup t vm key ok).run P w = .ok v w ∧ RelV w (okOf X π objs) π (lookA (zeroD re) ok a) v := by
 have ht := (zt hT h1).map h2
 obtain ⟨d, hd, hkd⟩ := (zt hT h3).kd
 have hkey := zdn hkd hk
 have hkeys := zay hkd hks
 obtain ⟨h, hp, hrel⟩ := m.obj i _ ho
 cases hm with
 | mp hp' =>
  rw [hp] at hp'
  cases hp'
  cases hrel with
  | map hb hes =>
   rename_i rr clock ms
   have hfind := zex hkey 0 hes hkeys hf
   obtain ⟨z, hz1, hz2⟩ := zkt (zt hT h4) w (okOf X π objs)
   have hck : ∀ e, (Instr.checkKey e 10000 kt key).run P w = .ok () w := fun e => run_checkKey hd hkey e 9999
   cases a with
   | none =>
    have hff := run_findKey (P := P) (w := w) hd hfind
    cases ok with
    | true => exact ⟨.tuple #[z, .bool false], by simp [Instr.lookup, run_underlying ht, run_getObj_map hb, hck, hff, hz1, Result.andThen], .tp (.cons (.d hz2) (.cons (.d (.v rfl)) .nil))⟩
    | false => exact ⟨z, by simp [Instr.lookup, run_underlying ht, run_getObj_map hb, hck, hff, hz1, Result.andThen], .d hz2⟩
   | some x =>
    obtain ⟨j, v, e1, e2⟩ := hfind
    have hff := run_findKey (P := P) (w := w) hd e1
    cases ok with
    | true => exact ⟨.tuple #[v, .bool true], by simp [Instr.lookup, run_underlying ht, run_getObj_map hb, hck, hff, Result.andThen], .tp (.cons e2 (.cons (.d (.v rfl)) .nil))⟩
    | false => exact ⟨v, by simp [Instr.lookup, run_underlying ht, run_getObj_map hb, hck, hff, Result.andThen], e2⟩
theorem zkw {P : Program} {T : Tab} (hT : TabOk P T) {X : Nat → Prop} {π : List Value} {objs : List (Option AObj)} {w : World} (m : Mem X π objs w) {t kt et : TypeId} {r rk : TRow} (h1 : tlook T t = some r) (h2 : r.kd = .map kt et) (h3 : tlook T kt = some rk)
  {i : Nat} {es es' : List (Value × AV)} (ho : nth objs i = some (some (.map es))) {key : Value} (hk : keyB rk.kd key = true) (hks : keysB rk.kd es = true) {x : AV} (hf : MPut key x es es') {vm vx : Value} (hm : RelV w (okOf X π objs) π (.mp i) vm) (hx : RelV w (okOf X π objs) π x vx) :
  ∃ w', (Instr.mapUpdate t vm key vx).run P w = .ok () w' ∧ Tr X π objs w none π (zi objs i (some (.map es'))) w' := by
 have ht := (zt hT h1).map h2
 obtain ⟨d, hd, hkd⟩ := (zt hT h3).kd
 have hkey := zdn hkd hk
 have hkeys := zay hkd hks
 obtain ⟨h, hp, hrel⟩ := m.obj i _ ho
 cases hm with
 | mp hp' =>
  rw [hp] at hp'
  cases hp'
  cases hrel with
  | map hb hes =>
   rename_i rr clock ms
   have hck : ∀ e, (Instr.checkKey e 10000 kt key).run P w = .ok () w := fun e => run_checkKey hd hkey e 9999
   have htr : ∀ {ms' : List MapEntry} {clock' : Nat}, RelEs w (okOf X π objs) π es' ms' → Tr X π objs w none π (zi objs i (some (.map es'))) { w with heap := w.heap.setIfInBounds rr (.map ms'.toArray clock') } := by
    intro ms' clock' hr
    have hs := heap_set (o' := .map ms'.toArray clock') hb
    refine z97 (b := rr) m ho hp rfl rfl rfl ⟨rfl, zv (Nat.le_refl _)⟩ (by simp) hs.2 ?_
    exact .map hs.1 (hr.mono (z7s (w' := { w with heap := w.heap.setIfInBounds rr (.map ms'.toArray clock') }) ho hp rfl hs.2) (fun _ _ h => h))
   rcases zic hkey hx clock 0 hes hkeys hf with ⟨f1, f2⟩ | ⟨j, u, e, f1, f2, f3, f4⟩
   ·have hff := run_findKey (P := P) (w := w) hd f1
    refine ⟨_, ?_, htr (clock' := clock + 1) f2⟩
    simp [Instr.mapUpdate, run_underlying ht, run_getObj_map hb, hck, hff, run_setObj_map _ hb, Result.andThen]
   ·have hff := run_findKey (P := P) (w := w) hd f1
    refine ⟨_, ?_, htr (clock' := clock) f4⟩
    rw [Nat.zero_add] at hff
    have hlt : j < ms.length := (List.getElem?_eq_some_iff.1 f2).1
    have hget : ms[j] = e := (List.getElem?_eq_some_iff.1 f2).2
    have hst := run_keyThatStays (P := P) (w := w) hkey
    simp [Instr.mapUpdate, run_underlying ht, run_getObj_map hb, hck, hff, f2, f3, hst, run_setObj_map _ hb, Result.andThen]
    congr 3
    apply List.ext_getElem?
    intro q
    rw [List.getElem?_modify, List.getElem?_set]
    by_cases e : j = q
    ·subst e
     simp [hlt, hget]
    ·simp [e]
end Ab
namespace Ab
open Go
variable [Draws]
section
variable {P : Program} [Globals P] {T : Tab} {f : FuncId} {fn : Func} {n : Nat} {C : Cx} {R R1 : AV → List (Option AObj) → Prop} {todo todo' : List Item} {env env' : Env} {objs objs' : List (Option AObj)} {nd : Prop}
theorem zh (m : Nat) (hT : TabOk P T) (hf : P.funcs[f]? = some fn) (h : srun T n fn.results.toList m True todo env objs = .goto nd todo' env' objs') (hn : nd) (k : ASat P f n C todo' env' objs' R) : ASat P f n C todo env objs R :=
 (z1f hT hf m True todo env objs (by rw [h]; exact ⟨hn, k⟩)).2
theorem zld {ops : Array Oper} {i : Nat} {r : List Nat} {k : List Item} {o : Oper} {e : Env} (out : EOut) (hT : TabOk P T) (ho : ops[i]? = some o) (hw : wantE ops env o = .yes) (hs : estep T o env objs = some out)
  (hc : cond out.c) (hput : putE n o.dst (skA out.skip out.a) (z4r out.q env) = some e)
  (h : ASat P f n C (.inRegion ops r :: k) e out.objs R) : ASat P f n C (.inRegion ops (i :: r) :: k) env objs R := by
 refine z5r out ho hw (fun X π w tmps hm he => ?_) hc hput h
 have := z8a (ds := []) hT hm he o
 rwa [hs] at this
theorem zkc {T : Tab} {t t2 e : TypeId} {r re r2 : TRow} {x : AV} {ys xs : List D} {rd rd2 : Nat → D} {e2 : TypeId} {j s : Nat} (h1 : tlook T t = some r) (h2 : r.kd = .slice e) (h3 : tlook T e = some re) (h4 : tlook T t2 = some r2) (h5 : r2.kd = .slice e2)
  (h6 : zbc objs re.size x = some (ys, rd2)) (h7 : Nat.beq re.bytes 0 = false) (h8 : objAt objs j = some (.grow e s xs rd)) (h9 : s = re.size) :
  zbe T t t2 objs (.gs j) x = some ⟨some ((xs.length + ys.length) * re.bytes ≤ 140737488355328), false, .gs j, some j, zi (dropO j objs) j (some (.grow e s (xs ++ ys) (catRd xs.length rd rd2)))⟩ := by
 subst h9
 have b1 : Nat.beq re.size re.size = true := Nat.beq_refl _
 have b2 : Nat.beq e e = true := Nat.beq_refl _
 simp only [zbe, zj0, h1, h2, h3, h4, h5, h6, h7, h8, b1, b2]
theorem z4u {P : Program} {w : World} {X : Nat → Prop} {π : List Value} {env : Env} {tmps : Array Value} {x : Operand} {v : Value} (he : zz w (okOf X π objs) π env tmps) (h : opnd env x = some (.d (.v v))) : Act.eval ⟨tmps, []⟩ x = v := by
 have := zk (ds := []) he h
 revert this
 generalize Act.eval ⟨tmps, []⟩ x = u
 intro hu
 cases hu with | d hu => cases hu; rfl
theorem zc7 {ops : Array Oper} {i : Nat} {r : List Nat} {k : List Item} {o : Oper} {e : Env} {t kt et : TypeId} {mo ko : Operand} {ok : Bool} {rm rk re : TRow} {j : Nat} {es : List (Value × AV)} {key : Value} {a : Option AV} (hT : TabOk P T)
  (ho : ops[i]? = some o) (hw : wantE ops env o = .yes) (hop : o.op = .lookup t mo ko ok) (hm : opnd env mo = some (.mp j)) (hk : opnd env ko = some (.d (.v key))) (h1 : tlook T t = some rm) (h2 : rm.kd = .map kt et) (h3 : tlook T kt = some rk) (h4 : tlook T et = some re)
  (hobj : nth objs j = some (some (.map es))) (hkey : keyB rk.kd key = true) (hks : keysB rk.kd es = true) (hf : MFind key es a) (hput : putE n o.dst (lookA (zeroD re) ok a) env = some e)
  (h : ASat P f n C (.inRegion ops r :: k) e objs R) : ASat P f n C (.inRegion ops (i :: r) :: k) env objs R := by
 refine z5r ⟨none, false, lookA (zeroD re) ok a, none, objs⟩ ho hw (fun X π w tmps m he _ => ?_) trivial hput h
 obtain ⟨v, e1, e2⟩ := zey hT m h1 h2 h3 h4 hobj hkey hks hf (zk (ds := []) he hm) ok
 refine ⟨v, w, π, ?_, z2l m rfl rfl ⟨rfl, zv (Nat.le_refl _)⟩ (Nat.le_refl _) (fun _ _ => rfl), fun _ => e2⟩
 unfold execOp
 simp only [hop]
 rw [z4u (P := P) he hk]
 simp only [Sem.run_bind, e1, Result.andThen_ok, Sem.run_pure]
 rfl
theorem zgj {ops : Array Oper} {i : Nat} {r : List Nat} {k : List Item} {o : Oper} {e : Env} {t kt et : TypeId} {mo ko : Operand} {ok : Bool} {rm rk re : TRow} {j : Nat} {es : List (Value × AV)} {key : Value} {a : Option AV} {b : AV} (hT : TabOk P T)
  (ho : ops[i]? = some o) (hw : wantE ops env o = .yes) (hop : o.op = .lookup t mo ko ok) (hm : opnd env mo = some (.mp j)) (hk : opnd env ko = some (.d (.v key))) (h1 : tlook T t = some rm) (h2 : rm.kd = .map kt et) (h3 : tlook T kt = some rk) (h4 : tlook T et = some re)
  (hobj : nth objs j = some (some (.map es))) (hkey : keyB rk.kd key = true) (hks : keysB rk.kd es = true) (hf : MFind key es a) (hv : VLe (lookA (zeroD re) ok a) b) (hput : putE n o.dst b env = some e)
  (h : ASat P f n C (.inRegion ops r :: k) e objs R) : ASat P f n C (.inRegion ops (i :: r) :: k) env objs R := by
 refine z5r ⟨none, false, b, none, objs⟩ ho hw (fun X π w tmps m he _ => ?_) trivial hput h
 obtain ⟨v, e1, e2⟩ := zey hT m h1 h2 h3 h4 hobj hkey hks hf (zk (ds := []) he hm) ok
 refine ⟨v, w, π, ?_, z2l m rfl rfl ⟨rfl, zv (Nat.le_refl _)⟩ (Nat.le_refl _) (fun _ _ => rfl), fun _ => hv _ _ _ _ e2⟩
 unfold execOp
 simp only [hop]
 rw [z4u (P := P) he hk]
 simp only [Sem.run_bind, e1, Result.andThen_ok, Sem.run_pure]
 rfl
theorem zc4 {ops : Array Oper} {i : Nat} {r : List Nat} {k : List Item} {o : Oper} {t kt et : TypeId} {mo ko xo : Operand} {rm rk : TRow} {j : Nat} {es es' : List (Value × AV)} {key : Value} {x : AV} (hT : TabOk P T)
  (ho : ops[i]? = some o) (hw : wantE ops env o = .yes) (hop : o.op = .mapUpdate t mo ko xo) (hd : o.dst = none) (hm : opnd env mo = some (.mp j)) (hk : opnd env ko = some (.d (.v key))) (hx : opnd env xo = some x) (h1 : tlook T t = some rm) (h2 : rm.kd = .map kt et) (h3 : tlook T kt = some rk)
  (hobj : nth objs j = some (some (.map es))) (hkey : keyB rk.kd key = true) (hks : keysB rk.kd es = true) (hf : MPut key x es es')
  (h : ASat P f n C (.inRegion ops r :: k) env (zi objs j (some (.map es'))) R) : ASat P f n C (.inRegion ops (i :: r) :: k) env objs R := by
 refine z5r ⟨none, true, .und, none, zi objs j (some (.map es'))⟩ ho hw (fun X π w tmps m he _ => ?_) trivial (by rw [hd]; rfl) h
 obtain ⟨w', e1, e2⟩ := zkw hT m h1 h2 h3 hobj hkey hks hf (zk (ds := []) he hm) (zk (ds := []) he hx)
 refine ⟨undef, w', π, ?_, e2, fun h => by cases h⟩
 unfold execOp
 simp only [hop]
 rw [z4u (P := P) he hk]
 simp only [Sem.run_bind, e1, Result.andThen_ok, Sem.run_pure]
 rfl
end
def gadd (k i : Int) : List (Int × List Int) → List (Int × List Int)
 | [] => [(k, [i])]
 | (k', l) :: r => if k' = k then (k', l ++ [i]) :: r else (k', l) :: gadd k i r
def gget (k : Int) : List (Int × List Int) → List Int
 | [] => []
 | (k', l) :: r => if k' = k then l else gget k r
def esOf : Nat → List (Int × List Int) → List (Value × AV)
 | _, [] => []
 | b, (k, _) :: r => (.int .i64 k, .gs b) :: esOf (b + 1) r
def z18 (t : TypeId) : List (Int × List Int) → List (Option AObj)
 | [] => []
 | (_, l) :: r => some (gL t 1 eI 0 l) :: z18 t r
end Ab
namespace Ab
open Go
variable [Draws]
def gpos (k : Int) : List (Int × List Int) → Option Nat
 | [] => none
 | (k', _) :: r => if k' = k then some 0 else (gpos k r).map (· + 1)
theorem z6a : ∀ (b : Nat) (G : List (Int × List Int)), keysB (.int .i64) (esOf b G) = true
 | _, [] => rfl
 | b, (k, l) :: r => by simp [esOf, keysB, keyB, z6a (b + 1) r]
theorem zba (k : Int) : ∀ (b : Nat) (G : List (Int × List Int)), MFind (.int .i64 k) (esOf b G) ((gpos k G).map (fun p => .gs (p + b)))
 | _, [] => .nil
 | b, (k', l) :: r => by
  simp only [esOf, gpos]
  split
  ·rename_i e
   subst e
   simpa using .hit
  ·rename_i e
   refine .miss (fun h => e (by cases h; rfl)) ?_
   have := zba k (b + 1) r
   cases h : gpos k r with
   | none => rw [h] at this; exact this
   | some p =>
    rw [h] at this
    simp only [Option.map_some] at this ⊢
    rwa [show p + (b + 1) = p + 1 + b by omega] at this
theorem zfd {k i : Int} : ∀ {G : List (Int × List Int)}, gpos k G = none → gadd k i G = G ++ [(k, [i])]
 | [], _ => rfl
 | (k', l) :: r, h => by
  simp only [gpos] at h
  split at h
  ·cases h
  ·rename_i e
   simp only [gadd, if_neg e, List.cons_append]
   rw [zfd (by cases hg : gpos k r with | none => rfl | some p => rw [hg] at h; cases h)]
theorem zio {k : Int} : ∀ {G : List (Int × List Int)} {p : Nat}, gpos k G = some p → nth G p = some (k, gget k G)
 | [], p, h => by cases h
 | (k', l) :: r, p, h => by
  simp only [gpos] at h
  split at h
  ·rename_i e
   cases h
   subst e
   simp [nth, gget]
  ·rename_i e
   cases hg : gpos k r with
   | none => rw [hg] at h; cases h
   | some q =>
    rw [hg] at h
    cases h
    simp only [nth, gget, if_neg e]
    exact zio hg
theorem ziq {k i : Int} : ∀ {G : List (Int × List Int)} {p : Nat}, gpos k G = some p → gadd k i G = zi G p (k, gget k G ++ [i])
 | [], p, h => by cases h
 | (k', l) :: r, p, h => by
  simp only [gpos] at h
  split at h
  ·rename_i e
   cases h
   subst e
   simp [gadd, gget, zi]
  ·rename_i e
   cases hg : gpos k r with
   | none => rw [hg] at h; cases h
   | some q =>
    rw [hg] at h
    cases h
    simp only [gadd, gget, if_neg e, zi]
    rw [ziq hg]
theorem zix (k : Int) (l : List Int) : ∀ (b : Nat) (G : List (Int × List Int)), esOf b (G ++ [(k, l)]) = esOf b G ++ [(.int .i64 k, .gs (G.length + b))]
 | b, [] => by simp [esOf]
 | b, (k', l') :: r => by simp [esOf, zix k l (b + 1) r, show r.length + (b + 1) = r.length + 1 + b by omega]
theorem z9e {k : Int} : ∀ (b : Nat) (G : List (Int × List Int)) (x : AV), gpos k G = none → MPut (.int .i64 k) x (esOf b G) (esOf b G ++ [(.int .i64 k, x)])
 | _, [], x, _ => .nil
 | b, (k', l) :: r, x, h => by
  simp only [gpos] at h
  split at h
  ·cases h
  ·rename_i e
   exact .miss (fun h => e (by cases h; rfl)) (z9e (b + 1) r x (by cases hg : gpos k r with | none => rfl | some p => rw [hg] at h; cases h))
theorem zfn : ∀ (b j : Nat) (G : List (Int × List Int)), j < b → z4q j (esOf b G) = esOf b G
 | _, _, [], _ => rfl
 | b, j, (k, l) :: r, h => by
  have : Nat.beq b j = false := by rw [← Bool.not_eq_true, Nat.beq_eq]; omega
  simp only [esOf, z4q, AV.drop, this, zfn (b + 1) j r (by omega)]
theorem ziv {k i : Int} : ∀ (b : Nat) {G : List (Int × List Int)} {p : Nat}, gpos k G = some p → MPut (.int .i64 k) (.gs (p + b)) (z4q (p + b) (esOf b G)) (esOf b (gadd k i G))
 | _, [], p, h => by cases h
 | b, (k', l) :: r, p, h => by
  simp only [gpos] at h
  split at h
  ·rename_i e
   cases h
   subst e
   have : Nat.beq b (0 + b) = true := by rw [Nat.zero_add]; exact Nat.beq_refl _
   simp only [esOf, z4q, AV.drop, this, gadd, if_true]
   rw [zfn (b + 1) (0 + b) r (by omega), Nat.zero_add]
   exact .hit
  ·rename_i e
   cases hg : gpos k r with
   | none => rw [hg] at h; cases h
   | some q =>
    rw [hg] at h
    cases h
    have : Nat.beq b (q + 1 + b) = false := by rw [← Bool.not_eq_true, Nat.beq_eq]; omega
    simp only [esOf, z4q, AV.drop, this, gadd, if_neg e]
    have ih := ziv (i := i) (b + 1) hg
    rw [show q + (b + 1) = q + 1 + b by omega] at ih
    exact .miss (fun h => e (by cases h; rfl)) ih
theorem zc0 (t : TypeId) : ∀ (G : List (Int × List Int)) (p : Nat), nth (z18 t G) p = (nth G p).map (fun g => some (gL t 1 eI 0 g.2))
 | [], p => by simp [z18, nth]
 | (k, l) :: r, 0 => rfl
 | (k, l) :: r, p + 1 => by simp only [z18, nth]; exact zc0 t r p
theorem za6 (t : TypeId) (j : Nat) : ∀ G : List (Int × List Int), dropO j (z18 t G) = z18 t G
 | [] => rfl
 | (k, l) :: r => by simp [z18, dropO, AObj.drop, gL, za6 t j r]
theorem z8i (t : TypeId) : ∀ G : List (Int × List Int), (z18 t G).length = G.length
 | [] => rfl
 | (k, l) :: r => by simp [z18, z8i t r]
theorem zc1 (t : TypeId) : ∀ G H : List (Int × List Int), z18 t (G ++ H) = z18 t G ++ z18 t H
 | [], H => rfl
 | (k, l) :: r, H => by simp [z18, zc1 t r H]
theorem zbz (t : TypeId) (k : Int) (l : List Int) : ∀ (G : List (Int × List Int)) (p : Nat), zi (z18 t G) p (some (gL t 1 eI 0 l)) = z18 t (zi G p (k, l))
 | [], p => by simp [z18, zi]
 | (k', l') :: r, 0 => rfl
 | (k', l') :: r, p + 1 => by simp only [z18, zi, zbz t k l r p]
theorem z4a : ∀ (l : List (Option AObj)), subO l l
 | [] => trivial
 | none :: r => z4a r
 | some o :: r => ⟨.refl o, z4a r⟩
theorem zd1 {o o' : AObj} (h : OLe o' o) : ∀ (l : List (Option AObj)) (p : Nat), subO (zi l p (some o)) (zi l p (some o'))
 | [], p => trivial
 | none :: r, 0 => ⟨h, z4a r⟩
 | some _ :: r, 0 => ⟨h, z4a r⟩
 | none :: r, p + 1 => zd1 h r p
 | some x :: r, p + 1 => ⟨.refl x, zd1 h r p⟩
theorem zfm : ∀ (b m : Nat) (G : List (Int × List Int)), b + G.length ≤ m → refsM m (esOf b G) = true
 | _, _, [], _ => rfl
 | b, m, (k, l) :: r, h => by
  have : Nat.blt b m = true := by rw [Nat.blt_eq]; simp at h; omega
  simp only [esOf, refsM, refsB, this]
  exact zfm (b + 1) m r (by simp at h; omega)
theorem za5 (t : TypeId) (m : Nat) : ∀ G : List (Int × List Int), refsO m (z18 t G) = true
 | [] => rfl
 | (k, l) :: r => by simp only [z18, refsO, gL, z5x]; exact za5 t m r
def esD : List (Int × List Int) → List (Value × AV)
 | [] => []
 | (k, l) :: r => (.int .i64 k, .d (eIs l)) :: esD r
theorem ziy : ∀ (G : List (Int × List Int)), keysB (.int .i64) (esD G) = true
 | [] => rfl
 | (k, l) :: r => by simp [esD, keysB, keyB, ziy r]
theorem ziz (k : Int) : ∀ (G : List (Int × List Int)), MFind (.int .i64 k) (esD G) ((gpos k G).map (fun _ => .d (eIs (gget k G))))
 | [] => .nil
 | (k', l) :: r => by
  simp only [esD, gpos, gget]
  split
  ·rename_i e
   subst e
   simpa using .hit
  ·rename_i e
   refine .miss (fun h => e (by cases h; rfl)) ?_
   have := ziz k r
   cases h : gpos k r with
   | none => rw [h] at this; exact this
   | some p => rw [h] at this; exact this
theorem zdw (m : Nat) : ∀ G : List (Int × List Int), refsM m (esD G) = true
 | [] => rfl
 | (k, l) :: r => by simp only [esD, refsM, refsB]; exact zdw m r
theorem zfe {k : Int} : ∀ {G : List (Int × List Int)}, gpos k G = none → gget k G = []
 | [], _ => rfl
 | (k', l) :: r, h => by
  simp only [gpos] at h
  split at h
  ·cases h
  ·rename_i e
   simp only [gget, if_neg e]
   exact zfe (by cases hg : gpos k r with | none => rfl | some p => rw [hg] at h; cases h)
def nones : Nat → List (Option AObj)
 | 0 => []
 | n + 1 => none :: nones n
theorem zn7 (i : Nat) (x : D) : ∀ G : List (Int × List Int), frzEs i x (esD G) = esD G
 | [] => rfl
 | (k, l) :: r => by simp [esD, frzEs, AV.frz, zn7 i x r]
theorem ziw (x : D) : ∀ (b i : Nat) (G : List (Int × List Int)), i < b → frzEs i x (esOf b G) = esOf b G
 | _, _, [], _ => rfl
 | b, i, (k, l) :: r, h => by
  have : Nat.beq b i = false := by rw [← Bool.not_eq_true, Nat.beq_eq]; omega
  simp [esOf, frzEs, AV.frz, this, ziw x (b + 1) i r (by omega)]
theorem zfi (i : Nat) (x : D) : ∀ a b : List (Value × AV), frzEs i x (a ++ b) = frzEs i x a ++ frzEs i x b
 | [], b => rfl
 | (k, y) :: r, b => by simp [frzEs, zfi i x r b]
theorem zir (i : Nat) (x : D) : ∀ (k : Nat) (a b : List (Option AObj)), frzO i x k (a ++ b) = frzO i x k a ++ frzO i x (k + a.length) b
 | k, [], b => rfl
 | k, y :: r, b => by simp [frzO, zir i x (k + 1) r b, show k + 1 + r.length = k + (r.length + 1) by omega]
theorem zcn (i : Nat) (x : D) : ∀ (k m : Nat), frzO i x k (nones m) = nones m
 | k, 0 => rfl
 | k, m + 1 => by
  simp only [nones, frzO, zcn i x (k + 1) m]
  split <;> rfl
theorem zfh (t : TypeId) (i : Nat) (x : D) : ∀ (k : Nat) (G : List (Int × List Int)), i < k → frzO i x k (z18 t G) = z18 t G
 | k, [], _ => rfl
 | k, (q, l) :: r, h => by
  have : Nat.beq k i = false := by rw [← Bool.not_eq_true, Nat.beq_eq]; omega
  simp only [z18, frzO, this, gL, AObj.frz, zfh t i x (k + 1) r (by omega)]
theorem zar : ∀ m, (nones m).length = m
 | 0 => rfl
 | m + 1 => by simp [nones, zar m]
theorem zcc : ∀ m, nones m ++ [none] = nones (m + 1)
 | 0 => rfl
 | m + 1 => by simp [nones, zcc m]
theorem zn8 (k : Int) (l : List Int) : ∀ G : List (Int × List Int), esD (G ++ [(k, l)]) = esD G ++ [(.int .i64 k, .d (eIs l))]
 | [] => rfl
 | (k', l') :: r => by simp [esD, zn8 k l r]
section
variable {P : Program} [Globals P] {f : FuncId} {n : Nat} {C : Cx} {R : AV → List (Option AObj) → Prop} {todo : List Item} {env : Env}
theorem zef {t : TypeId} {o0 o1 : AObj} (hE : ∀ i x, frzE (i + 3) x env = env) (h0 : ∀ i x, o0.frz (i + 3) x = o0) (h1 : ∀ i x, o1.frz (i + 3) x = o1) {G : List (Int × List Int)}
  (k : ASat P f n C todo env (some o0 :: some o1 :: some (.map (esD G)) :: nones G.length) R) : ASat P f n C todo env (some o0 :: some o1 :: some (.map (esOf 3 G)) :: z18 t G) R := by
 have key : ∀ (H D : List (Int × List Int)), (D ++ H = G) → ASat P f n C todo env (some o0 :: some o1 :: some (.map (esD D ++ esOf (D.length + 3) H)) :: (nones D.length ++ z18 t H)) R := by
  intro H
  induction H with
  | nil =>
   intro D hD
   rw [List.append_nil] at hD
   subst hD
   simpa [esOf, z18] using k
  | cons g r ih =>
   intro D hD
   obtain ⟨kk, l⟩ := g
   have ih' := ih (D ++ [(kk, l)]) (by simpa using hD)
   have hnth : nth (some o0 :: some o1 :: some (.map (esD D ++ esOf (D.length + 3) ((kk, l) :: r))) :: (nones D.length ++ z18 t ((kk, l) :: r))) (D.length + 3) = some (some (.grow t 1 (l.map eI) (fun i => eI (l.getD i 0)))) := by
    show nth (nones D.length ++ z18 t ((kk, l) :: r)) D.length = _
    have := z2t (l := nones D.length) (r := z18 t ((kk, l) :: r)) (m := 0)
    rw [zar, Nat.add_zero] at this
    rw [this]
    rfl
   refine zy (D.length + 3) hnth ?_
   rw [hE]
   have e1 : ∀ x, frzO (D.length + 3) x 0 (some o0 :: some o1 :: some (.map (esD D ++ esOf (D.length + 3) ((kk, l) :: r))) :: (nones D.length ++ z18 t ((kk, l) :: r))) =
     some (o0.frz (D.length + 3) x) :: some (o1.frz (D.length + 3) x) :: some (.map (frzEs (D.length + 3) x (esD D ++ esOf (D.length + 3) ((kk, l) :: r)))) :: frzO (D.length + 3) x 3 (nones D.length ++ z18 t ((kk, l) :: r)) := fun x => rfl
   rw [e1, h0, h1, zfi, zn7, zir, zcn, zar]
   have e2 : ∀ x, frzEs (D.length + 3) x (esOf (D.length + 3) ((kk, l) :: r)) = (.int .i64 kk, .d x) :: esOf (D.length + 1 + 3) r := by
    intro x
    have b : Nat.beq (D.length + 3) (D.length + 3) = true := Nat.beq_refl _
    simp only [esOf, frzEs, AV.frz, b]
    rw [ziw x (D.length + 3 + 1) (D.length + 3) r (by omega), show D.length + 3 + 1 = D.length + 1 + 3 by omega]
   have e3 : ∀ x, frzO (D.length + 3) x (3 + D.length) (z18 t ((kk, l) :: r)) = none :: z18 t r := by
    intro x
    have b : Nat.beq (3 + D.length) (D.length + 3) = true := by rw [Nat.add_comm]; exact Nat.beq_refl _
    simp only [z18, frzO, b]
    rw [zfh t (D.length + 3) x (3 + D.length + 1) r (by omega)]
   rw [e2, e3]
   rw [zn8, List.length_append, List.length_singleton, ← zcc] at ih'
   simpa [eIs, eL] using ih'
 have := key G [] rfl
 simpa [esD, nones] using this
end
end Ab
