/- A part of the proof: Ab31, Ab32, Ab33, U5, Ab34. -/
import Derived.Test.YtdnpkeahgpbkoaaP5
import Derived.MapKept
import Derived.Shelf.SlSortCmp.NoneTotal
set_option linter.unusedVariables false
set_option linter.unusedSimpArgs false
set_option linter.unusedSimpArgs false
set_option linter.unusedVariables false
namespace Ab
open Go Go.MapKept

section
variable {P : Program} {T : Tab} {f : FuncId} {fn : Func} {n : Nat} {C : Cx} {R R1 : AV → List (Option AObj) → Prop} {todo todo' : List Item} {env env' : Env} {objs objs' : List (Option AObj)} {nd : Prop}

/-- An operation whose outcome is told by hand. -/
theorem sat_op {ops : Array Oper} {i : Nat} {r : List Nat} {k : List Item} {o : Oper} {e : Env} (out : EOut) (ho : ops[i]? = some o) (hw : wantE ops env o = .yes)
    (hdo : ∀ X π w tmps, Mem X π objs w → EnvRel w (okOf X π objs) π env tmps → ERok P X π objs w (some out) (execOp (Act.eval ⟨tmps, []⟩) o)) (hc : cond out.c) (hput : putE n o.dst (skA out.skip out.a) (dropEnvQ out.q env) = some e)
    (h : ASat P f n C (.inRegion ops r :: k) e out.objs R) : ASat P f n C (.inRegion ops (i :: r) :: k) env objs R := by
  intro π w tmps hn hm hh he
  obtain ⟨v, w', π', d1, d2, d3⟩ := hdo _ _ _ _ hm he hc
  have he' := env_tr he d2
  obtain ⟨c, sk, a, q, objs'⟩ := out
  cases sk with
  | true =>
    obtain ⟨p1, p2⟩ := put_rel he' hn hput (.und)
    exact .opUnit ho ((wanted_of he).1 hw) (by simpa using d1) (h π' w' _ p2 d2.mem (hist_tr hh d2) p1)
  | false =>
    obtain ⟨p1, p2⟩ := put_rel he' hn hput (d3 rfl)
    exact .opVal ho ((wanted_of he).1 hw) (by simpa using d1) (h π' w' _ p2 d2.mem (hist_tr hh d2) p1)
end

/-! ### Maps -/
inductive MFind (k : Value) : List (Value × AV) → Option AV → Prop
  | nil : MFind k [] none
  | hit {x : AV} {r : List (Value × AV)} : MFind k ((k, x) :: r) (some x)
  | miss {k' : Value} {y : AV} {r : List (Value × AV)} {a : Option AV} (h : k' ≠ k) (t : MFind k r a) : MFind k ((k', y) :: r) a
inductive MPut (k : Value) (x : AV) : List (Value × AV) → List (Value × AV) → Prop
  | nil : MPut k x [] [(k, x)]
  | hit {y : AV} {r : List (Value × AV)} : MPut k x ((k, y) :: r) ((k, x) :: r)
  | miss {k' : Value} {y : AV} {r r' : List (Value × AV)} (h : k' ≠ k) (t : MPut k x r r') : MPut k x ((k', y) :: r) ((k', y) :: r')

def keyB : TK → Value → Bool
  | .int k, .int k' _ => k == k'
  | .str, .string _ => true
  | .bool, .bool _ => true
  | _, _ => false
def keysB (t : TK) : List (Value × AV) → Bool
  | [] => true
  | (k, _) :: r => match keyB t k with | true => keysB t r | false => false

theorem isKey_of {P : Program} {t : TK} {d : TypeDesc} {k : Value} (hd : kdOk P t d = true) (h : keyB t k = true) : IsKey d k := by
  cases t <;> cases k <;> cases d <;> simp_all [keyB, kdOk, IsKey]

theorem mfind_rel {w : World} {ok : Nat → Prop} {π : List Value} {d : TypeDesc} {k : Value} (hk : IsKey d k) : ∀ {es : List (Value × AV)} {ms : List MapEntry} {a : Option AV} (i : Nat), RelEs w ok π es ms → (∀ e ∈ es, IsKey d e.1) → MFind k es a →
    match a with
    | none => Instr.findNow d k ms i = some none
    | some x => ∃ j v, Instr.findNow d k ms i = some (some (j, v)) ∧ RelV w ok π x v
  | _, _, _, i, .nil, _, hf => by cases hf; rfl
  | _, _, a, i, .cons (k := k1) (v := v) (n := n) h t, hks, hf => by
    obtain ⟨r, hr, hiff⟩ := sameNow_of_keys hk (hks _ List.mem_cons_self)
    cases hf with
    | hit =>
      have : r = true := hiff.2 rfl
      subst this
      exact ⟨i, v, by simp [Instr.findNow, hr], h⟩
    | miss hne ht =>
      have : r = false := by
        cases r with
        | false => rfl
        | true => exact absurd (hiff.1 rfl).symm hne
      subst this
      have ih := mfind_rel hk (i + 1) t (fun e he => hks e (List.mem_cons_of_mem _ he)) ht
      cases a with
      | none => simpa [Instr.findNow, hr] using ih
      | some x =>
        obtain ⟨j, u, h1, h2⟩ := ih
        exact ⟨j, u, by simpa [Instr.findNow, hr] using h1, h2⟩

theorem mput_rel {w : World} {ok : Nat → Prop} {π : List Value} {d : TypeDesc} {k : Value} (hk : IsKey d k) {x : AV} {v : Value} (hv : RelV w ok π x v) (n0 : Nat) : ∀ {es es' : List (Value × AV)} {ms : List MapEntry} (i : Nat), RelEs w ok π es ms → (∀ e ∈ es, IsKey d e.1) → MPut k x es es' →
    (Instr.findNow d k ms i = some none ∧ RelEs w ok π es' (ms ++ [⟨k, v, n0⟩])) ∨
    (∃ j u e, Instr.findNow d k ms i = some (some (i + j, u)) ∧ ms[j]? = some e ∧ e.key = k ∧ RelEs w ok π es' (ms.set j { e with key := k, val := v }))
  | _, _, _, i, .nil, _, hf => by cases hf; exact .inl ⟨rfl, .cons hv .nil⟩
  | _, _, _, i, .cons (k := k1) (v := u) (n := n) h t, hks, hf => by
    obtain ⟨r, hr, hiff⟩ := sameNow_of_keys hk (hks _ List.mem_cons_self)
    cases hf with
    | hit =>
      have : r = true := hiff.2 rfl
      subst this
      exact .inr ⟨0, u, ⟨k, u, n⟩, by simp [Instr.findNow, hr], rfl, rfl, .cons hv t⟩
    | miss hne ht =>
      have : r = false := by
        cases r with
        | false => rfl
        | true => exact absurd (hiff.1 rfl).symm hne
      subst this
      rcases mput_rel hk hv n0 (i + 1) t (fun e he => hks e (List.mem_cons_of_mem _ he)) ht with ⟨h1, h2⟩ | ⟨j, u', e, h1, h2, h3, h4⟩
      · exact .inl ⟨by simpa [Instr.findNow, hr] using h1, .cons h h2⟩
      · refine .inr ⟨j + 1, u', e, ?_, by simpa using h2, h3, .cons h h4⟩
        simp only [Instr.findNow, hr]
        rw [h1]
        congr 3
        omega

theorem keysB_mem {P : Program} {t : TK} {d : TypeDesc} (hd : kdOk P t d = true) : ∀ {es : List (Value × AV)}, keysB t es = true → ∀ e ∈ es, IsKey d e.1
  | [], _, e, h => by simp at h
  | (k, x) :: r, hs, e, h => by
    simp only [keysB] at hs
    split at hs
    · rename_i hk
      rcases List.mem_cons.1 h with rfl | h
      · exact isKey_of hd hk
      · exact keysB_mem hd hs e h
    · cases hs

theorem RowOk.map {P : Program} {t k e : TypeId} {r : TRow} (h : RowOk P t r) (hk : r.kd = .map k e) : P.underlying t = some (.map k e) := by
  obtain ⟨⟨i, d, hi, hd, _, _, _, hkd⟩, _⟩ := h
  rw [hk] at hkd
  cases d <;> simp_all [kdOk]
theorem RowOk.kd {P : Program} {t : TypeId} {r : TRow} (h : RowOk P t r) : ∃ d, P.underlying t = some d ∧ kdOk P r.kd d = true := by
  obtain ⟨⟨i, d, hi, hd, _, _, _, hkd⟩, _⟩ := h
  exact ⟨d, hd, hkd⟩

/-- What is looked up. -/
def lookA (zero : D) (ok : Bool) : Option AV → AV
  | some x => if ok then .tp [x, vB true] else x
  | none => if ok then .tp [.d zero, vB false] else .d zero

theorem zeroV_rel {P : Program} {t : TypeId} {r : TRow} (h : RowOk P t r) (w : World) (ok : Nat → Prop) : ∃ z, (∀ w', (zeroValue t).run P w' = .ok z w') ∧ RelD w ok (zeroD r) z := by
  obtain ⟨z, h1, h2, h3, h4, h5⟩ := h.zero
  refine ⟨z, h1, ?_⟩
  have hrel := zeroD_rel h w ok
  unfold zeroD at hrel ⊢
  cases ha : r.isAgg with
  | true =>
    rw [ha] at hrel
    rw [h4 ha]
    exact .ag hrel
  | false =>
    have e := h5 ha
    rw [ha, e] at hrel
    rw [e]
    simp only at hrel ⊢
    cases hrel with
    | cons h _ _ => exact h

theorem keyB_ne {t : TK} {d : TypeDesc} {P : Program} {key : Value} (hd : kdOk P t d = true) (h : keyB t key = true) : IsKey d key := isKey_of hd h

theorem lookup_do {P : Program} {T : Tab} (hT : TabOk P T) {X : Nat → Prop} {π : List Value} {objs : List (Option AObj)} {w : World} (m : Mem X π objs w) {t kt et : TypeId} {r rk re : TRow} (h1 : tlook T t = some r) (h2 : r.kd = .map kt et) (h3 : tlook T kt = some rk) (h4 : tlook T et = some re)
    {i : Nat} {es : List (Value × AV)} (ho : nth objs i = some (some (.map es))) {key : Value} (hk : keyB rk.kd key = true) (hks : keysB rk.kd es = true) {a : Option AV} (hf : MFind key es a) {vm : Value} (hm : RelV w (okOf X π objs) π (.mp i) vm) (ok : Bool) :
    ∃ v, (Instr.lookup t vm key ok).run P w = .ok v w ∧ RelV w (okOf X π objs) π (lookA (zeroD re) ok a) v := by
  have ht := (tab_row hT h1).map h2
  obtain ⟨d, hd, hkd⟩ := (tab_row hT h3).kd
  have hkey := isKey_of hkd hk
  have hkeys := keysB_mem hkd hks
  obtain ⟨h, hp, hrel⟩ := m.obj i _ ho
  cases hm with
  | mp hp' =>
    rw [hp] at hp'
    cases hp'
    cases hrel with
    | map hb hes =>
      rename_i rr clock ms
      have hfind := mfind_rel hkey 0 hes hkeys hf
      obtain ⟨z, hz1, hz2⟩ := zeroV_rel (tab_row hT h4) w (okOf X π objs)
      have hck : ∀ e, (Instr.checkKey e 10000 kt key).run P w = .ok () w := fun e => run_checkKey hd hkey e 9999
      cases a with
      | none =>
        have hff := run_findKey (P := P) (w := w) hd hfind
        cases ok with
        | true => exact ⟨.tuple #[z, .bool false], by simp [Instr.lookup, run_underlying ht, run_getObj_map hb, hck, hff, hz1, Result.andThen], .tp (.cons (.d hz2) (.cons (.d (.v rfl)) .nil))⟩
        | false => exact ⟨z, by simp [Instr.lookup, run_underlying ht, run_getObj_map hb, hck, hff, hz1, Result.andThen], .d hz2⟩
      | some x =>
        obtain ⟨j, v, e1, e2⟩ := hfind
        have hff := run_findKey (P := P) (w := w) hd e1
        cases ok with
        | true => exact ⟨.tuple #[v, .bool true], by simp [Instr.lookup, run_underlying ht, run_getObj_map hb, hck, hff, Result.andThen], .tp (.cons e2 (.cons (.d (.v rfl)) .nil))⟩
        | false => exact ⟨v, by simp [Instr.lookup, run_underlying ht, run_getObj_map hb, hck, hff, Result.andThen], e2⟩

theorem update_do {P : Program} {T : Tab} (hT : TabOk P T) {X : Nat → Prop} {π : List Value} {objs : List (Option AObj)} {w : World} (m : Mem X π objs w) {t kt et : TypeId} {r rk : TRow} (h1 : tlook T t = some r) (h2 : r.kd = .map kt et) (h3 : tlook T kt = some rk)
    {i : Nat} {es es' : List (Value × AV)} (ho : nth objs i = some (some (.map es))) {key : Value} (hk : keyB rk.kd key = true) (hks : keysB rk.kd es = true) {x : AV} (hf : MPut key x es es') {vm vx : Value} (hm : RelV w (okOf X π objs) π (.mp i) vm) (hx : RelV w (okOf X π objs) π x vx) :
    ∃ w', (Instr.mapUpdate t vm key vx).run P w = .ok () w' ∧ Tr X π objs w none π (setNth objs i (some (.map es'))) w' := by
  have ht := (tab_row hT h1).map h2
  obtain ⟨d, hd, hkd⟩ := (tab_row hT h3).kd
  have hkey := isKey_of hkd hk
  have hkeys := keysB_mem hkd hks
  obtain ⟨h, hp, hrel⟩ := m.obj i _ ho
  cases hm with
  | mp hp' =>
    rw [hp] at hp'
    cases hp'
    cases hrel with
    | map hb hes =>
      rename_i rr clock ms
      have hck : ∀ e, (Instr.checkKey e 10000 kt key).run P w = .ok () w := fun e => run_checkKey hd hkey e 9999
      have htr : ∀ {ms' : List MapEntry} {clock' : Nat}, RelEs w (okOf X π objs) π es' ms' → Tr X π objs w none π (setNth objs i (some (.map es'))) { w with heap := w.heap.setIfInBounds rr (.map ms'.toArray clock') } := by
        intro ms' clock' hr
        have hs := heap_set (o' := .map ms'.toArray clock') hb
        refine tr_set (b := rr) m ho hp rfl rfl rfl ⟨rfl, Nat.le_refl _⟩ (by simp) hs.2 ?_
        exact .map hs.1 (hr.mono (set_keeps (w' := { w with heap := w.heap.setIfInBounds rr (.map ms'.toArray clock') }) ho hp rfl hs.2) (fun _ _ h => h))
      rcases mput_rel hkey hx clock 0 hes hkeys hf with ⟨f1, f2⟩ | ⟨j, u, e, f1, f2, f3, f4⟩
      · have hff := run_findKey (P := P) (w := w) hd f1
        refine ⟨_, ?_, htr (clock' := clock + 1) f2⟩
        simp [Instr.mapUpdate, run_underlying ht, run_getObj_map hb, hck, hff, run_setObj_map _ hb, Result.andThen]
      · have hff := run_findKey (P := P) (w := w) hd f1
        refine ⟨_, ?_, htr (clock' := clock) f4⟩
        rw [Nat.zero_add] at hff
        have hlt : j < ms.length := (List.getElem?_eq_some_iff.1 f2).1
        have hget : ms[j] = e := (List.getElem?_eq_some_iff.1 f2).2
        have hst := run_keyThatStays (P := P) (w := w) hkey
        simp [Instr.mapUpdate, run_underlying ht, run_getObj_map hb, hck, hff, f2, f3, hst, run_setObj_map _ hb, Result.andThen]
        congr 3
        apply List.ext_getElem?
        intro q
        rw [List.getElem?_modify, List.getElem?_set]
        by_cases e : j = q
        · subst e
          simp [hlt, hget]
        · simp [e]

end Ab
set_option linter.unusedSimpArgs false
set_option linter.unusedVariables false
namespace Ab
open Go

section
variable {P : Program} {T : Tab} {f : FuncId} {fn : Func} {n : Nat} {C : Cx} {R R1 : AV → List (Option AObj) → Prop} {todo todo' : List Item} {env env' : Env} {objs objs' : List (Option AObj)} {nd : Prop}

theorem sat_steps (m : Nat) (hT : TabOk P T) (hf : P.funcs[f]? = some fn) (h : srun T n fn.results.toList m True todo env objs = .goto nd todo' env' objs') (hn : nd) (k : ASat P f n C todo' env' objs' R) : ASat P f n C todo env objs R :=
  (run_sound hT hf m True todo env objs (by rw [h]; exact ⟨hn, k⟩)).2

theorem sat_estep {ops : Array Oper} {i : Nat} {r : List Nat} {k : List Item} {o : Oper} {e : Env} (out : EOut) (hT : TabOk P T) (ho : ops[i]? = some o) (hw : wantE ops env o = .yes) (hs : estep T o env objs = some out)
    (hc : cond out.c) (hput : putE n o.dst (skA out.skip out.a) (dropEnvQ out.q env) = some e)
    (h : ASat P f n C (.inRegion ops r :: k) e out.objs R) : ASat P f n C (.inRegion ops (i :: r) :: k) env objs R := by
  refine sat_op out ho hw (fun X π w tmps hm he => ?_) hc hput h
  have := estep_ok (ds := []) hT hm he o
  rwa [hs] at this

theorem eAppend_gs {T : Tab} {t t2 e : TypeId} {r re r2 : TRow} {x : AV} {ys xs : List D} {rd rd2 : Nat → D} {e2 : TypeId} {j s : Nat} (h1 : tlook T t = some r) (h2 : r.kd = .slice e) (h3 : tlook T e = some re) (h4 : tlook T t2 = some r2) (h5 : r2.kd = .slice e2)
    (h6 : elemsOf objs re.size x = some (ys, rd2)) (h7 : Nat.beq re.bytes 0 = false) (h8 : objAt objs j = some (.grow e s xs rd)) (h9 : s = re.size) :
    eAppend T t t2 objs (.gs j) x = some ⟨some ((xs.length + ys.length) * re.bytes ≤ 140737488355328), false, .gs j, some j, setNth (dropO j objs) j (some (.grow e s (xs ++ ys) (catRd xs.length rd rd2)))⟩ := by
  subst h9
  have b1 : Nat.beq re.size re.size = true := Nat.beq_refl _
  have b2 : Nat.beq e e = true := Nat.beq_refl _
  simp only [eAppend, h1, h2, h3, h4, h5, h6, h7, h8, b1, b2]

theorem look_ok {P : Program} {w : World} {X : Nat → Prop} {π : List Value} {env : Env} {tmps : Array Value} {x : Operand} {v : Value} (he : EnvRel w (okOf X π objs) π env tmps) (h : opnd env x = some (.d (.v v))) : Act.eval ⟨tmps, []⟩ x = v := by
  have := opnd_rel (ds := []) he h
  revert this
  generalize Act.eval ⟨tmps, []⟩ x = u
  intro hu
  cases hu with | d hu => cases hu; rfl

theorem sat_lookup {ops : Array Oper} {i : Nat} {r : List Nat} {k : List Item} {o : Oper} {e : Env} {t kt et : TypeId} {mo ko : Operand} {ok : Bool} {rm rk re : TRow} {j : Nat} {es : List (Value × AV)} {key : Value} {a : Option AV} (hT : TabOk P T)
    (ho : ops[i]? = some o) (hw : wantE ops env o = .yes) (hop : o.op = .lookup t mo ko ok) (hm : opnd env mo = some (.mp j)) (hk : opnd env ko = some (.d (.v key))) (h1 : tlook T t = some rm) (h2 : rm.kd = .map kt et) (h3 : tlook T kt = some rk) (h4 : tlook T et = some re)
    (hobj : nth objs j = some (some (.map es))) (hkey : keyB rk.kd key = true) (hks : keysB rk.kd es = true) (hf : MFind key es a) (hput : putE n o.dst (lookA (zeroD re) ok a) env = some e)
    (h : ASat P f n C (.inRegion ops r :: k) e objs R) : ASat P f n C (.inRegion ops (i :: r) :: k) env objs R := by
  refine sat_op ⟨none, false, lookA (zeroD re) ok a, none, objs⟩ ho hw (fun X π w tmps m he _ => ?_) trivial hput h
  obtain ⟨v, e1, e2⟩ := lookup_do hT m h1 h2 h3 h4 hobj hkey hks hf (opnd_rel (ds := []) he hm) ok
  refine ⟨v, w, π, ?_, tr_plain m rfl rfl ⟨rfl, Nat.le_refl _⟩ (Nat.le_refl _) (fun _ _ => rfl), fun _ => e2⟩
  unfold execOp
  simp only [hop]
  rw [look_ok (P := P) he hk]
  simp only [Sem.run_bind, e1, Result.andThen_ok, Sem.run_pure]
  rfl

theorem sat_lookupV {ops : Array Oper} {i : Nat} {r : List Nat} {k : List Item} {o : Oper} {e : Env} {t kt et : TypeId} {mo ko : Operand} {ok : Bool} {rm rk re : TRow} {j : Nat} {es : List (Value × AV)} {key : Value} {a : Option AV} {b : AV} (hT : TabOk P T)
    (ho : ops[i]? = some o) (hw : wantE ops env o = .yes) (hop : o.op = .lookup t mo ko ok) (hm : opnd env mo = some (.mp j)) (hk : opnd env ko = some (.d (.v key))) (h1 : tlook T t = some rm) (h2 : rm.kd = .map kt et) (h3 : tlook T kt = some rk) (h4 : tlook T et = some re)
    (hobj : nth objs j = some (some (.map es))) (hkey : keyB rk.kd key = true) (hks : keysB rk.kd es = true) (hf : MFind key es a) (hv : VLe (lookA (zeroD re) ok a) b) (hput : putE n o.dst b env = some e)
    (h : ASat P f n C (.inRegion ops r :: k) e objs R) : ASat P f n C (.inRegion ops (i :: r) :: k) env objs R := by
  refine sat_op ⟨none, false, b, none, objs⟩ ho hw (fun X π w tmps m he _ => ?_) trivial hput h
  obtain ⟨v, e1, e2⟩ := lookup_do hT m h1 h2 h3 h4 hobj hkey hks hf (opnd_rel (ds := []) he hm) ok
  refine ⟨v, w, π, ?_, tr_plain m rfl rfl ⟨rfl, Nat.le_refl _⟩ (Nat.le_refl _) (fun _ _ => rfl), fun _ => hv _ _ _ _ e2⟩
  unfold execOp
  simp only [hop]
  rw [look_ok (P := P) he hk]
  simp only [Sem.run_bind, e1, Result.andThen_ok, Sem.run_pure]
  rfl

theorem sat_update {ops : Array Oper} {i : Nat} {r : List Nat} {k : List Item} {o : Oper} {t kt et : TypeId} {mo ko xo : Operand} {rm rk : TRow} {j : Nat} {es es' : List (Value × AV)} {key : Value} {x : AV} (hT : TabOk P T)
    (ho : ops[i]? = some o) (hw : wantE ops env o = .yes) (hop : o.op = .mapUpdate t mo ko xo) (hd : o.dst = none) (hm : opnd env mo = some (.mp j)) (hk : opnd env ko = some (.d (.v key))) (hx : opnd env xo = some x) (h1 : tlook T t = some rm) (h2 : rm.kd = .map kt et) (h3 : tlook T kt = some rk)
    (hobj : nth objs j = some (some (.map es))) (hkey : keyB rk.kd key = true) (hks : keysB rk.kd es = true) (hf : MPut key x es es')
    (h : ASat P f n C (.inRegion ops r :: k) env (setNth objs j (some (.map es'))) R) : ASat P f n C (.inRegion ops (i :: r) :: k) env objs R := by
  refine sat_op ⟨none, true, .und, none, setNth objs j (some (.map es'))⟩ ho hw (fun X π w tmps m he _ => ?_) trivial (by rw [hd]; rfl) h
  obtain ⟨w', e1, e2⟩ := update_do hT m h1 h2 h3 hobj hkey hks hf (opnd_rel (ds := []) he hm) (opnd_rel (ds := []) he hx)
  refine ⟨undef, w', π, ?_, e2, fun h => by cases h⟩
  unfold execOp
  simp only [hop]
  rw [look_ok (P := P) he hk]
  simp only [Sem.run_bind, e1, Result.andThen_ok, Sem.run_pure]
  rfl
end

/-! ### Rows that are gathered under numbers: a map's objects behind it -/
def gadd (k i : Int) : List (Int × List Int) → List (Int × List Int)
  | [] => [(k, [i])]
  | (k', l) :: r => if k' = k then (k', l ++ [i]) :: r else (k', l) :: gadd k i r
def gget (k : Int) : List (Int × List Int) → List Int
  | [] => []
  | (k', l) :: r => if k' = k then l else gget k r
def esOf : Nat → List (Int × List Int) → List (Value × AV)
  | _, [] => []
  | b, (k, _) :: r => (.int .i64 k, .gs b) :: esOf (b + 1) r
def tailOf (t : TypeId) : List (Int × List Int) → List (Option AObj)
  | [] => []
  | (_, l) :: r => some (gL t 1 eI 0 l) :: tailOf t r
end Ab
set_option linter.unusedSimpArgs false
set_option linter.unusedVariables false
namespace Ab
open Go

def gpos (k : Int) : List (Int × List Int) → Option Nat
  | [] => none
  | (k', _) :: r => if k' = k then some 0 else (gpos k r).map (· + 1)

theorem esOf_keys : ∀ (b : Nat) (G : List (Int × List Int)), keysB (.int .i64) (esOf b G) = true
  | _, [] => rfl
  | b, (k, l) :: r => by simp [esOf, keysB, keyB, esOf_keys (b + 1) r]

theorem esOf_find (k : Int) : ∀ (b : Nat) (G : List (Int × List Int)), MFind (.int .i64 k) (esOf b G) ((gpos k G).map (fun p => .gs (p + b)))
  | _, [] => .nil
  | b, (k', l) :: r => by
    simp only [esOf, gpos]
    split
    · rename_i e
      subst e
      simpa using .hit
    · rename_i e
      refine .miss (fun h => e (by cases h; rfl)) ?_
      have := esOf_find k (b + 1) r
      cases h : gpos k r with
      | none => rw [h] at this; exact this
      | some p =>
        rw [h] at this
        simp only [Option.map_some] at this ⊢
        rwa [show p + (b + 1) = p + 1 + b by omega] at this

theorem gpos_none {k i : Int} : ∀ {G : List (Int × List Int)}, gpos k G = none → gadd k i G = G ++ [(k, [i])]
  | [], _ => rfl
  | (k', l) :: r, h => by
    simp only [gpos] at h
    split at h
    · cases h
    · rename_i e
      simp only [gadd, if_neg e, List.cons_append]
      rw [gpos_none (by cases hg : gpos k r with | none => rfl | some p => rw [hg] at h; cases h)]
theorem gpos_get {k : Int} : ∀ {G : List (Int × List Int)} {p : Nat}, gpos k G = some p → nth G p = some (k, gget k G)
  | [], p, h => by cases h
  | (k', l) :: r, p, h => by
    simp only [gpos] at h
    split at h
    · rename_i e
      cases h
      subst e
      simp [nth, gget]
    · rename_i e
      cases hg : gpos k r with
      | none => rw [hg] at h; cases h
      | some q =>
        rw [hg] at h
        cases h
        simp only [nth, gget, if_neg e]
        exact gpos_get hg
theorem gadd_set {k i : Int} : ∀ {G : List (Int × List Int)} {p : Nat}, gpos k G = some p → gadd k i G = setNth G p (k, gget k G ++ [i])
  | [], p, h => by cases h
  | (k', l) :: r, p, h => by
    simp only [gpos] at h
    split at h
    · rename_i e
      cases h
      subst e
      simp [gadd, gget, setNth]
    · rename_i e
      cases hg : gpos k r with
      | none => rw [hg] at h; cases h
      | some q =>
        rw [hg] at h
        cases h
        simp only [gadd, gget, if_neg e, setNth]
        rw [gadd_set hg]

theorem esOf_app (k : Int) (l : List Int) : ∀ (b : Nat) (G : List (Int × List Int)), esOf b (G ++ [(k, l)]) = esOf b G ++ [(.int .i64 k, .gs (G.length + b))]
  | b, [] => by simp [esOf]
  | b, (k', l') :: r => by simp [esOf, esOf_app k l (b + 1) r, show r.length + (b + 1) = r.length + 1 + b by omega]
theorem esOf_put_new {k : Int} : ∀ (b : Nat) (G : List (Int × List Int)) (x : AV), gpos k G = none → MPut (.int .i64 k) x (esOf b G) (esOf b G ++ [(.int .i64 k, x)])
  | _, [], x, _ => .nil
  | b, (k', l) :: r, x, h => by
    simp only [gpos] at h
    split at h
    · cases h
    · rename_i e
      exact .miss (fun h => e (by cases h; rfl)) (esOf_put_new (b + 1) r x (by cases hg : gpos k r with | none => rfl | some p => rw [hg] at h; cases h))
theorem esOf_drop : ∀ (b j : Nat) (G : List (Int × List Int)), j < b → dropEs j (esOf b G) = esOf b G
  | _, _, [], _ => rfl
  | b, j, (k, l) :: r, h => by
    have : Nat.beq b j = false := by rw [← Bool.not_eq_true, Nat.beq_eq]; omega
    simp only [esOf, dropEs, AV.drop, this, esOf_drop (b + 1) j r (by omega)]
theorem esOf_put {k i : Int} : ∀ (b : Nat) {G : List (Int × List Int)} {p : Nat}, gpos k G = some p → MPut (.int .i64 k) (.gs (p + b)) (dropEs (p + b) (esOf b G)) (esOf b (gadd k i G))
  | _, [], p, h => by cases h
  | b, (k', l) :: r, p, h => by
    simp only [gpos] at h
    split at h
    · rename_i e
      cases h
      subst e
      have : Nat.beq b (0 + b) = true := by rw [Nat.zero_add]; exact Nat.beq_refl _
      simp only [esOf, dropEs, AV.drop, this, gadd, if_true]
      rw [esOf_drop (b + 1) (0 + b) r (by omega), Nat.zero_add]
      exact .hit
    · rename_i e
      cases hg : gpos k r with
      | none => rw [hg] at h; cases h
      | some q =>
        rw [hg] at h
        cases h
        have : Nat.beq b (q + 1 + b) = false := by rw [← Bool.not_eq_true, Nat.beq_eq]; omega
        simp only [esOf, dropEs, AV.drop, this, gadd, if_neg e]
        have ih := esOf_put (i := i) (b + 1) hg
        rw [show q + (b + 1) = q + 1 + b by omega] at ih
        exact .miss (fun h => e (by cases h; rfl)) ih

theorem tailOf_nth (t : TypeId) : ∀ (G : List (Int × List Int)) (p : Nat), nth (tailOf t G) p = (nth G p).map (fun g => some (gL t 1 eI 0 g.2))
  | [], p => by simp [tailOf, nth]
  | (k, l) :: r, 0 => rfl
  | (k, l) :: r, p + 1 => by simp only [tailOf, nth]; exact tailOf_nth t r p
theorem tailOf_drop (t : TypeId) (j : Nat) : ∀ G : List (Int × List Int), dropO j (tailOf t G) = tailOf t G
  | [] => rfl
  | (k, l) :: r => by simp [tailOf, dropO, AObj.drop, gL, tailOf_drop t j r]
theorem tailOf_len (t : TypeId) : ∀ G : List (Int × List Int), (tailOf t G).length = G.length
  | [] => rfl
  | (k, l) :: r => by simp [tailOf, tailOf_len t r]
theorem tailOf_app (t : TypeId) : ∀ G H : List (Int × List Int), tailOf t (G ++ H) = tailOf t G ++ tailOf t H
  | [], H => rfl
  | (k, l) :: r, H => by simp [tailOf, tailOf_app t r H]
theorem tailOf_set (t : TypeId) (k : Int) (l : List Int) : ∀ (G : List (Int × List Int)) (p : Nat), setNth (tailOf t G) p (some (gL t 1 eI 0 l)) = tailOf t (setNth G p (k, l))
  | [], p => by simp [tailOf, setNth]
  | (k', l') :: r, 0 => rfl
  | (k', l') :: r, p + 1 => by simp only [tailOf, setNth, tailOf_set t k l r p]

theorem subO_refl : ∀ (l : List (Option AObj)), subO l l
  | [] => trivial
  | none :: r => subO_refl r
  | some o :: r => ⟨.refl o, subO_refl r⟩
theorem subO_cons {x y : AObj} {r s : List (Option AObj)} (h : OLe y x) (t : subO r s) : subO (some x :: r) (some y :: s) := ⟨h, t⟩
theorem subO_set {o o' : AObj} (h : OLe o' o) : ∀ (l : List (Option AObj)) (p : Nat), subO (setNth l p (some o)) (setNth l p (some o'))
  | [], p => trivial
  | none :: r, 0 => ⟨h, subO_refl r⟩
  | some _ :: r, 0 => ⟨h, subO_refl r⟩
  | none :: r, p + 1 => subO_set h r p
  | some x :: r, p + 1 => ⟨.refl x, subO_set h r p⟩


theorem esOf_refs : ∀ (b m : Nat) (G : List (Int × List Int)), b + G.length ≤ m → refsM m (esOf b G) = true
  | _, _, [], _ => rfl
  | b, m, (k, l) :: r, h => by
    have : Nat.blt b m = true := by rw [Nat.blt_eq]; simp at h; omega
    simp only [esOf, refsM, refsB, this]
    exact esOf_refs (b + 1) m r (by simp at h; omega)
theorem tailOf_refs (t : TypeId) (m : Nat) : ∀ G : List (Int × List Int), refsO m (tailOf t G) = true
  | [] => rfl
  | (k, l) :: r => by simp only [tailOf, refsO, gL, refsO1]; exact tailOf_refs t m r

/-! ### In the end: data -/
def esD : List (Int × List Int) → List (Value × AV)
  | [] => []
  | (k, l) :: r => (.int .i64 k, .d (eIs l)) :: esD r
theorem esD_keys : ∀ (G : List (Int × List Int)), keysB (.int .i64) (esD G) = true
  | [] => rfl
  | (k, l) :: r => by simp [esD, keysB, keyB, esD_keys r]
theorem esD_find (k : Int) : ∀ (G : List (Int × List Int)), MFind (.int .i64 k) (esD G) ((gpos k G).map (fun _ => .d (eIs (gget k G))))
  | [] => .nil
  | (k', l) :: r => by
    simp only [esD, gpos, gget]
    split
    · rename_i e
      subst e
      simpa using .hit
    · rename_i e
      refine .miss (fun h => e (by cases h; rfl)) ?_
      have := esD_find k r
      cases h : gpos k r with
      | none => rw [h] at this; exact this
      | some p => rw [h] at this; exact this
theorem esD_refs (m : Nat) : ∀ G : List (Int × List Int), refsM m (esD G) = true
  | [] => rfl
  | (k, l) :: r => by simp only [esD, refsM, refsB]; exact esD_refs m r
theorem gpos_gget {k : Int} : ∀ {G : List (Int × List Int)}, gpos k G = none → gget k G = []
  | [], _ => rfl
  | (k', l) :: r, h => by
    simp only [gpos] at h
    split at h
    · cases h
    · rename_i e
      simp only [gget, if_neg e]
      exact gpos_gget (by cases hg : gpos k r with | none => rfl | some p => rw [hg] at h; cases h)

def nones : Nat → List (Option AObj)
  | 0 => []
  | n + 1 => none :: nones n
theorem esD_frz (i : Nat) (x : D) : ∀ G : List (Int × List Int), frzEs i x (esD G) = esD G
  | [] => rfl
  | (k, l) :: r => by simp [esD, frzEs, AV.frz, esD_frz i x r]
theorem esOf_frz (x : D) : ∀ (b i : Nat) (G : List (Int × List Int)), i < b → frzEs i x (esOf b G) = esOf b G
  | _, _, [], _ => rfl
  | b, i, (k, l) :: r, h => by
    have : Nat.beq b i = false := by rw [← Bool.not_eq_true, Nat.beq_eq]; omega
    simp [esOf, frzEs, AV.frz, this, esOf_frz x (b + 1) i r (by omega)]
theorem frzEs_app (i : Nat) (x : D) : ∀ a b : List (Value × AV), frzEs i x (a ++ b) = frzEs i x a ++ frzEs i x b
  | [], b => rfl
  | (k, y) :: r, b => by simp [frzEs, frzEs_app i x r b]
theorem frzO_app (i : Nat) (x : D) : ∀ (k : Nat) (a b : List (Option AObj)), frzO i x k (a ++ b) = frzO i x k a ++ frzO i x (k + a.length) b
  | k, [], b => rfl
  | k, y :: r, b => by simp [frzO, frzO_app i x (k + 1) r b, show k + 1 + r.length = k + (r.length + 1) by omega]
theorem frzO_nones (i : Nat) (x : D) : ∀ (k m : Nat), frzO i x k (nones m) = nones m
  | k, 0 => rfl
  | k, m + 1 => by
    simp only [nones, frzO, frzO_nones i x (k + 1) m]
    split <;> rfl
theorem frzO_tail (t : TypeId) (i : Nat) (x : D) : ∀ (k : Nat) (G : List (Int × List Int)), i < k → frzO i x k (tailOf t G) = tailOf t G
  | k, [], _ => rfl
  | k, (q, l) :: r, h => by
    have : Nat.beq k i = false := by rw [← Bool.not_eq_true, Nat.beq_eq]; omega
    simp only [tailOf, frzO, this, gL, AObj.frz, frzO_tail t i x (k + 1) r (by omega)]
theorem nones_len : ∀ m, (nones m).length = m
  | 0 => rfl
  | m + 1 => by simp [nones, nones_len m]
theorem nones_snoc : ∀ m, nones m ++ [none] = nones (m + 1)
  | 0 => rfl
  | m + 1 => by simp [nones, nones_snoc m]
theorem esD_app (k : Int) (l : List Int) : ∀ G : List (Int × List Int), esD (G ++ [(k, l)]) = esD G ++ [(.int .i64 k, .d (eIs l))]
  | [] => rfl
  | (k', l') :: r => by simp [esD, esD_app k l r]

section
variable {P : Program} {f : FuncId} {n : Nat} {C : Cx} {R : AV → List (Option AObj) → Prop} {todo : List Item} {env : Env}

/-- All rows are only read from here on. -/
theorem sat_gathered {t : TypeId} {o0 o1 : AObj} (hE : ∀ i x, frzE (i + 3) x env = env) (h0 : ∀ i x, o0.frz (i + 3) x = o0) (h1 : ∀ i x, o1.frz (i + 3) x = o1) {G : List (Int × List Int)}
    (k : ASat P f n C todo env (some o0 :: some o1 :: some (.map (esD G)) :: nones G.length) R) : ASat P f n C todo env (some o0 :: some o1 :: some (.map (esOf 3 G)) :: tailOf t G) R := by
  have key : ∀ (H D : List (Int × List Int)), (D ++ H = G) → ASat P f n C todo env (some o0 :: some o1 :: some (.map (esD D ++ esOf (D.length + 3) H)) :: (nones D.length ++ tailOf t H)) R := by
    intro H
    induction H with
    | nil =>
      intro D hD
      rw [List.append_nil] at hD
      subst hD
      simpa [esOf, tailOf] using k
    | cons g r ih =>
      intro D hD
      obtain ⟨kk, l⟩ := g
      have ih' := ih (D ++ [(kk, l)]) (by simpa using hD)
      have hnth : nth (some o0 :: some o1 :: some (.map (esD D ++ esOf (D.length + 3) ((kk, l) :: r))) :: (nones D.length ++ tailOf t ((kk, l) :: r))) (D.length + 3) = some (some (.grow t 1 (l.map eI) (fun i => eI (l.getD i 0)))) := by
        show nth (nones D.length ++ tailOf t ((kk, l) :: r)) D.length = _
        have := nth_append_at (l := nones D.length) (r := tailOf t ((kk, l) :: r)) (m := 0)
        rw [nones_len, Nat.add_zero] at this
        rw [this]
        rfl
      refine sat_freeze (D.length + 3) hnth ?_
      rw [hE]
      have e1 : ∀ x, frzO (D.length + 3) x 0 (some o0 :: some o1 :: some (.map (esD D ++ esOf (D.length + 3) ((kk, l) :: r))) :: (nones D.length ++ tailOf t ((kk, l) :: r))) =
          some (o0.frz (D.length + 3) x) :: some (o1.frz (D.length + 3) x) :: some (.map (frzEs (D.length + 3) x (esD D ++ esOf (D.length + 3) ((kk, l) :: r)))) :: frzO (D.length + 3) x 3 (nones D.length ++ tailOf t ((kk, l) :: r)) := fun x => rfl
      rw [e1, h0, h1, frzEs_app, esD_frz, frzO_app, frzO_nones, nones_len]
      have e2 : ∀ x, frzEs (D.length + 3) x (esOf (D.length + 3) ((kk, l) :: r)) = (.int .i64 kk, .d x) :: esOf (D.length + 1 + 3) r := by
        intro x
        have b : Nat.beq (D.length + 3) (D.length + 3) = true := Nat.beq_refl _
        simp only [esOf, frzEs, AV.frz, b]
        rw [esOf_frz x (D.length + 3 + 1) (D.length + 3) r (by omega), show D.length + 3 + 1 = D.length + 1 + 3 by omega]
      have e3 : ∀ x, frzO (D.length + 3) x (3 + D.length) (tailOf t ((kk, l) :: r)) = none :: tailOf t r := by
        intro x
        have b : Nat.beq (3 + D.length) (D.length + 3) = true := by rw [Nat.add_comm]; exact Nat.beq_refl _
        simp only [tailOf, frzO, b]
        rw [frzO_tail t (D.length + 3) x (3 + D.length + 1) r (by omega)]
      rw [e2, e3]
      rw [esD_app, List.length_append, List.length_singleton, ← nones_snoc] at ih'
      simpa [eIs, eL] using ih'
  have := key G [] rfl
  simpa [esD, nones] using this
end
end Ab
namespace Go.Proofs.Ytdnpkeahgpbkoaa
open Go Ab
set_option maxRecDepth 100000
set_option linter.unusedVariables false
set_option linter.unusedSimpArgs false

@[reducible] def eIss (l : List (List Int)) : D := eL 1 eIs [] l
def gtot : List (Int × List Int) → Nat
  | [] => 0
  | (_, l) :: r => l.length + gtot r
theorem gtot_gadd (k i : Int) : ∀ G, gtot (gadd k i G) = gtot G + 1
  | [] => by simp [gadd, gtot]
  | (k', l) :: r => by
    simp only [gadd]
    split
    · simp [gtot]; omega
    · simp [gtot, gtot_gadd k i r]; omega
theorem gget_le (k : Int) : ∀ G, (gget k G).length ≤ gtot G
  | [] => by simp [gget]
  | (k', l) :: r => by
    simp only [gget, gtot]
    split
    · omega
    · have := gget_le k r; omega
def gatherC (i : Int) (c : List Int) (G : List (Int × List Int)) : List (Int × List Int) := c.foldl (fun G x => gadd (-x) i G) G
def gatherL : List (List Int) → Nat → List (Int × List Int) → List (Int × List Int)
  | [], _, G => G
  | c :: r, i, G => gatherL r (i + 1) (gatherC i c G)
def lits (l : List (List Int)) : Nat := (l.map List.length).sum

def litOk (n x : Int) : Prop := x ≠ 0 ∧ -n ≤ x ∧ x ≤ n
@[reducible] def gO (f0 : List Int) (G : List (Int × List Int)) : List (Option AObj) := some (gIs f0) :: some (.cells 52 [.gs 0, .d (.v (.slice none 0 0)), vB false]) :: some (.map (esOf 3 G)) :: tailOf 3 G

theorem gO_refs (f0 : List Int) (G : List (Int × List Int)) : refsO (gO f0 G).length (gO f0 G) = true := by
  have h : (gO f0 G).length = G.length + 3 := by simp [gO, tailOf_len]
  rw [h]
  have b1 : Nat.blt 0 (G.length + 3) = true := by rw [Nat.blt_eq]; omega
  simp only [gO, refsO, gL, refsO1, refsBs, refsB, b1, esOf_refs 3 (G.length + 3) G (by omega), tailOf_refs]

theorem subO_snoc {x y : AObj} (h : OLe y x) : ∀ l : List (Option AObj), subO (l ++ [some x]) (l ++ [some y])
  | [] => ⟨h, trivial⟩
  | none :: r => subO_snoc h r
  | some o :: r => ⟨.refl o, subO_snoc h r⟩

/-! ### What is forced, step by step -/
@[reducible] def stO (s : Wk) (G : List (Int × List Int)) : List (Option AObj) := [some (gIs s.forced), some (.cells 52 [.gs 0, .gs 3, vB s.clash]), some (.map (esD G)), some (gIs s.queue)]
theorem stO_refs (s : Wk) (G : List (Int × List Int)) : refsO (stO s G).length (stO s G) = true := by
  simp only [stO, refsO, gL, refsO1, refsBs, refsB, esD_refs]; rfl
structure WkV (n : Int) (s : Wk) : Prop where
  len : s.forced.length = (n + 1).toNat
  sz : s.queue.length + s.forced.count 0 ≤ (n + 1).toNat
theorem va_lt {n x : Int} (h : litOk n x) : va x < (n + 1).toNat := by
  obtain ⟨h0, h1, h2⟩ := h
  unfold va
  omega
theorem count_set0 : ∀ (l : List Int) (v : Nat) (x : Int), v < l.length → l.getD v 0 = 0 → x ≠ 0 → (l.set v x).count 0 + 1 = l.count 0
  | [], v, x, h, _, _ => by simp at h
  | y :: r, 0, x, h, h0, hx => by
    have : y = 0 := by simpa using h0
    subst this
    simp [hx]
  | y :: r, v + 1, x, h, h0, hx => by
    have := count_set0 r v x (by simpa using h) (by simpa using h0) hx
    simp only [List.set_cons_succ, List.count_cons]
    omega
theorem forceW_V {n x : Int} {s : Wk} (h : litOk n x) (v : WkV n s) : WkV n (forceW s x) := by
  unfold forceW
  split
  · exact v
  · split
    · rename_i h1 h2
      refine ⟨by simp [v.len], ?_⟩
      have := count_set0 s.forced (va x) x (by rw [v.len]; exact va_lt h) h2 h.1
      have := v.sz
      simp only [List.length_append, List.length_cons, List.length_nil]
      omega
    · exact ⟨v.len, v.sz⟩
theorem lookW_V {n : Int} {s : Wk} {c : List Int} (h : ∀ x ∈ c, litOk n x) (v : WkV n s) : WkV n (lookW s c) := by
  unfold lookW
  split
  · exact v
  · rename_i only ho
    split
    · exact ⟨v.len, v.sz⟩
    · rename_i hne
      rcases scanW_mem s.forced c 0 only ho with e | e
      · exact absurd e hne
      · exact forceW_V (h only e) v
def muW (s : Wk) : Nat := s.queue.length + s.forced.count 0
theorem forceW_mu {n x : Int} {s : Wk} (h : litOk n x) (v : WkV n s) : muW (forceW s x) = muW s := by
  unfold forceW muW
  split
  · rfl
  · split
    · rename_i h1 h2
      have := count_set0 s.forced (va x) x (by rw [v.len]; exact va_lt h) h2 h.1
      simp only [List.length_append, List.length_cons, List.length_nil]
      omega
    · rfl
theorem lookW_mu {n : Int} {s : Wk} {c : List Int} (h : ∀ x ∈ c, litOk n x) (v : WkV n s) : muW (lookW s c) = muW s := by
  unfold lookW
  split
  · rfl
  · rename_i only ho
    split
    · rfl
    · rename_i hne
      rcases scanW_mem s.forced c 0 only ho with e | e
      · exact absurd e hne
      · exact forceW_mu (h only e) v
def lookAt (l : List (List Int)) (s : Wk) (i : Int) : Wk := lookW s (l.getD i.toNat [])
def popW (l : List (List Int)) (G : List (Int × List Int)) (s : Wk) (x : Int) (q : List Int) : Wk := (gget x G).foldl (lookAt l) ⟨s.forced, q, s.clash⟩
inductive Star (l : List (List Int)) (G : List (Int × List Int)) (s : Wk) : Wk → Prop
  | refl : Star l G s s
  | step {t : Wk} {x : Int} {q : List Int} (h : Star l G s t) (hc : t.clash = false) (hq : t.queue = x :: q) : Star l G s (popW l G t x q)
def firstW (n : Int) (l : List (List Int)) (a : List Int) : Wk := l.foldl lookW (a.foldl forceW ⟨List.replicate (n + 1).toNat 0, [], false⟩)
def closeEnd (s : Wk) : AV := if s.clash = true then .tp [.d (.v (.slice none 0 0)), vB true] else .tp [.d (eIs (s.forced.filter (· ≠ 0))), vB false]
def CloseRel (n : Int) (l : List (List Int)) (a : List Int) (s : Wk) : Prop := Star l (gatherL l 0 []) (firstW n l a) s ∧ (s.queue = [] ∨ s.clash = true)
def DelOk : Prop := ∀ xs : List Int, xs ≠ [] → ACall Try.prog 26 [.gs 0, .d (.v (.func (.func 27) #[] #[]))] [some (gIs xs)] (fun r o => r = .gs 0 ∧ o = [some (gIs (xs.filter (· ≠ 0)))])

theorem gget_gadd (k k' i : Int) : ∀ G, gget k (gadd k' i G) = if k = k' then gget k G ++ [i] else gget k G
  | [] => by
    simp only [gadd, gget]
    by_cases e : k' = k
    · simp [e]
    · simp [e, Ne.symm e]
  | (q, l) :: r => by
    have ih := gget_gadd k k' i r
    simp only [gadd]
    by_cases e1 : q = k'
    · subst e1
      by_cases e2 : q = k
      · subst e2; simp [gget]
      · simp [gget, e2, Ne.symm e2]
    · simp only [if_neg e1, gget]
      by_cases e2 : q = k
      · subst e2; simp [e1]
      · simp [e2, ih]
theorem gget_gatherC (k : Int) (i : Int) : ∀ (c : List Int) G, gget k (gatherC i c G) = gget k G ++ (c.filter (fun x => -x = k)).map (fun _ => i)
  | [], G => by simp [gatherC]
  | x :: r, G => by
    have ih := gget_gatherC k i r (gadd (-x) i G)
    simp only [gatherC, List.foldl_cons] at ih ⊢
    rw [ih, gget_gadd]
    by_cases e : -x = k
    · simp [e]
    · simp [e, Ne.symm e]
/-- The clauses that are looked at when x is forced. -/
def idxs (k : Int) : Nat → List (List Int) → List Int
  | _, [] => []
  | i, c :: r => (c.filter (fun x => -x = k)).map (fun _ => (i : Int)) ++ idxs k (i + 1) r
theorem gget_gatherL (k : Int) : ∀ (l : List (List Int)) (i : Nat) G, gget k (gatherL l i G) = gget k G ++ idxs k i l
  | [], i, G => by simp [gatherL, idxs]
  | c :: r, i, G => by simp only [gatherL, gget_gatherL k r (i + 1), gget_gatherC, idxs, List.append_assoc]
theorem idxs_mem {k : Int} : ∀ {l : List (List Int)} {b : Nat} {i : Int}, i ∈ idxs k b l ↔ ∃ j : Nat, j < l.length ∧ i = ((b + j : Nat) : Int) ∧ -k ∈ l.getD j []
  | [], b, i => by simp [idxs]
  | c :: r, b, i => by
    simp only [idxs, List.mem_append, List.mem_map, List.mem_filter, decide_eq_true_eq, idxs_mem (l := r)]
    constructor
    · rintro (⟨x, ⟨h1, h2⟩, h3⟩ | ⟨j, h1, h2, h3⟩)
      · refine ⟨0, by simp, by simp [h3], ?_⟩
        have : -k = x := by omega
        simpa [this] using h1
      · exact ⟨j + 1, by simpa using h1, by rw [h2]; congr 1; omega, by simpa using h3⟩
    · rintro ⟨j, h1, h2, h3⟩
      cases j with
      | zero => exact .inl ⟨-k, ⟨by simpa using h3, by omega⟩, by rw [h2]; simp⟩
      | succ j => exact .inr ⟨j, by simpa using h1, by rw [h2]; congr 1; omega, by simpa using h3⟩

theorem esD_dropS (q : Nat → Bool) : ∀ G : List (Int × List Int), dropSEs q (esD G) = esD G
  | [] => rfl
  | (k, l) :: r => by simp [esD, dropSEs, AV.dropS, esD_dropS q r]
theorem esD_dropE (q : Nat) : ∀ G : List (Int × List Int), dropEs q (esD G) = esD G
  | [] => rfl
  | (k, l) :: r => by simp [esD, dropEs, AV.drop, esD_dropE q r]
theorem OLe.esD (q : Nat → Bool) (G : List (Int × List Int)) : OLe (AObj.dropS q (.map (esD G))) (.map (Ab.esD G)) := .of (by show AObj.map (dropSEs q (Ab.esD G)) = _; rw [esD_dropS])

theorem dropEs_keys (t : TK) (j : Nat) : ∀ es : List (Value × AV), keysB t (dropEs j es) = keysB t es
  | [] => rfl
  | (k, x) :: r => by simp only [dropEs, keysB, dropEs_keys t j r]

theorem Close_call (n : Int) (l : List (List Int)) (a : List Int) (hn : 0 ≤ n ∧ n ≤ 100000) (hl : ∀ c ∈ l, ∀ x ∈ c, litOk n x) (ha : ∀ x ∈ a, litOk n x) (hb : lits l ≤ 1000000) (hdel : DelOk) :
    ACall Try.prog 12 [vI .i64 n, .d (eIss l), .d (eIs a)] [] (fun r o => ∃ s, CloseRel n l a s ∧ WkV n s ∧ r = closeEnd s) := by
  refine acall_enter Try.func12 rfl rfl (Nat.le_of_ble_eq_true rfl) fun C hC hCl => ?_
  refine sat_len (t := 1) rfl fun hlen => ?_
  rw [List.length_map] at hlen
  refine sat_len (t := 2) rfl fun halen => ?_
  rw [List.length_map] at halen
  have w1 : IntKind.i64.wrap (n + 1) = n + 1 := wrap_id (by omega) (by omega)
  refine sat_stop tabOk Try.func12 rfl ?_ ?_
  · refine ⟨?_, trivial⟩
    rw [w1]
    refine ⟨by omega, Int.le_refl _, ?_⟩
    show (n + 1) * (8 : Int) ≤ _
    omega
  have f0 : (List.replicate (n + 1).toNat (0 : Int)).map eI = List.replicate (n + 1).toNat (eI 0) := by simp
  refine sat_while (α := Nat × List (Int × List Int)) (fun s => [(0, vI .i64 n), (1, .d (eIss l)), (2, .d (eIs a)), (8, .ptr 1 0), (9, .mp 2), (27, .d (eIss l)), (28, vI .i64 l.length), (29, vI .i64 s.1)]) (fun s => gO (List.replicate (n + 1).toNat 0) s.2)
    (fun s => s.1 ≤ l.length ∧ gatherL (l.drop s.1) s.1 s.2 = gatherL l 0 [] ∧ gtot s.2 + lits (l.drop s.1) ≤ 1000000) (fun s => l.length - s.1) (0, []) ⟨Nat.zero_le _, rfl, by simpa [gtot] using hb⟩ ?_ ?_
  · refine fun h => sat_le h hC hCl ?_ ?_ rfl rfl (Nat.zero_le _)
    · exact ⟨⟨_, rfl, .refl _⟩, ⟨_, rfl, .refl _⟩, ⟨_, rfl, .refl _⟩, ⟨_, rfl, .refl _⟩, ⟨_, rfl, .refl _⟩, ⟨_, rfl, .refl _⟩, ⟨_, rfl, .of (by rw [List.length_map])⟩, ⟨_, rfl, .refl _⟩, trivial⟩
    · refine ⟨.gL ?_, .refl _, .refl _, trivial⟩
      rw [f0, w1]
      rfl
  · rintro ⟨i, G⟩ ⟨hi, hG, ht⟩ ih
    simp only at hi hG ht ⊢
    refine sat_branch tabOk Try.func12 rfl trivial (fun hb => ?_) (fun hb => ?_) <;> simp only [decide_eq_true_eq, decide_eq_false_iff_not] at hb
    · have hlt : i < l.length := by omega
      have hget : l.getD i [] = l[i] := by simp [hlt]
      rw [List.drop_eq_getElem_cons hlt, gatherL] at hG
      rw [List.drop_eq_getElem_cons hlt, lits, List.map_cons, List.sum_cons] at ht
      have hlc := hl _ (List.getElem_mem hlt)
      generalize hc : l[i] = c at *
      refine sat_stop tabOk Try.func12 rfl ?_ ?_
      · simp only [Int.toNat_natCast, List.length_map]; exact ⟨⟨by omega, by omega⟩, trivial⟩
      refine sat_while (α := Nat × List (Int × List Int)) (fun s => [(0, vI .i64 n), (1, .d (eIss l)), (2, .d (eIs a)), (8, .ptr 1 0), (9, .mp 2), (27, .d (eIss l)), (28, vI .i64 l.length), (29, vI .i64 i), (10, vI .i64 i), (34, .d (eIs c)), (35, vI .i64 c.length), (36, vI .i64 s.1)]) (fun s => gO (List.replicate (n + 1).toNat 0) s.2)
        (fun s => s.1 ≤ c.length ∧ gatherC i (c.drop s.1) s.2 = gatherC i c G ∧ gtot s.2 + (c.length - s.1) + lits (l.drop (i + 1)) ≤ 1000000) (fun s => c.length - s.1) (0, G) ⟨Nat.zero_le _, rfl, by simpa [lits, Nat.add_assoc] using ht⟩ ?_ ?_
      · refine fun h => sat_le h hC hCl ?_ (subO_refl _) rfl (gO_refs _ _) (Nat.zero_le _)
        have e1 : eIs (l.getD i []) = eIs c := by rw [hget]
        exact ⟨⟨_, rfl, .refl _⟩, ⟨_, rfl, .refl _⟩, ⟨_, rfl, .refl _⟩, ⟨_, rfl, .refl _⟩, ⟨_, rfl, .refl _⟩, ⟨_, rfl, .refl _⟩, ⟨_, rfl, .refl _⟩, ⟨_, rfl, .refl _⟩, ⟨_, rfl, .refl _⟩, ⟨_, rfl, .of (by rw [← e1]; rfl)⟩, ⟨_, rfl, .of (by rw [List.length_map, ← hget]; rfl)⟩, ⟨_, rfl, .refl _⟩, trivial⟩
      · rintro ⟨k, H⟩ ⟨hk, hH, htH⟩ ihk
        simp only at hk hH htH ⊢
        refine sat_branch tabOk Try.func12 rfl trivial (fun hb2 => ?_) (fun hb2 => ?_) <;> simp only [decide_eq_true_eq, decide_eq_false_iff_not] at hb2
        · have hltk : k < c.length := by omega
          have hgetk : c.getD k 0 = c[k] := by simp [hltk]
          rw [List.drop_eq_getElem_cons hltk, gatherC, List.foldl_cons] at hH
          have hx := hlc _ (List.getElem_mem hltk)
          generalize hxx : c[k] = x at *
          obtain ⟨x0, x1, x2⟩ := hx
          have w2 : IntKind.i64.wrap (0 - x) = -x := by rw [wrap_id (by omega) (by omega), Int.zero_sub]
          refine sat_goto tabOk Try.func12 rfl ?_ ?_
          · simp only [Int.toNat_natCast, List.length_map]; exact ⟨⟨by omega, by omega⟩, trivial⟩
          refine sat_view (t := 45) (b := vI .i64 (-x)) rfl (.of (by show vI .i64 (IntKind.i64.wrap (0 - c.getD k 0)) = _; rw [hgetk, w2])) ?_
          refine sat_view (t := 42) (b := vI .i64 (-x)) rfl (.of (by show vI .i64 (IntKind.i64.wrap (0 - c.getD k 0)) = _; rw [hgetk, w2])) ?_
          have hgt := gget_le (-x) H
          have next : ASat Try.prog 12 Try.f12.ntmps C _ _ _ _ := ihk (k + 1, gadd (-x) i H) ⟨by omega, hH, by rw [gtot_gadd]; omega⟩ (by omega)
          cases hp : gpos (-x) H with
          | none =>
            have hfind := esOf_find (-x) 3 H
            rw [hp] at hfind
            refine sat_lookup (a := none) tabOk rfl rfl rfl rfl rfl rfl rfl rfl rfl rfl rfl (esOf_keys 3 H) hfind rfl ?_
            refine sat_goto tabOk Try.func12 rfl ?_ ?_
            · exact ⟨by show 1 * 8 ≤ 140737488355328; omega, trivial⟩
            refine sat_update tabOk rfl rfl rfl rfl rfl rfl rfl rfl rfl rfl rfl rfl (esOf_keys 3 H) (esOf_put_new 3 H _ hp) ?_
            refine sat_stop tabOk Try.func12 rfl trivial ?_
            have e3 : IntKind.i64.wrap ((k : Int) + 1) = ((k + 1 : Nat) : Int) := wrap_id (by omega) (by omega)
            refine sat_le next hC hCl ?_ ?_ rfl (gO_refs _ _) (Nat.zero_le _)
            · exact ⟨⟨_, rfl, .refl _⟩, ⟨_, rfl, .refl _⟩, ⟨_, rfl, .refl _⟩, ⟨_, rfl, .refl _⟩, ⟨_, rfl, .refl _⟩, ⟨_, rfl, .refl _⟩, ⟨_, rfl, .refl _⟩, ⟨_, rfl, .refl _⟩, ⟨_, rfl, .refl _⟩, ⟨_, rfl, .refl _⟩, ⟨_, rfl, .refl _⟩, ⟨_, rfl, .of (by rw [e3])⟩, trivial⟩
            · rw [gpos_none hp]
              simp only [gO]
              rw [tailOf_app, esOf_app]
              refine ⟨.refl _, .refl _, .of ?_, ?_⟩
              · show AObj.map (esOf 3 H ++ [(.int .i64 (-x), .gs ((tailOf 3 H).length + 1 + 1 + 1))]) = _
                rw [tailOf_len]
              · exact subO_snoc (.gL rfl) _
          | some p =>
            have hfind := esOf_find (-x) 3 H
            rw [hp] at hfind
            refine sat_lookup (a := some (.gs (p + 3))) tabOk rfl rfl rfl rfl rfl rfl rfl rfl rfl rfl rfl (esOf_keys 3 H) hfind rfl ?_
            refine sat_steps 2 tabOk Try.func12 rfl trivial ?_
            have hobj : objAt (gO (List.replicate (n + 1).toNat 0) H) (p + 3) = some (gL 3 1 eI 0 (gget (-x) H)) := by
              show (match nth (tailOf 3 H) p with | some (some o) => some o | _ => none) = _
              rw [tailOf_nth, gpos_get hp]
              rfl
            have hap := eAppend_gs (T := tab) (t := 23) (t2 := 23) (x := .d (.sl 1 [.v (.int .i64 i)] (litRd [.v (.int .i64 i)]))) rfl rfl rfl rfl rfl rfl rfl hobj rfl
            refine sat_estep _ tabOk rfl rfl hap ?_ rfl ?_
            · show ((List.map eI (gget (-x) H)).length + 1) * 8 ≤ 140737488355328
              rw [List.length_map]
              omega
            refine sat_update tabOk rfl rfl rfl rfl rfl rfl rfl rfl rfl rfl rfl rfl (by rw [dropEs_keys]; exact esOf_keys 3 H) (esOf_put (i := i) 3 hp) ?_
            refine sat_stop tabOk Try.func12 rfl trivial ?_
            have e3 : IntKind.i64.wrap ((k : Int) + 1) = ((k + 1 : Nat) : Int) := wrap_id (by omega) (by omega)
            refine sat_le next hC hCl ?_ ?_ rfl (gO_refs _ _) (Nat.zero_le _)
            · exact ⟨⟨_, rfl, .refl _⟩, ⟨_, rfl, .refl _⟩, ⟨_, rfl, .refl _⟩, ⟨_, rfl, .refl _⟩, ⟨_, rfl, .refl _⟩, ⟨_, rfl, .refl _⟩, ⟨_, rfl, .refl _⟩, ⟨_, rfl, .refl _⟩, ⟨_, rfl, .refl _⟩, ⟨_, rfl, .refl _⟩, ⟨_, rfl, .refl _⟩, ⟨_, rfl, .of (by rw [e3])⟩, trivial⟩
            · refine ⟨.refl _, .refl _, .refl _, ?_⟩
              show subO (tailOf 3 (gadd (-x) i H)) (setNth (dropO (p + 3) (tailOf 3 H)) p _)
              rw [tailOf_drop, gadd_set hp, ← tailOf_set]
              exact subO_set (.gL (by rw [List.map_append]; rfl)) _ _
        · obtain rfl : k = c.length := by omega
          rw [List.drop_length] at hH
          have hH : H = gatherC i c G := hH
          subst hH
          refine sat_stop tabOk Try.func12 rfl trivial ?_
          have e3 : IntKind.i64.wrap ((i : Int) + 1) = ((i + 1 : Nat) : Int) := wrap_id (by omega) (by omega)
          refine sat_le (ih (i + 1, gatherC i c G) ⟨by omega, hG, by rw [Nat.sub_self, Nat.add_zero] at htH; exact htH⟩ (by omega)) hC hCl ?_ (subO_refl _) rfl (gO_refs _ _) (Nat.zero_le _)
          exact ⟨⟨_, rfl, .refl _⟩, ⟨_, rfl, .refl _⟩, ⟨_, rfl, .refl _⟩, ⟨_, rfl, .refl _⟩, ⟨_, rfl, .refl _⟩, ⟨_, rfl, .refl _⟩, ⟨_, rfl, .refl _⟩, ⟨_, rfl, .of (by rw [e3])⟩, trivial⟩
    · obtain rfl : i = l.length := by omega
      rw [List.drop_length] at hG
      have hG : G = gatherL l 0 [] := hG
      refine sat_stop tabOk Try.func12 rfl trivial ?_
      refine asat_le (env' := [(0, vI .i64 n), (1, .d (eIss l)), (2, .d (eIs a)), (8, .ptr 1 0), (9, .mp 2), (52, .d (eIs a)), (53, vI .i64 a.length), (54, vI .i64 0)]) (objs' := gO (List.replicate (n + 1).toNat 0) G) ?_ (subO_refl _) rfl (gO_refs _ _) (by rw [hC]; exact Nat.zero_le _) hCl ?_
      · exact ⟨⟨_, rfl, .refl _⟩, ⟨_, rfl, .refl _⟩, ⟨_, rfl, .refl _⟩, ⟨_, rfl, .refl _⟩, ⟨_, rfl, .refl _⟩, ⟨_, rfl, .refl _⟩, ⟨_, rfl, .of (by rw [List.length_map])⟩, ⟨_, rfl, .refl _⟩, trivial⟩
      refine sat_gathered (fun _ _ => rfl) (fun _ _ => rfl) (fun _ _ => rfl) ?_
      refine asat_le (env' := [(0, vI .i64 n), (1, .d (eIss l)), (2, .d (eIs a)), (8, .ptr 1 0), (9, .mp 2), (52, .d (eIs a)), (53, vI .i64 a.length), (54, vI .i64 0)]) (objs' := [some (gIs (List.replicate (n + 1).toNat 0)), some (.cells 52 [.gs 0, .d (.v (.slice none 0 0)), vB false]), some (.map (esD G))]) ?_ ⟨.refl _, .refl _, .refl _, trivial⟩ rfl ?_ (by rw [hC]; exact Nat.zero_le _) hCl ?_
      · exact ⟨⟨_, rfl, .refl _⟩, ⟨_, rfl, .refl _⟩, ⟨_, rfl, .refl _⟩, ⟨_, rfl, .refl _⟩, ⟨_, rfl, .refl _⟩, ⟨_, rfl, .refl _⟩, ⟨_, rfl, .refl _⟩, ⟨_, rfl, .refl _⟩, trivial⟩
      · simp only [refsO, gL, refsO1, refsBs, refsB, esD_refs]; rfl
      refine sat_ownCell (e' := 3) (s := 1) 1 1 (fun i => eI (([] : List Int).getD i 0)) rfl rfl ?_
      have v0 : WkV n ⟨List.replicate (n + 1).toNat 0, [], false⟩ := ⟨by simp, by simp⟩
      generalize hs0 : (⟨List.replicate (n + 1).toNat 0, [], false⟩ : Wk) = s0 at v0
      refine sat_while (α := Nat × Wk) (fun s => [(0, vI .i64 n), (1, .d (eIss l)), (2, .d (eIs a)), (8, .ptr 1 0), (9, .mp 2), (52, .d (eIs a)), (53, vI .i64 a.length), (54, vI .i64 s.1)]) (fun s => stO s.2 G)
        (fun s => s.1 ≤ a.length ∧ (a.drop s.1).foldl forceW s.2 = a.foldl forceW s0 ∧ WkV n s.2) (fun s => a.length - s.1) (0, s0) ⟨Nat.zero_le _, rfl, v0⟩ ?_ ?_
      · refine fun h => sat_le h hC hCl ?_ ?_ rfl (stO_refs _ _) (Nat.zero_le _)
        · exact ⟨⟨_, rfl, .refl _⟩, ⟨_, rfl, .refl _⟩, ⟨_, rfl, .refl _⟩, ⟨_, rfl, .refl _⟩, ⟨_, rfl, .refl _⟩, ⟨_, rfl, .refl _⟩, ⟨_, rfl, .refl _⟩, ⟨_, rfl, .refl _⟩, trivial⟩
        · rw [← hs0]
          exact ⟨.refl _, .refl _, .refl _, .refl _, trivial⟩
      · rintro ⟨j, s⟩ ⟨hj, hs, hv⟩ ihj
        simp only at hj hs hv ⊢
        have hql : s.queue.length ≤ 1000000 := by have := hv.sz; omega
        refine sat_branch tabOk Try.func12 rfl trivial (fun hb => ?_) (fun hb => ?_) <;> simp only [decide_eq_true_eq, decide_eq_false_iff_not] at hb
        · have hlt : j < a.length := by omega
          have hget : a.getD j 0 = a[j] := by simp [hlt]
          rw [List.drop_eq_getElem_cons hlt, List.foldl_cons] at hs
          have hx := ha _ (List.getElem_mem hlt)
          generalize hxx : a[j] = x at *
          refine sat_callG [1, 0, 3] tabOk Try.func12 rfl ?_ (force_call s x (by rw [hv.len]; exact va_lt hx) (by obtain ⟨x0, x1, x2⟩ := hx; omega) hql) ⟨⟨_, rfl, .refl _⟩, ⟨_, rfl, .refl _⟩, ⟨_, rfl, .refl _⟩, trivial⟩ ⟨.refl _, .of (by show vI .i64 (a.getD j 0) = vI .i64 x; rw [hget]), trivial⟩ rfl rfl rfl ⟨_, rfl⟩ ?_
          · simp only [Int.toNat_natCast, List.length_map]; exact ⟨⟨by omega, by omega⟩, trivial⟩
          rintro r o ⟨rfl, rfl⟩
          refine sat_stop tabOk Try.func12 rfl trivial ?_
          have e3 : IntKind.i64.wrap ((j : Int) + 1) = ((j + 1 : Nat) : Int) := wrap_id (by omega) (by omega)
          refine sat_le (ihj (j + 1, forceW s x) ⟨by omega, hs, forceW_V hx hv⟩ (by omega)) hC hCl ?_ ?_ rfl (stO_refs _ _) (Nat.zero_le _)
          · exact ⟨⟨_, rfl, .refl _⟩, ⟨_, rfl, .refl _⟩, ⟨_, rfl, .refl _⟩, ⟨_, rfl, .refl _⟩, ⟨_, rfl, .refl _⟩, ⟨_, rfl, .refl _⟩, ⟨_, rfl, .refl _⟩, ⟨_, rfl, .of (by rw [e3])⟩, trivial⟩
          · exact ⟨.refl _, .refl _, OLe.esD _ _, .refl _, trivial⟩
        · obtain rfl : j = a.length := by omega
          rw [List.drop_length, List.foldl_nil] at hs
          refine sat_stop tabOk Try.func12 rfl trivial ?_
          refine sat_while (α := Nat × Wk) (fun s => [(0, vI .i64 n), (1, .d (eIss l)), (8, .ptr 1 0), (9, .mp 2), (62, .d (eIss l)), (63, vI .i64 l.length), (64, vI .i64 s.1)]) (fun s => stO s.2 G)
            (fun t => t.1 ≤ l.length ∧ (l.drop t.1).foldl lookW t.2 = l.foldl lookW s ∧ WkV n t.2) (fun s => l.length - s.1) (0, s) ⟨Nat.zero_le _, rfl, hv⟩ ?_ ?_
          · refine fun h => sat_le h hC hCl ?_ ⟨.refl _, .refl _, .refl _, .refl _, trivial⟩ rfl (stO_refs _ _) (Nat.zero_le _)
            exact ⟨⟨_, rfl, .refl _⟩, ⟨_, rfl, .refl _⟩, ⟨_, rfl, .refl _⟩, ⟨_, rfl, .refl _⟩, ⟨_, rfl, .refl _⟩, ⟨_, rfl, .of (by rw [List.length_map])⟩, ⟨_, rfl, .refl _⟩, trivial⟩
          rintro ⟨j, t⟩ ⟨hj, ht, htv⟩ ihj
          simp only at hj ht htv ⊢
          have hql : t.queue.length ≤ 1000000 := by have := htv.sz; omega
          refine sat_branch tabOk Try.func12 rfl trivial (fun hb => ?_) (fun hb => ?_) <;> simp only [decide_eq_true_eq, decide_eq_false_iff_not] at hb
          · have hlt : j < l.length := by omega
            have hget : l.getD j [] = l[j] := by simp [hlt]
            rw [List.drop_eq_getElem_cons hlt, List.foldl_cons] at ht
            have hx := hl _ (List.getElem_mem hlt)
            generalize hxx : l[j] = c at *
            refine sat_callG [1, 0, 3] tabOk Try.func12 rfl ?_ (look_call t c (fun x hm => ⟨by rw [htv.len]; exact va_lt (hx x hm), by obtain ⟨x0, x1, x2⟩ := hx x hm; omega⟩) hql) ⟨⟨_, rfl, .refl _⟩, ⟨_, rfl, .refl _⟩, ⟨_, rfl, .refl _⟩, trivial⟩ ⟨.refl _, .of (by show AV.d (eIs (l.getD j [])) = AV.d (eIs c); rw [hget]), trivial⟩ rfl rfl rfl ⟨_, rfl⟩ ?_
            · simp only [Int.toNat_natCast, List.length_map]; exact ⟨⟨by omega, by omega⟩, trivial⟩
            rintro r o ⟨rfl, rfl⟩
            refine sat_stop tabOk Try.func12 rfl trivial ?_
            have e3 : IntKind.i64.wrap ((j : Int) + 1) = ((j + 1 : Nat) : Int) := wrap_id (by omega) (by omega)
            refine sat_le (ihj (j + 1, lookW t c) ⟨by omega, ht, lookW_V hx htv⟩ (by omega)) hC hCl ?_ ⟨.refl _, .refl _, OLe.esD _ _, .refl _, trivial⟩ rfl (stO_refs _ _) (Nat.zero_le _)
            exact ⟨⟨_, rfl, .refl _⟩, ⟨_, rfl, .refl _⟩, ⟨_, rfl, .refl _⟩, ⟨_, rfl, .refl _⟩, ⟨_, rfl, .refl _⟩, ⟨_, rfl, .refl _⟩, ⟨_, rfl, .of (by rw [e3])⟩, trivial⟩
          obtain rfl : j = l.length := by omega
          rw [List.drop_length, List.foldl_nil] at ht
          have hfirst : t = firstW n l a := by rw [ht, hs, ← hs0]; rfl
          refine sat_stop tabOk Try.func12 rfl trivial ?_
          refine sat_while (α := Wk) (fun s => [(0, vI .i64 n), (1, .d (eIss l)), (8, .ptr 1 0), (9, .mp 2)]) (fun s => stO s G)
            (fun u => Star l G (firstW n l a) u ∧ WkV n u) (fun u => u.queue.length + u.forced.count 0) t ⟨hfirst ▸ .refl, htv⟩ ?_ ?_
          · refine fun h => sat_le h hC hCl ?_ ⟨.refl _, .refl _, .refl _, .refl _, trivial⟩ rfl (stO_refs _ _) (Nat.zero_le _)
            exact ⟨⟨_, rfl, .refl _⟩, ⟨_, rfl, .refl _⟩, ⟨_, rfl, .refl _⟩, ⟨_, rfl, .refl _⟩, trivial⟩
          rintro u ⟨hstar, huv⟩ ihu
          refine sat_branch tabOk Try.func12 rfl trivial (fun hb => ?_) (fun hb => ?_)
          · have hpos : 0 < u.queue.length := by simpa using hb
            refine sat_branch tabOk Try.func12 rfl trivial (fun hb2 => ?_) (fun hb2 => ?_)
            · have hclash : u.clash = false := by simpa using hb2
              obtain ⟨uf, uq, uc⟩ := u
              cases uq with
              | nil => simp at hpos
              | cons x q =>
              simp only at hclash huv hstar ihu ⊢
              refine sat_goto tabOk Try.func12 rfl ?_ ?_
              · simp only [andP, List.map_cons, List.length_cons, List.length_map]
                exact ⟨by omega, by show 0 < _; omega, ⟨by omega, by omega⟩, trivial⟩
              have hfind := esD_find x G
              refine sat_lookupV (b := .d (eIs (gget x G))) tabOk rfl rfl rfl rfl rfl rfl rfl rfl rfl (es := esD G) ?_ rfl (esD_keys G) hfind ?_ rfl ?_
              · show some (some (AObj.map (dropEs 3 (esD G)))) = _
                rw [esD_dropE]
              · cases hp : gpos x G with
                | none => rw [gpos_gget hp]; exact .nil
                | some p => exact .refl _
              refine sat_stop tabOk Try.func12 rfl trivial ?_
              have hidx : ∀ i ∈ gget x G, 0 ≤ i ∧ i < l.length := by
                intro i hi
                rw [hG, gget_gatherL, gget, List.nil_append] at hi
                obtain ⟨j, h1, h2, _⟩ := idxs_mem.1 hi
                omega
              have hv1 : WkV n ⟨uf, q, uc⟩ := ⟨huv.len, by have := huv.sz; simp only [List.length_cons] at this ⊢; omega⟩
              have hglen : (gget x G).length ≤ 1000000 := by have := gget_le x G; omega
              refine sat_while (α := Nat × Wk) (fun s => [(0, vI .i64 n), (1, .d (eIss l)), (8, .ptr 1 0), (9, .mp 2), (101, .d (eIs (gget x G))), (102, vI .i64 (gget x G).length), (103, vI .i64 s.1)]) (fun s => stO s.2 G)
                (fun t => t.1 ≤ (gget x G).length ∧ ((gget x G).drop t.1).foldl (lookAt l) t.2 = popW l G ⟨uf, x :: q, uc⟩ x q ∧ WkV n t.2 ∧ muW t.2 = muW ⟨uf, q, uc⟩) (fun s => (gget x G).length - s.1) (0, ⟨uf, q, uc⟩) ⟨Nat.zero_le _, rfl, hv1, rfl⟩ ?_ ?_
              · refine fun h => sat_le h hC hCl ?_ ?_ rfl (stO_refs _ _) (Nat.zero_le _)
                · exact ⟨⟨_, rfl, .refl _⟩, ⟨_, rfl, .refl _⟩, ⟨_, rfl, .refl _⟩, ⟨_, rfl, .refl _⟩, ⟨_, rfl, .refl _⟩, ⟨_, rfl, .of (by rw [List.length_map])⟩, ⟨_, rfl, .refl _⟩, trivial⟩
                · refine ⟨.refl _, .refl _, .of ?_, .gL ?_, trivial⟩
                  · show AObj.map (dropEs 3 (esD G)) = _
                    rw [esD_dropE]
                  · simp only [List.map_cons, List.length_cons, List.length_map, Int.toNat_one, List.drop_one, List.tail_cons]
                    exact List.take_of_length_le (by simp)
              rintro ⟨j, t⟩ ⟨hj, ht, htv, htm⟩ ihj
              simp only at hj ht htv htm ⊢
              have hql : t.queue.length ≤ 1000000 := by have := htv.sz; omega
              refine sat_branch tabOk Try.func12 rfl trivial (fun hb => ?_) (fun hb => ?_) <;> simp only [decide_eq_true_eq, decide_eq_false_iff_not] at hb
              · have hlt : j < (gget x G).length := by omega
                have hget : (gget x G).getD j 0 = (gget x G)[j] := by simp [hlt]
                rw [List.drop_eq_getElem_cons hlt, List.foldl_cons] at ht
                have hid := hidx _ (List.getElem_mem hlt)
                generalize hxx : (gget x G)[j] = i at *
                have hlc : ∀ y ∈ l.getD i.toNat [], litOk n y := by
                  have hlt : i.toNat < l.length := by omega
                  have : l.getD i.toNat [] = l[i.toNat] := by simp [hlt]
                  rw [this]
                  exact hl _ (List.getElem_mem hlt)
                refine sat_callG [1, 0, 3] tabOk Try.func12 rfl ?_ (look_call t (l.getD i.toNat []) (fun y hm => ⟨by rw [htv.len]; exact va_lt (hlc y hm), by obtain ⟨x0, x1, x2⟩ := hlc y hm; omega⟩) hql) ⟨⟨_, rfl, .refl _⟩, ⟨_, rfl, .refl _⟩, ⟨_, rfl, .refl _⟩, trivial⟩ ⟨.refl _, .of (by show AV.d (eIs (l.getD ((gget x G).getD j 0).toNat [])) = AV.d (eIs (l.getD i.toNat [])); rw [hget]), trivial⟩ rfl rfl rfl ⟨_, rfl⟩ ?_
                · simp only [Int.toNat_natCast, hget, List.length_map]
                  exact ⟨⟨hid.1, hid.2⟩, ⟨by omega, by omega⟩, trivial⟩
                rintro r o ⟨rfl, rfl⟩
                refine sat_stop tabOk Try.func12 rfl trivial ?_
                have e3 : IntKind.i64.wrap ((j : Int) + 1) = ((j + 1 : Nat) : Int) := wrap_id (by omega) (by omega)
                refine sat_le (ihj (j + 1, lookW t (l.getD i.toNat [])) ⟨by omega, ht, lookW_V hlc htv, (lookW_mu hlc htv).trans htm⟩ (by omega)) hC hCl ?_ ⟨.refl _, .refl _, OLe.esD _ _, .refl _, trivial⟩ rfl (stO_refs _ _) (Nat.zero_le _)
                exact ⟨⟨_, rfl, .refl _⟩, ⟨_, rfl, .refl _⟩, ⟨_, rfl, .refl _⟩, ⟨_, rfl, .refl _⟩, ⟨_, rfl, .refl _⟩, ⟨_, rfl, .refl _⟩, ⟨_, rfl, .of (by rw [e3])⟩, trivial⟩
              · obtain rfl : j = (gget x G).length := by omega
                rw [List.drop_length, List.foldl_nil] at ht
                refine sat_stop tabOk Try.func12 rfl trivial ?_
                refine sat_le (ihu t ⟨?_, htv⟩ ?_) hC hCl ?_ ⟨.refl _, .refl _, .refl _, .refl _, trivial⟩ rfl (stO_refs _ _) (Nat.zero_le _)
                · rw [ht]
                  exact .step hstar hclash rfl
                · have htm2 : t.queue.length + t.forced.count 0 = q.length + uf.count 0 := htm
                  show t.queue.length + t.forced.count 0 < (q.length + 1) + uf.count 0
                  omega
                · exact ⟨⟨_, rfl, .refl _⟩, ⟨_, rfl, .refl _⟩, ⟨_, rfl, .refl _⟩, ⟨_, rfl, .refl _⟩, trivial⟩
            · have hstar' := hG ▸ hstar
              have hc2 : u.clash = true := by simpa using hb2
              refine sat_branch tabOk Try.func12 rfl trivial (fun hc => ?_) (fun hc => ?_)
              · refine sat_ret tabOk Try.func12 rfl trivial ⟨u, ⟨hstar', .inr hc2⟩, huv, ?_⟩
                show AV.tp [_, _] = closeEnd u
                rw [closeEnd, if_pos hc]
              · refine sat_callG [0] tabOk Try.func12 rfl trivial (hdel u.forced (by intro e; have := huv.len; rw [e] at this; simp at this; omega)) ⟨⟨_, rfl, .refl _⟩, trivial⟩ (.refl _) rfl rfl rfl ⟨_, rfl⟩ ?_
                rintro r o ⟨rfl, rfl⟩
                refine sat_freeze 0 rfl ?_
                refine sat_ret tabOk Try.func12 rfl trivial ⟨u, ⟨hstar', .inr hc2⟩, huv, ?_⟩
                rw [closeEnd, if_neg (by rw [hc]; decide)]
                rfl
          · have hstar' := hG ▸ hstar
            have hq : u.queue = [] := by
              have : ¬ 0 < u.queue.length := by simpa using hb
              exact List.length_eq_zero_iff.1 (by omega)
            refine sat_branch tabOk Try.func12 rfl trivial (fun h4 => by cases h4) (fun _ => ?_)
            refine sat_branch tabOk Try.func12 rfl trivial (fun hc => ?_) (fun hc => ?_)
            · refine sat_ret tabOk Try.func12 rfl trivial ⟨u, ⟨hstar', .inl hq⟩, huv, ?_⟩
              show AV.tp [_, _] = closeEnd u
              rw [closeEnd, if_pos hc]
            · refine sat_callG [0] tabOk Try.func12 rfl trivial (hdel u.forced (by intro e; have := huv.len; rw [e] at this; simp at this; omega)) ⟨⟨_, rfl, .refl _⟩, trivial⟩ (.refl _) rfl rfl rfl ⟨_, rfl⟩ ?_
              rintro r o ⟨rfl, rfl⟩
              refine sat_freeze 0 rfl ?_
              refine sat_ret tabOk Try.func12 rfl trivial ⟨u, ⟨hstar', .inl hq⟩, huv, ?_⟩
              rw [closeEnd, if_neg (by rw [hc]; decide)]
              rfl
end Go.Proofs.Ytdnpkeahgpbkoaa
set_option linter.unusedSimpArgs false
set_option linter.unusedVariables false
set_option linter.unusedSectionVars false
namespace Ab
open Go Go.Shelf Go.RowKit Go.Lib Go.Sort Go.Proofs

section
variable {α : Type} [Inhabited α] {enc : α → Value}

theorem relE_enc {w : World} {ok : Nat → Prop} : ∀ {l : List α} {us : List Value}, RelE w ok 1 (l.map fun x => D.v (enc x)) us → us = l.map enc
  | [], us, h => by
    simp only [List.map_nil] at h
    cases h; rfl
  | x :: r, us, h => by
    simp only [List.map_cons] at h
    cases h with
    | cons h hl t =>
      cases h with
      | cons h hf t' =>
        cases t'
        cases h
        rw [relE_enc t]
        rfl
theorem enc_relE {w : World} {ok : Nat → Prop} (hfl : ∀ x, flat (enc x) = true) : ∀ (l : List α), RelE w ok 1 (l.map fun x => D.v (enc x)) (l.map enc)
  | [] => .nil
  | x :: r => by
    have := RelE.cons (s := 1) (x := D.v (enc x)) (us := [enc x]) (.cons (.v (hfl x)) (hfl x) .nil) rfl (enc_relE (w := w) (ok := ok) hfl r)
    simpa using this

theorem holds_row {w : World} {ok : Nat → Prop} {π : List Value} {e : TypeId} {l : List α} {rd : Nat → D} {b o n c : Nat} (h : RelO w ok π (.grow e 1 (l.map fun x => D.v (enc x)) rd) (.slice (some ⟨b, o, none⟩) n (c + 1))) :
    Holds enc w b o l.toArray ∧ n = l.length ∧ b < w.heap.size ∧ l.length ≤ c + 1 ∧ c + 1 ≤ maxLen := by
  have hlen : (l.map fun x => D.v (enc x)).length = l.length := by simp
  generalize hxs : (l.map fun x => D.v (enc x)) = xs at h hlen
  cases h with
  | grow hb hz he hu hc hm ho hr =>
    rename_i us vs fz
    subst hxs
    have := relE_enc he
    subst this
    refine ⟨fun j hj => ?_, by rw [hlen], (Array.getElem?_eq_some_iff.1 hb).1, by rw [hlen] at hc; exact hc, hm⟩
    have hj' : j < l.length := by simpa using hj
    have hg := hu j (by simpa using hj')
    constructor
    · rw [cell_of_heap hb, hg]
      simp [hj']
    · have hlt : o + j < vs.length := by
        have := (List.getElem?_eq_some_iff.1 (hg.trans (by simp [hj'] : (l.map enc)[j]? = some (enc l[j])))).1
        exact this
      have := hz (o + j) hlt
      simp only [World.frozen?, hb]
      simpa using this

theorem heap_sortWorld {w : World} {b o n : Nat} {d : Array α} {os : Array Obj} {vs : List Value} {e : TypeId} {fz : Nat × Nat} (hb : w.heap[b]? = some (.cells vs.toArray e fz)) :
    (sortWorld enc w b o n d os).heap[b]? = some (.cells (putCells enc o d vs.toArray) e fz) ∧ (∀ c, c < w.heap.size → c ≠ b → (sortWorld enc w b o n d os).heap[c]? = w.heap[c]?) ∧ w.heap.size ≤ (sortWorld enc w b o n d os).heap.size := by
  have hlt : b < w.heap.size := (Array.getElem?_eq_some_iff.1 hb).1
  have hh : (sortWorld enc w b o n d os).heap = w.heap.modify b (onCells (putCells enc o d)) ++ os := rfl
  rw [hh]
  refine ⟨?_, fun c hc hne => ?_, by simp⟩
  · rw [Array.getElem?_append_left (by simpa using hlt), Array.getElem?_modify, if_pos rfl, hb]
    rfl
  · rw [Array.getElem?_append_left (by simpa using hc), Array.getElem?_modify, if_neg (fun e => hne e.symm)]

/-- A row is written, cut and perhaps other blocks are laid. -/
theorem row_tr {X : Nat → Prop} {w : World} {e : TypeId} {l L : List α} {rd rd' : Nat → D} {b o n c k q : Nat} {os : Array Obj} (hfl : ∀ x, flat (enc x) = true)
    (m : Mem X [.slice (some ⟨b, o, none⟩) n (c + 1)] [some (.grow e 1 (l.map fun x => D.v (enc x)) rd)] w) (hL : L.length = l.length) (hk : k ≤ L.length) (hrd : ∀ i, i < k → ((L.take k).map fun x => D.v (enc x))[i]? = some (rd' i)) :
    Tr X [.slice (some ⟨b, o, none⟩) n (c + 1)] [some (.grow e 1 (l.map fun x => D.v (enc x)) rd)] w (some 0) [.slice (some ⟨b, o, none⟩) k (c + 1)] [some (.grow e 1 ((L.take k).map fun x => D.v (enc x)) rd')] (sortWorld enc w b o q L.toArray os) := by
  obtain ⟨h, hp, hrel⟩ := m.obj 0 _ rfl
  cases hp
  have hlen : (l.map fun x => D.v (enc x)).length = l.length := by simp
  have hrel' := hrel
  generalize hxs : (l.map fun x => D.v (enc x)) = xs at hrel' hlen
  cases hrel' with
  | grow hb hz he hu hc hm ho hr =>
    rename_i us vs fz
    subst hxs
    have := relE_enc he
    subst this
    obtain ⟨g1, g2, g3⟩ := heap_sortWorld (enc := enc) (o := o) (n := q) (d := L.toArray) (os := os) hb
    have := tr_regrow (w' := sortWorld enc w b o q L.toArray os) (i := 0) (h' := .slice (some ⟨b, o, none⟩) k (c + 1)) (o' := .grow e 1 ((L.take k).map fun x => D.v (enc x)) rd') m rfl rfl rfl rfl rfl ⟨rfl, Nat.le_add_right _ _⟩ g3
      (fun c' hc' hne => g2 c' hc' (fun e' => hne (by subst e'; rfl))) (fun b' hb' => .inl (by cases hb'; rfl)) ?_
    · exact this
    · have hkl : ((L.take k).map fun x => D.v (enc x)).length = k := by simp; omega
      have hcells : putCells enc o L.toArray vs.toArray = ((putCells enc o L.toArray vs.toArray).toList).toArray := by simp
      have hvl : ((putCells enc o L.toArray vs.toArray).toList).length = vs.length := by simp [putCells]
      have := RelO.grow (w := sortWorld enc w b o q L.toArray os) (ok := okOf X (setNth [.slice (some ⟨b, o, none⟩) l.length (c + 1)] 0 (.slice (some ⟨b, o, none⟩) k (c + 1))) (setNth (dropO 0 [some (.grow e 1 (l.map fun x => D.v (enc x)) rd)]) 0 (some (.grow e 1 ((L.take k).map fun x => D.v (enc x)) rd'))))
        (π := setNth [.slice (some ⟨b, o, none⟩) l.length (c + 1)] 0 (.slice (some ⟨b, o, none⟩) k (c + 1))) (e := e) (s := 1) (b := b) (o := o) (c := c) (xs := (L.take k).map fun x => D.v (enc x)) (us := (L.take k).map enc) (vs := (putCells enc o L.toArray vs.toArray).toList) (rd := rd') (fz := fz)
        (by rw [← hcells]; exact g1) (by rw [hvl]; exact hz) (enc_relE hfl _) ?_ (by rw [hkl]; omega) hm (by rw [hvl]; exact ho) (by rw [hkl]; exact hrd)
      · rw [hkl] at this
        rw [hlen]
        exact this
      · intro i hi
        have hik : i < k := by simp at hi; omega
        have hiL : i < L.length := by omega
        have hlt : o + i < vs.length := by omega
        simp only [putCells, Array.toList_mapIdx, List.getElem?_mapIdx]
        rw [List.getElem?_eq_getElem (by simpa using hlt)]
        simp [hik, hiL, List.getElem?_take]
end

theorem row_set {α : Type} [Inhabited α] {enc : α → Value} {X : Nat → Prop} {w : World} {π : List Value} {objs : List (Option AObj)} {e : TypeId} {l L : List α} {rd rd' : Nat → D} {i b o n c q : Nat} {os : Array Obj} (hfl : ∀ x, flat (enc x) = true)
    (m : Mem X π objs w) (hobj : nth objs i = some (some (.grow e 1 (l.map fun x => D.v (enc x)) rd))) (hp : nth π i = some (.slice (some ⟨b, o, none⟩) n (c + 1))) (hL : L.length = l.length) (hrd : ∀ i, i < L.length → (L.map fun x => D.v (enc x))[i]? = some (rd' i)) :
    Tr X π objs w none π (setNth objs i (some (.grow e 1 (L.map fun x => D.v (enc x)) rd'))) (sortWorld enc w b o q L.toArray os) := by
  obtain ⟨h, hp', hrel⟩ := m.obj i _ hobj
  rw [hp] at hp'
  cases hp'
  have hlen : (l.map fun x => D.v (enc x)).length = l.length := by simp
  have hrel' := hrel
  generalize hxs : (l.map fun x => D.v (enc x)) = xs at hrel' hlen
  cases hrel' with
  | grow hb hz he hu hc hm ho hr =>
    rename_i us vs fz
    subst hxs
    have := relE_enc he
    subst this
    obtain ⟨g1, g2, g3⟩ := heap_sortWorld (enc := enc) (o := o) (n := q) (d := L.toArray) (os := #[]) hb
    have hk1 : ∀ c', c' ≠ b → (sortWorld enc w b o q L.toArray #[]).heap[c']? = w.heap[c']? := by
      intro c' hne
      have hh : (sortWorld enc w b o q L.toArray #[]).heap = w.heap.modify b (onCells (putCells enc o L.toArray)) := by simp [sortWorld, Sort.grow, putRow, mapBlock, Sort.ahead]
      rw [hh, Array.getElem?_modify, if_neg (fun e => hne e.symm)]
    have hsz : (sortWorld enc w b o q L.toArray #[]).heap.size = w.heap.size := by simp [sortWorld, Sort.grow, putRow, mapBlock, Sort.ahead]
    have t1 := tr_set (w' := sortWorld enc w b o q L.toArray #[]) (o' := .grow e 1 (L.map fun x => D.v (enc x)) rd') m hobj hp (b := b) rfl rfl rfl ⟨rfl, Nat.le_add_right _ _⟩ hsz hk1 ?_
    · have t2 := tr_plain (w' := sortWorld enc w b o q L.toArray os) t1.mem rfl rfl ⟨rfl, Nat.le_refl _⟩ (by simp [sortWorld, Sort.grow]) (by
        intro c' hc'
        have e1 : (sortWorld enc w b o q L.toArray os).heap = (sortWorld enc w b o q L.toArray #[]).heap ++ os := by simp [sortWorld, Sort.grow]
        rw [e1, Array.getElem?_append_left hc'])
      exact ⟨t2.mem, fun a v h => t2.keep _ _ (t1.keep _ _ h), t1.hist.trans t2.hist⟩
    · have hkl : (L.map fun x => D.v (enc x)).length = l.length := by simp [hL]
      have hcells : putCells enc o L.toArray vs.toArray = ((putCells enc o L.toArray vs.toArray).toList).toArray := by simp
      have hvl : ((putCells enc o L.toArray vs.toArray).toList).length = vs.length := by simp [putCells]
      have := RelO.grow (w := sortWorld enc w b o q L.toArray #[]) (ok := okOf X π (setNth objs i (some (.grow e 1 (L.map fun x => D.v (enc x)) rd')))) (π := π) (e := e) (s := 1) (b := b) (o := o) (c := c) (xs := L.map fun x => D.v (enc x)) (us := L.map enc) (vs := (putCells enc o L.toArray vs.toArray).toList) (rd := rd') (fz := fz)
        (by rw [← hcells]; exact g1) (by rw [hvl]; exact hz) (enc_relE hfl _) ?_ (by rw [hkl]; omega) hm (by rw [hvl]; exact ho) (by rw [List.length_map]; exact hrd)
      · rw [hkl] at this
        rw [hlen]
        exact this
      · intro i hi
        have hiL : i < L.length := by simpa using hi
        have hlt : o + i < vs.length := by omega
        simp only [putCells, Array.toList_mapIdx, List.getElem?_mapIdx]
        rw [List.getElem?_eq_getElem (by simpa using hlt)]
        simp [hiL]

/-! ### Functions that are called in whatever world -/
theorem mem0 (w : World) : Mem (fun _ => False) [] [] w := ⟨rfl, fun i o h => by simp [nth] at h, fun i j o o' h h' b _ h1 => by simp [nth] at h1, fun i o h b h1 => by simp [nth] at h1, fun b h => h.elim⟩

theorem world_grow {W w' : World} (h : Hist [] [] W [] [] w' ∨ ∃ π o, Hist [] [] W π o w') : ∃ q os', w' = Sort.grow (W.drewN q) os' := by
  have key : ∀ {π o}, Hist [] [] W π o w' → ∃ q os', w' = Sort.grow (W.drewN q) os' := by
    intro π o h
    refine ⟨w'.drawn - W.drawn, w'.heap.extract W.heap.size w'.heap.size, ?_⟩
    have e1 : w'.heap = W.heap ++ w'.heap.extract W.heap.size w'.heap.size := by
      apply Array.ext_getElem?
      intro i
      rcases Nat.lt_or_ge i W.heap.size with hi | hi
      · rw [Array.getElem?_append_left hi]
        exact h.heap i hi (fun i o k h1 => by simp [nth] at h1)
      · rw [Array.getElem?_append_right hi, Array.getElem?_extract]
        have hs := h.size
        split
        · congr 1; omega
        · rename_i hlt
          rw [Array.getElem?_eq_none]
          omega
    obtain ⟨heap, tape, drawn, os, output⟩ := w'
    have ho := h.os; have ht := h.tape; have hu := h.output.1; have hd := h.output.2
    simp only at ho ht hu hd e1
    unfold Sort.grow World.drewN
    simp only [World.mk.injEq]
    exact ⟨e1, ht, by omega, ho, hu⟩
  rcases h with h | ⟨π, o, h⟩
  · exact key h
  · exact key h

theorem cmp_lays {P : Program} {α : Type} [Inhabited α] {enc : α → Value} (hfl : ∀ x, flat (enc x) = true) {cf : α → α → Int} {g : Nat} (eg : ∀ args w, (callFunc g args).run P w = .ok (.enter g args) w)
    (hc : ∀ x y, ACall P g [.d (.v (enc x)), .d (.v (enc y))] [] (fun r o => r = vI .i64 (cf x y))) (blk off size : Nat) (w : World) : CmpLays1 P g #[] enc cf blk off size w := by
  intro m os dk hs x y
  have h := hc x y _ [] (sortWorld enc w blk off m dk os) [enc x, enc y] (mem0 _) (.cons (.d (.v (hfl x))) (.cons (.d (.v (hfl y))) .nil))
  rcases h with ⟨_, h⟩ | ⟨v, w', h, _⟩
  · refine Calls.mono h ?_
    rintro e w' ⟨v, r, o, π', rfl, rfl, _, hrel, hh⟩
    refine ⟨?_, world_grow (.inr ⟨_, _, hh⟩)⟩
    cases hrel with | d hrel => cases hrel; rfl
  · rw [eg] at h
    cases h

theorem sortFunc_acall {P : Program} {ρ : Ren} (L : SlLaysF.n6 P ρ) {α : Type} [Inhabited α] {enc : α → Value} (h1 : OneCell enc) (hfl : ∀ x, flat (enc x) = true) {cf : α → α → Int} (hO : SWO (ltOf cf)) (hT : ∀ x y, (ltOf cf) x y = false → (ltOf cf) y x = false → x = y) {g : Nat}
    (eg : ∀ args w, (callFunc g args).run P w = .ok (.enter g args) w) (es : ∀ args w, (callFunc (ρ.f 6) args).run P w = .ok (.enter (ρ.f 6) args) w) (hc : ∀ x y, ACall P g [.d (.v (enc x)), .d (.v (enc y))] [] (fun r o => r = vI .i64 (cf x y)))
    (e : TypeId) (l : List α) (rd : Nat → D) (hl : l.length < 4611686018427387904)
    (hv0 : Value) : ACall P (ρ.f 6) [.gs 0, .d (.v (.func (.func g) #[] #[]))] [some (.grow e 1 (l.map fun x => D.v (enc x)) rd), some (.hold (.gs 0) hv0)]
      (fun r o => r = .tp [] ∧ o = [some (.grow e 1 ((l.mergeSort fun x y => !(ltOf cf) y x).map fun x => D.v (enc x)) (fun i => D.v (enc ((l.mergeSort fun x y => !(ltOf cf) y x).getD i default)))), some (.hold (.gs 0) hv0)]) := by
  intro X π w vs m hv
  refine .inl ⟨es _ _, ?_⟩
  cases hv with
  | cons hv ht =>
    cases ht with
    | cons hg ht =>
      cases ht
      cases hg with | d hg => cases hg with | v _ =>
      obtain ⟨h, hp, hrel⟩ := m.obj 0 _ rfl
      cases hv with
      | gs hh =>
        rw [hp] at hh
        cases hh
        rename_i n c A
        by_cases hgn : ∃ b o c', A = some ⟨b, o, none⟩ ∧ c = c' + 1
        · obtain ⟨b, o, c', rfl, rfl⟩ := hgn
          obtain ⟨q1, q2, q3, q4, q5⟩ := holds_row hrel
          subst q2
          have hcall := Any.slices_SortFunc_total L enc h1 cf hO g #[] b o (c' + 1) l.toArray w eg (cmp_lays hfl eg hc b o l.toArray.size w) q1 q3 (by simpa using hl) hT
          simp only [List.size_toArray] at hcall
          refine Calls.mono hcall ?_
          rintro e' w' ⟨rfl, n, os, rfl⟩
          have hsl : (l.mergeSort fun x y => !(ltOf cf) y x).length = l.length := List.length_mergeSort _
          have htr := row_set (q := n) (os := os) (L := l.mergeSort fun x y => !(ltOf cf) y x) (rd' := fun i => D.v (enc ((l.mergeSort fun x y => !(ltOf cf) y x).getD i default))) hfl m (i := 0) rfl hp hsl (by
            intro i hi
            exact map_rd (fun x => D.v (enc x)) default _ i (by rw [List.length_map]; exact hi))
          exact ⟨_, .tp [], _, _, rfl, ⟨rfl, rfl⟩, htr.mem, .tp .nil, htr.hist⟩
        · have hnil : l = [] ∧ n = 0 ∧ c = 0 := by
            generalize hxs : (l.map fun x => D.v (enc x)) = xs at hrel
            cases hrel with
            | gnil => exact ⟨List.map_eq_nil_iff.1 hxs, rfl, rfl⟩
            | grow _ _ _ _ _ _ _ _ => exact absurd ⟨_, _, _, rfl, rfl⟩ hgn
          obtain ⟨rfl, rfl, rfl⟩ := hnil
          refine Calls.mono (AnyF.slices_SortFunc_none { L with } A 0 (.func (.func g) #[] #[]) w) ?_
          rintro e' w' ⟨rfl, rfl⟩
          have hme : (([] : List α).mergeSort fun x y => !(ltOf cf) y x) = [] := List.mergeSort_nil
          have hle : subO [some (.grow e 1 ((([] : List α).mergeSort fun x y => !(ltOf cf) y x).map fun x => D.v (enc x)) (fun i => D.v (enc ((([] : List α).mergeSort fun x y => !(ltOf cf) y x).getD i default)))), some (.hold (.gs 0) hv0)] [some (.grow e 1 (([] : List α).map fun x => D.v (enc x)) rd), some (.hold (.gs 0) hv0)] :=
            ⟨.grow (by rw [hme]) (by intro i hi; rw [hme] at hi; simp at hi), .refl _, trivial⟩
          obtain ⟨m1, m2, m3⟩ := mem_le m hle rfl
          have hπ : π.length = 2 := m.len
          refine ⟨_, .tp [], _, _, rfl, ⟨rfl, rfl⟩, m1, .tp .nil, m3 (.refl _ _ _) (by simp [hπ])⟩
end Ab
