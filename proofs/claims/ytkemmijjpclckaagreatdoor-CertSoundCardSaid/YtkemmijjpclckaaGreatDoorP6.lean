/- A part of the proof: Ab31, Ab32, Ab33. -/
import Derived.Test.YtkemmijjpclckaaGreatDoorP5
import Derived.MapKept
set_option linter.unusedVariables false
set_option linter.unusedSimpArgs false
set_option linter.unusedSimpArgs false
set_option linter.unusedVariables false
set_option linter.unusedSectionVars false
namespace Ab
open Go Go.MapKept
variable [Draws]

section
variable {P : Program} [Globals P] {T : Tab} {f : FuncId} {fn : Func} {n : Nat} {C : Cx} {R R1 : AV → List (Option AObj) → Prop} {todo todo' : List Item} {env env' : Env} {objs objs' : List (Option AObj)} {nd : Prop}

/-- An operation whose outcome is told by hand. -/
theorem sat_op {ops : Array Oper} {i : Nat} {r : List Nat} {k : List Item} {o : Oper} {e : Env} (out : EOut) (ho : ops[i]? = some o) (hw : wantE ops env o = .yes)
    (hdo : ∀ X π w tmps, Mem X π objs w → EnvRel w (okOf X π objs) π env tmps → ERok P X π objs w (some out) (execOp (Act.eval ⟨tmps, []⟩) o)) (hc : cond out.c) (hput : putE n o.dst (skA out.skip out.a) (dropEnvQ out.q env) = some e)
    (h : ASat P f n C (.inRegion ops r :: k) e out.objs R) : ASat P f n C (.inRegion ops (i :: r) :: k) env objs R := by
  intro π w tmps hn hm hh he
  obtain ⟨v, w', π', d1, d2, d3⟩ := hdo _ _ _ _ hm he hc
  have he' := env_tr he d2
  obtain ⟨c, sk, a, q, objs'⟩ := out
  cases sk with
  | true =>
    obtain ⟨p1, p2⟩ := put_rel he' hn hput (.und)
    exact .opUnit ho ((wanted_of he).1 hw) (by simpa using d1) (h π' w' _ p2 d2.mem (hist_tr hh d2) p1)
  | false =>
    obtain ⟨p1, p2⟩ := put_rel he' hn hput (d3 rfl)
    exact .opVal ho ((wanted_of he).1 hw) (by simpa using d1) (h π' w' _ p2 d2.mem (hist_tr hh d2) p1)
end

/-! ### Maps -/
inductive MFind (k : Value) : List (Value × AV) → Option AV → Prop
  | nil : MFind k [] none
  | hit {x : AV} {r : List (Value × AV)} : MFind k ((k, x) :: r) (some x)
  | miss {k' : Value} {y : AV} {r : List (Value × AV)} {a : Option AV} (h : k' ≠ k) (t : MFind k r a) : MFind k ((k', y) :: r) a
inductive MPut (k : Value) (x : AV) : List (Value × AV) → List (Value × AV) → Prop
  | nil : MPut k x [] [(k, x)]
  | hit {y : AV} {r : List (Value × AV)} : MPut k x ((k, y) :: r) ((k, x) :: r)
  | miss {k' : Value} {y : AV} {r r' : List (Value × AV)} (h : k' ≠ k) (t : MPut k x r r') : MPut k x ((k', y) :: r) ((k', y) :: r')

def keyB : TK → Value → Bool
  | .int k, .int k' _ => k == k'
  | .str, .string _ => true
  | .bool, .bool _ => true
  | _, _ => false
def keysB (t : TK) : List (Value × AV) → Bool
  | [] => true
  | (k, _) :: r => match keyB t k with | true => keysB t r | false => false

theorem isKey_of {P : Program} {t : TK} {d : TypeDesc} {k : Value} (hd : kdOk P t d = true) (h : keyB t k = true) : IsKey d k := by
  cases t <;> cases k <;> cases d <;> simp_all [keyB, kdOk, IsKey]

theorem mfind_rel {w : World} {ok : Nat → Prop} {π : List Value} {d : TypeDesc} {k : Value} (hk : IsKey d k) : ∀ {es : List (Value × AV)} {ms : List MapEntry} {a : Option AV} (i : Nat), RelEs w ok π es ms → (∀ e ∈ es, IsKey d e.1) → MFind k es a →
    match a with
    | none => Instr.findNow d k ms i = some none
    | some x => ∃ j v, Instr.findNow d k ms i = some (some (j, v)) ∧ RelV w ok π x v
  | _, _, _, i, .nil, _, hf => by cases hf; rfl
  | _, _, a, i, .cons (k := k1) (v := v) (n := n) h t, hks, hf => by
    obtain ⟨r, hr, hiff⟩ := sameNow_of_keys hk (hks _ List.mem_cons_self)
    cases hf with
    | hit =>
      have : r = true := hiff.2 rfl
      subst this
      exact ⟨i, v, by simp [Instr.findNow, hr], h⟩
    | miss hne ht =>
      have : r = false := by
        cases r with
        | false => rfl
        | true => exact absurd (hiff.1 rfl).symm hne
      subst this
      have ih := mfind_rel hk (i + 1) t (fun e he => hks e (List.mem_cons_of_mem _ he)) ht
      cases a with
      | none => simpa [Instr.findNow, hr] using ih
      | some x =>
        obtain ⟨j, u, h1, h2⟩ := ih
        exact ⟨j, u, by simpa [Instr.findNow, hr] using h1, h2⟩

theorem mput_rel {w : World} {ok : Nat → Prop} {π : List Value} {d : TypeDesc} {k : Value} (hk : IsKey d k) {x : AV} {v : Value} (hv : RelV w ok π x v) (n0 : Nat) : ∀ {es es' : List (Value × AV)} {ms : List MapEntry} (i : Nat), RelEs w ok π es ms → (∀ e ∈ es, IsKey d e.1) → MPut k x es es' →
    (Instr.findNow d k ms i = some none ∧ RelEs w ok π es' (ms ++ [⟨k, v, n0⟩])) ∨
    (∃ j u e, Instr.findNow d k ms i = some (some (i + j, u)) ∧ ms[j]? = some e ∧ e.key = k ∧ RelEs w ok π es' (ms.set j { e with key := k, val := v }))
  | _, _, _, i, .nil, _, hf => by cases hf; exact .inl ⟨rfl, .cons hv .nil⟩
  | _, _, _, i, .cons (k := k1) (v := u) (n := n) h t, hks, hf => by
    obtain ⟨r, hr, hiff⟩ := sameNow_of_keys hk (hks _ List.mem_cons_self)
    cases hf with
    | hit =>
      have : r = true := hiff.2 rfl
      subst this
      exact .inr ⟨0, u, ⟨k, u, n⟩, by simp [Instr.findNow, hr], rfl, rfl, .cons hv t⟩
    | miss hne ht =>
      have : r = false := by
        cases r with
        | false => rfl
        | true => exact absurd (hiff.1 rfl).symm hne
      subst this
      rcases mput_rel hk hv n0 (i + 1) t (fun e he => hks e (List.mem_cons_of_mem _ he)) ht with ⟨h1, h2⟩ | ⟨j, u', e, h1, h2, h3, h4⟩
      · exact .inl ⟨by simpa [Instr.findNow, hr] using h1, .cons h h2⟩
      · refine .inr ⟨j + 1, u', e, ?_, by simpa using h2, h3, .cons h h4⟩
        simp only [Instr.findNow, hr]
        rw [h1]
        congr 3
        omega

theorem keysB_mem {P : Program} {t : TK} {d : TypeDesc} (hd : kdOk P t d = true) : ∀ {es : List (Value × AV)}, keysB t es = true → ∀ e ∈ es, IsKey d e.1
  | [], _, e, h => by simp at h
  | (k, x) :: r, hs, e, h => by
    simp only [keysB] at hs
    split at hs
    · rename_i hk
      rcases List.mem_cons.1 h with rfl | h
      · exact isKey_of hd hk
      · exact keysB_mem hd hs e h
    · cases hs

theorem RowOk.map {P : Program} {t k e : TypeId} {r : TRow} (h : RowOk P t r) (hk : r.kd = .map k e) : P.underlying t = some (.map k e) := by
  obtain ⟨⟨i, d, hi, hd, _, _, _, hkd⟩, _⟩ := h
  rw [hk] at hkd
  cases d <;> simp_all [kdOk]
theorem RowOk.kd {P : Program} {t : TypeId} {r : TRow} (h : RowOk P t r) : ∃ d, P.underlying t = some d ∧ kdOk P r.kd d = true := by
  obtain ⟨⟨i, d, hi, hd, _, _, _, hkd⟩, _⟩ := h
  exact ⟨d, hd, hkd⟩

/-- What is looked up. -/
def lookA (zero : D) (ok : Bool) : Option AV → AV
  | some x => if ok then .tp [x, vB true] else x
  | none => if ok then .tp [.d zero, vB false] else .d zero

theorem zeroV_rel {P : Program} {t : TypeId} {r : TRow} (h : RowOk P t r) (w : World) (ok : Nat → Prop) : ∃ z, (∀ w', (zeroValue t).run P w' = .ok z w') ∧ RelD w ok (zeroD r) z := by
  obtain ⟨z, h1, h2, h3, h4, h5⟩ := h.zero
  refine ⟨z, h1, ?_⟩
  have hrel := zeroD_rel h w ok
  unfold zeroD at hrel ⊢
  cases ha : r.isAgg with
  | true =>
    rw [ha] at hrel
    rw [h4 ha]
    exact .ag hrel
  | false =>
    have e := h5 ha
    rw [ha, e] at hrel
    rw [e]
    simp only at hrel ⊢
    cases hrel with
    | cons h _ _ => exact h

theorem lookup_do {P : Program} {T : Tab} (hT : TabOk P T) {X : Nat → Prop} {π : List Value} {objs : List (Option AObj)} {w : World} (m : Mem X π objs w) {t kt et : TypeId} {r rk re : TRow} (h1 : tlook T t = some r) (h2 : r.kd = .map kt et) (h3 : tlook T kt = some rk) (h4 : tlook T et = some re)
    {i : Nat} {es : List (Value × AV)} (ho : nth objs i = some (some (.map es))) {key : Value} (hk : keyB rk.kd key = true) (hks : keysB rk.kd es = true) {a : Option AV} (hf : MFind key es a) {vm : Value} (hm : RelV w (okOf X π objs) π (.mp i) vm) (ok : Bool) :
    ∃ v, (Instr.lookup t vm key ok).run P w = .ok v w ∧ RelV w (okOf X π objs) π (lookA (zeroD re) ok a) v := by
  have ht := (tab_row hT h1).map h2
  obtain ⟨d, hd, hkd⟩ := (tab_row hT h3).kd
  have hkey := isKey_of hkd hk
  have hkeys := keysB_mem hkd hks
  obtain ⟨h, hp, hrel⟩ := m.obj i _ ho
  cases hm with
  | mp hp' =>
    rw [hp] at hp'
    cases hp'
    cases hrel with
    | map hb hes =>
      rename_i rr clock ms
      have hfind := mfind_rel hkey 0 hes hkeys hf
      obtain ⟨z, hz1, hz2⟩ := zeroV_rel (tab_row hT h4) w (okOf X π objs)
      have hck : ∀ e, (Instr.checkKey e 10000 kt key).run P w = .ok () w := fun e => run_checkKey hd hkey e 9999
      cases a with
      | none =>
        have hff := run_findKey (P := P) (w := w) hd hfind
        cases ok with
        | true => exact ⟨.tuple #[z, .bool false], by simp [Instr.lookup, run_underlying ht, run_getObj_map hb, hck, hff, hz1, Result.andThen], .tp (.cons (.d hz2) (.cons (.d (.v rfl)) .nil))⟩
        | false => exact ⟨z, by simp [Instr.lookup, run_underlying ht, run_getObj_map hb, hck, hff, hz1, Result.andThen], .d hz2⟩
      | some x =>
        obtain ⟨j, v, e1, e2⟩ := hfind
        have hff := run_findKey (P := P) (w := w) hd e1
        cases ok with
        | true => exact ⟨.tuple #[v, .bool true], by simp [Instr.lookup, run_underlying ht, run_getObj_map hb, hck, hff, Result.andThen], .tp (.cons e2 (.cons (.d (.v rfl)) .nil))⟩
        | false => exact ⟨v, by simp [Instr.lookup, run_underlying ht, run_getObj_map hb, hck, hff, Result.andThen], e2⟩

theorem update_do {P : Program} {T : Tab} (hT : TabOk P T) {X : Nat → Prop} {π : List Value} {objs : List (Option AObj)} {w : World} (m : Mem X π objs w) {t kt et : TypeId} {r rk : TRow} (h1 : tlook T t = some r) (h2 : r.kd = .map kt et) (h3 : tlook T kt = some rk)
    {i : Nat} {es es' : List (Value × AV)} (ho : nth objs i = some (some (.map es))) {key : Value} (hk : keyB rk.kd key = true) (hks : keysB rk.kd es = true) {x : AV} (hf : MPut key x es es') {vm vx : Value} (hm : RelV w (okOf X π objs) π (.mp i) vm) (hx : RelV w (okOf X π objs) π x vx) :
    ∃ w', (Instr.mapUpdate t vm key vx).run P w = .ok () w' ∧ Tr X π objs w none π (setNth objs i (some (.map es'))) w' := by
  have ht := (tab_row hT h1).map h2
  obtain ⟨d, hd, hkd⟩ := (tab_row hT h3).kd
  have hkey := isKey_of hkd hk
  have hkeys := keysB_mem hkd hks
  obtain ⟨h, hp, hrel⟩ := m.obj i _ ho
  cases hm with
  | mp hp' =>
    rw [hp] at hp'
    cases hp'
    cases hrel with
    | map hb hes =>
      rename_i rr clock ms
      have hck : ∀ e, (Instr.checkKey e 10000 kt key).run P w = .ok () w := fun e => run_checkKey hd hkey e 9999
      have htr : ∀ {ms' : List MapEntry} {clock' : Nat}, RelEs w (okOf X π objs) π es' ms' → Tr X π objs w none π (setNth objs i (some (.map es'))) { w with heap := w.heap.setIfInBounds rr (.map ms'.toArray clock') } := by
        intro ms' clock' hr
        have hs := heap_set (o' := .map ms'.toArray clock') hb
        refine tr_set (b := rr) m ho hp rfl rfl rfl ⟨rfl, dr_mono (Nat.le_refl _)⟩ (by simp) hs.2 ?_
        exact .map hs.1 (hr.mono (set_keeps (w' := { w with heap := w.heap.setIfInBounds rr (.map ms'.toArray clock') }) ho hp rfl hs.2) (fun _ _ h => h))
      rcases mput_rel hkey hx clock 0 hes hkeys hf with ⟨f1, f2⟩ | ⟨j, u, e, f1, f2, f3, f4⟩
      · have hff := run_findKey (P := P) (w := w) hd f1
        refine ⟨_, ?_, htr (clock' := clock + 1) f2⟩
        simp [Instr.mapUpdate, run_underlying ht, run_getObj_map hb, hck, hff, run_setObj_map _ hb, Result.andThen]
      · have hff := run_findKey (P := P) (w := w) hd f1
        refine ⟨_, ?_, htr (clock' := clock) f4⟩
        rw [Nat.zero_add] at hff
        have hlt : j < ms.length := (List.getElem?_eq_some_iff.1 f2).1
        have hget : ms[j] = e := (List.getElem?_eq_some_iff.1 f2).2
        have hst := run_keyThatStays (P := P) (w := w) hkey
        simp [Instr.mapUpdate, run_underlying ht, run_getObj_map hb, hck, hff, f2, f3, hst, run_setObj_map _ hb, Result.andThen]
        congr 3
        apply List.ext_getElem?
        intro q
        rw [List.getElem?_modify, List.getElem?_set]
        by_cases e : j = q
        · subst e
          simp [hlt, hget]
        · simp [e]

end Ab
set_option linter.unusedSimpArgs false
set_option linter.unusedVariables false
set_option linter.unusedSectionVars false
namespace Ab
open Go
variable [Draws]

section
variable {P : Program} [Globals P] {T : Tab} {f : FuncId} {fn : Func} {n : Nat} {C : Cx} {R R1 : AV → List (Option AObj) → Prop} {todo todo' : List Item} {env env' : Env} {objs objs' : List (Option AObj)} {nd : Prop}

theorem sat_steps (m : Nat) (hT : TabOk P T) (hf : P.funcs[f]? = some fn) (h : srun T n fn.results.toList m True todo env objs = .goto nd todo' env' objs') (hn : nd) (k : ASat P f n C todo' env' objs' R) : ASat P f n C todo env objs R :=
  (run_sound hT hf m True todo env objs (by rw [h]; exact ⟨hn, k⟩)).2

theorem sat_estep {ops : Array Oper} {i : Nat} {r : List Nat} {k : List Item} {o : Oper} {e : Env} (out : EOut) (hT : TabOk P T) (ho : ops[i]? = some o) (hw : wantE ops env o = .yes) (hs : estep T o env objs = some out)
    (hc : cond out.c) (hput : putE n o.dst (skA out.skip out.a) (dropEnvQ out.q env) = some e)
    (h : ASat P f n C (.inRegion ops r :: k) e out.objs R) : ASat P f n C (.inRegion ops (i :: r) :: k) env objs R := by
  refine sat_op out ho hw (fun X π w tmps hm he => ?_) hc hput h
  have := estep_ok (ds := []) hT hm he o
  rwa [hs] at this

theorem eAppend_gs {T : Tab} {t t2 e : TypeId} {r re r2 : TRow} {x : AV} {ys xs : List D} {rd rd2 : Nat → D} {e2 : TypeId} {j s : Nat} (h1 : tlook T t = some r) (h2 : r.kd = .slice e) (h3 : tlook T e = some re) (h4 : tlook T t2 = some r2) (h5 : r2.kd = .slice e2)
    (h6 : elemsOf objs re.size x = some (ys, rd2)) (h7 : Nat.beq re.bytes 0 = false) (h8 : objAt objs j = some (.grow e s xs rd)) (h9 : s = re.size) :
    eAppend T t t2 objs (.gs j) x = some ⟨some ((xs.length + ys.length) * re.bytes ≤ 140737488355328), false, .gs j, some j, setNth (dropO j objs) j (some (.grow e s (xs ++ ys) (catRd xs.length rd rd2)))⟩ := by
  subst h9
  have b1 : Nat.beq re.size re.size = true := Nat.beq_refl _
  have b2 : Nat.beq e e = true := Nat.beq_refl _
  simp only [eAppend, elemsX, h1, h2, h3, h4, h5, h6, h7, h8, b1, b2]

theorem look_ok {P : Program} {w : World} {X : Nat → Prop} {π : List Value} {env : Env} {tmps : Array Value} {x : Operand} {v : Value} (he : EnvRel w (okOf X π objs) π env tmps) (h : opnd env x = some (.d (.v v))) : Act.eval ⟨tmps, []⟩ x = v := by
  have := opnd_rel (ds := []) he h
  revert this
  generalize Act.eval ⟨tmps, []⟩ x = u
  intro hu
  cases hu with | d hu => cases hu; rfl

theorem sat_lookup {ops : Array Oper} {i : Nat} {r : List Nat} {k : List Item} {o : Oper} {e : Env} {t kt et : TypeId} {mo ko : Operand} {ok : Bool} {rm rk re : TRow} {j : Nat} {es : List (Value × AV)} {key : Value} {a : Option AV} (hT : TabOk P T)
    (ho : ops[i]? = some o) (hw : wantE ops env o = .yes) (hop : o.op = .lookup t mo ko ok) (hm : opnd env mo = some (.mp j)) (hk : opnd env ko = some (.d (.v key))) (h1 : tlook T t = some rm) (h2 : rm.kd = .map kt et) (h3 : tlook T kt = some rk) (h4 : tlook T et = some re)
    (hobj : nth objs j = some (some (.map es))) (hkey : keyB rk.kd key = true) (hks : keysB rk.kd es = true) (hf : MFind key es a) (hput : putE n o.dst (lookA (zeroD re) ok a) env = some e)
    (h : ASat P f n C (.inRegion ops r :: k) e objs R) : ASat P f n C (.inRegion ops (i :: r) :: k) env objs R := by
  refine sat_op ⟨none, false, lookA (zeroD re) ok a, none, objs⟩ ho hw (fun X π w tmps m he _ => ?_) trivial hput h
  obtain ⟨v, e1, e2⟩ := lookup_do hT m h1 h2 h3 h4 hobj hkey hks hf (opnd_rel (ds := []) he hm) ok
  refine ⟨v, w, π, ?_, tr_plain m rfl rfl ⟨rfl, dr_mono (Nat.le_refl _)⟩ (Nat.le_refl _) (fun _ _ => rfl), fun _ => e2⟩
  unfold execOp
  simp only [hop]
  rw [look_ok (P := P) he hk]
  simp only [Sem.run_bind, e1, Result.andThen_ok, Sem.run_pure]
  rfl

theorem sat_lookupV {ops : Array Oper} {i : Nat} {r : List Nat} {k : List Item} {o : Oper} {e : Env} {t kt et : TypeId} {mo ko : Operand} {ok : Bool} {rm rk re : TRow} {j : Nat} {es : List (Value × AV)} {key : Value} {a : Option AV} {b : AV} (hT : TabOk P T)
    (ho : ops[i]? = some o) (hw : wantE ops env o = .yes) (hop : o.op = .lookup t mo ko ok) (hm : opnd env mo = some (.mp j)) (hk : opnd env ko = some (.d (.v key))) (h1 : tlook T t = some rm) (h2 : rm.kd = .map kt et) (h3 : tlook T kt = some rk) (h4 : tlook T et = some re)
    (hobj : nth objs j = some (some (.map es))) (hkey : keyB rk.kd key = true) (hks : keysB rk.kd es = true) (hf : MFind key es a) (hv : VLe (lookA (zeroD re) ok a) b) (hput : putE n o.dst b env = some e)
    (h : ASat P f n C (.inRegion ops r :: k) e objs R) : ASat P f n C (.inRegion ops (i :: r) :: k) env objs R := by
  refine sat_op ⟨none, false, b, none, objs⟩ ho hw (fun X π w tmps m he _ => ?_) trivial hput h
  obtain ⟨v, e1, e2⟩ := lookup_do hT m h1 h2 h3 h4 hobj hkey hks hf (opnd_rel (ds := []) he hm) ok
  refine ⟨v, w, π, ?_, tr_plain m rfl rfl ⟨rfl, dr_mono (Nat.le_refl _)⟩ (Nat.le_refl _) (fun _ _ => rfl), fun _ => hv _ _ _ _ e2⟩
  unfold execOp
  simp only [hop]
  rw [look_ok (P := P) he hk]
  simp only [Sem.run_bind, e1, Result.andThen_ok, Sem.run_pure]
  rfl

theorem sat_update {ops : Array Oper} {i : Nat} {r : List Nat} {k : List Item} {o : Oper} {t kt et : TypeId} {mo ko xo : Operand} {rm rk : TRow} {j : Nat} {es es' : List (Value × AV)} {key : Value} {x : AV} (hT : TabOk P T)
    (ho : ops[i]? = some o) (hw : wantE ops env o = .yes) (hop : o.op = .mapUpdate t mo ko xo) (hd : o.dst = none) (hm : opnd env mo = some (.mp j)) (hk : opnd env ko = some (.d (.v key))) (hx : opnd env xo = some x) (h1 : tlook T t = some rm) (h2 : rm.kd = .map kt et) (h3 : tlook T kt = some rk)
    (hobj : nth objs j = some (some (.map es))) (hkey : keyB rk.kd key = true) (hks : keysB rk.kd es = true) (hf : MPut key x es es')
    (h : ASat P f n C (.inRegion ops r :: k) env (setNth objs j (some (.map es'))) R) : ASat P f n C (.inRegion ops (i :: r) :: k) env objs R := by
  refine sat_op ⟨none, true, .und, none, setNth objs j (some (.map es'))⟩ ho hw (fun X π w tmps m he _ => ?_) trivial (by rw [hd]; rfl) h
  obtain ⟨w', e1, e2⟩ := update_do hT m h1 h2 h3 hobj hkey hks hf (opnd_rel (ds := []) he hm) (opnd_rel (ds := []) he hx)
  refine ⟨undef, w', π, ?_, e2, fun h => by cases h⟩
  unfold execOp
  simp only [hop]
  rw [look_ok (P := P) he hk]
  simp only [Sem.run_bind, e1, Result.andThen_ok, Sem.run_pure]
  rfl
end

/-! ### Rows that are gathered under numbers: a map's objects behind it -/
def gadd (k i : Int) : List (Int × List Int) → List (Int × List Int)
  | [] => [(k, [i])]
  | (k', l) :: r => if k' = k then (k', l ++ [i]) :: r else (k', l) :: gadd k i r
def gget (k : Int) : List (Int × List Int) → List Int
  | [] => []
  | (k', l) :: r => if k' = k then l else gget k r
def esOf : Nat → List (Int × List Int) → List (Value × AV)
  | _, [] => []
  | b, (k, _) :: r => (.int .i64 k, .gs b) :: esOf (b + 1) r
def tailOf (t : TypeId) : List (Int × List Int) → List (Option AObj)
  | [] => []
  | (_, l) :: r => some (gL t 1 eI 0 l) :: tailOf t r
end Ab
set_option linter.unusedSimpArgs false
set_option linter.unusedVariables false
set_option linter.unusedSectionVars false
namespace Ab
open Go
variable [Draws]

def gpos (k : Int) : List (Int × List Int) → Option Nat
  | [] => none
  | (k', _) :: r => if k' = k then some 0 else (gpos k r).map (· + 1)

theorem esOf_keys : ∀ (b : Nat) (G : List (Int × List Int)), keysB (.int .i64) (esOf b G) = true
  | _, [] => rfl
  | b, (k, l) :: r => by simp [esOf, keysB, keyB, esOf_keys (b + 1) r]

theorem esOf_find (k : Int) : ∀ (b : Nat) (G : List (Int × List Int)), MFind (.int .i64 k) (esOf b G) ((gpos k G).map (fun p => .gs (p + b)))
  | _, [] => .nil
  | b, (k', l) :: r => by
    simp only [esOf, gpos]
    split
    · rename_i e
      subst e
      simpa using .hit
    · rename_i e
      refine .miss (fun h => e (by cases h; rfl)) ?_
      have := esOf_find k (b + 1) r
      cases h : gpos k r with
      | none => rw [h] at this; exact this
      | some p =>
        rw [h] at this
        simp only [Option.map_some] at this ⊢
        rwa [show p + (b + 1) = p + 1 + b by omega] at this

theorem gpos_none {k i : Int} : ∀ {G : List (Int × List Int)}, gpos k G = none → gadd k i G = G ++ [(k, [i])]
  | [], _ => rfl
  | (k', l) :: r, h => by
    simp only [gpos] at h
    split at h
    · cases h
    · rename_i e
      simp only [gadd, if_neg e, List.cons_append]
      rw [gpos_none (by cases hg : gpos k r with | none => rfl | some p => rw [hg] at h; cases h)]
theorem gpos_get {k : Int} : ∀ {G : List (Int × List Int)} {p : Nat}, gpos k G = some p → nth G p = some (k, gget k G)
  | [], p, h => by cases h
  | (k', l) :: r, p, h => by
    simp only [gpos] at h
    split at h
    · rename_i e
      cases h
      subst e
      simp [nth, gget]
    · rename_i e
      cases hg : gpos k r with
      | none => rw [hg] at h; cases h
      | some q =>
        rw [hg] at h
        cases h
        simp only [nth, gget, if_neg e]
        exact gpos_get hg
theorem gadd_set {k i : Int} : ∀ {G : List (Int × List Int)} {p : Nat}, gpos k G = some p → gadd k i G = setNth G p (k, gget k G ++ [i])
  | [], p, h => by cases h
  | (k', l) :: r, p, h => by
    simp only [gpos] at h
    split at h
    · rename_i e
      cases h
      subst e
      simp [gadd, gget, setNth]
    · rename_i e
      cases hg : gpos k r with
      | none => rw [hg] at h; cases h
      | some q =>
        rw [hg] at h
        cases h
        simp only [gadd, gget, if_neg e, setNth]
        rw [gadd_set hg]

theorem esOf_app (k : Int) (l : List Int) : ∀ (b : Nat) (G : List (Int × List Int)), esOf b (G ++ [(k, l)]) = esOf b G ++ [(.int .i64 k, .gs (G.length + b))]
  | b, [] => by simp [esOf]
  | b, (k', l') :: r => by simp [esOf, esOf_app k l (b + 1) r, show r.length + (b + 1) = r.length + 1 + b by omega]
theorem esOf_put_new {k : Int} : ∀ (b : Nat) (G : List (Int × List Int)) (x : AV), gpos k G = none → MPut (.int .i64 k) x (esOf b G) (esOf b G ++ [(.int .i64 k, x)])
  | _, [], x, _ => .nil
  | b, (k', l) :: r, x, h => by
    simp only [gpos] at h
    split at h
    · cases h
    · rename_i e
      exact .miss (fun h => e (by cases h; rfl)) (esOf_put_new (b + 1) r x (by cases hg : gpos k r with | none => rfl | some p => rw [hg] at h; cases h))
theorem esOf_drop : ∀ (b j : Nat) (G : List (Int × List Int)), j < b → dropEs j (esOf b G) = esOf b G
  | _, _, [], _ => rfl
  | b, j, (k, l) :: r, h => by
    have : Nat.beq b j = false := by rw [← Bool.not_eq_true, Nat.beq_eq]; omega
    simp only [esOf, dropEs, AV.drop, this, esOf_drop (b + 1) j r (by omega)]
theorem esOf_put {k i : Int} : ∀ (b : Nat) {G : List (Int × List Int)} {p : Nat}, gpos k G = some p → MPut (.int .i64 k) (.gs (p + b)) (dropEs (p + b) (esOf b G)) (esOf b (gadd k i G))
  | _, [], p, h => by cases h
  | b, (k', l) :: r, p, h => by
    simp only [gpos] at h
    split at h
    · rename_i e
      cases h
      subst e
      have : Nat.beq b (0 + b) = true := by rw [Nat.zero_add]; exact Nat.beq_refl _
      simp only [esOf, dropEs, AV.drop, this, gadd, if_true]
      rw [esOf_drop (b + 1) (0 + b) r (by omega), Nat.zero_add]
      exact .hit
    · rename_i e
      cases hg : gpos k r with
      | none => rw [hg] at h; cases h
      | some q =>
        rw [hg] at h
        cases h
        have : Nat.beq b (q + 1 + b) = false := by rw [← Bool.not_eq_true, Nat.beq_eq]; omega
        simp only [esOf, dropEs, AV.drop, this, gadd, if_neg e]
        have ih := esOf_put (i := i) (b + 1) hg
        rw [show q + (b + 1) = q + 1 + b by omega] at ih
        exact .miss (fun h => e (by cases h; rfl)) ih

theorem tailOf_nth (t : TypeId) : ∀ (G : List (Int × List Int)) (p : Nat), nth (tailOf t G) p = (nth G p).map (fun g => some (gL t 1 eI 0 g.2))
  | [], p => by simp [tailOf, nth]
  | (k, l) :: r, 0 => rfl
  | (k, l) :: r, p + 1 => by simp only [tailOf, nth]; exact tailOf_nth t r p
theorem tailOf_drop (t : TypeId) (j : Nat) : ∀ G : List (Int × List Int), dropO j (tailOf t G) = tailOf t G
  | [] => rfl
  | (k, l) :: r => by simp [tailOf, dropO, AObj.drop, gL, tailOf_drop t j r]
theorem tailOf_len (t : TypeId) : ∀ G : List (Int × List Int), (tailOf t G).length = G.length
  | [] => rfl
  | (k, l) :: r => by simp [tailOf, tailOf_len t r]
theorem tailOf_app (t : TypeId) : ∀ G H : List (Int × List Int), tailOf t (G ++ H) = tailOf t G ++ tailOf t H
  | [], H => rfl
  | (k, l) :: r, H => by simp [tailOf, tailOf_app t r H]
theorem tailOf_set (t : TypeId) (k : Int) (l : List Int) : ∀ (G : List (Int × List Int)) (p : Nat), setNth (tailOf t G) p (some (gL t 1 eI 0 l)) = tailOf t (setNth G p (k, l))
  | [], p => by simp [tailOf, setNth]
  | (k', l') :: r, 0 => rfl
  | (k', l') :: r, p + 1 => by simp only [tailOf, setNth, tailOf_set t k l r p]

theorem subO_refl : ∀ (l : List (Option AObj)), subO l l
  | [] => trivial
  | none :: r => subO_refl r
  | some o :: r => ⟨.refl o, subO_refl r⟩
theorem subO_set {o o' : AObj} (h : OLe o' o) : ∀ (l : List (Option AObj)) (p : Nat), subO (setNth l p (some o)) (setNth l p (some o'))
  | [], p => trivial
  | none :: r, 0 => ⟨h, subO_refl r⟩
  | some _ :: r, 0 => ⟨h, subO_refl r⟩
  | none :: r, p + 1 => subO_set h r p
  | some x :: r, p + 1 => ⟨.refl x, subO_set h r p⟩


theorem esOf_refs : ∀ (b m : Nat) (G : List (Int × List Int)), b + G.length ≤ m → refsM m (esOf b G) = true
  | _, _, [], _ => rfl
  | b, m, (k, l) :: r, h => by
    have : Nat.blt b m = true := by rw [Nat.blt_eq]; simp at h; omega
    simp only [esOf, refsM, refsB, this]
    exact esOf_refs (b + 1) m r (by simp at h; omega)
theorem tailOf_refs (t : TypeId) (m : Nat) : ∀ G : List (Int × List Int), refsO m (tailOf t G) = true
  | [] => rfl
  | (k, l) :: r => by simp only [tailOf, refsO, gL, refsO1]; exact tailOf_refs t m r

/-! ### In the end: data -/
def esD : List (Int × List Int) → List (Value × AV)
  | [] => []
  | (k, l) :: r => (.int .i64 k, .d (eIs l)) :: esD r
theorem esD_keys : ∀ (G : List (Int × List Int)), keysB (.int .i64) (esD G) = true
  | [] => rfl
  | (k, l) :: r => by simp [esD, keysB, keyB, esD_keys r]
theorem esD_find (k : Int) : ∀ (G : List (Int × List Int)), MFind (.int .i64 k) (esD G) ((gpos k G).map (fun _ => .d (eIs (gget k G))))
  | [] => .nil
  | (k', l) :: r => by
    simp only [esD, gpos, gget]
    split
    · rename_i e
      subst e
      simpa using .hit
    · rename_i e
      refine .miss (fun h => e (by cases h; rfl)) ?_
      have := esD_find k r
      cases h : gpos k r with
      | none => rw [h] at this; exact this
      | some p => rw [h] at this; exact this
theorem esD_refs (m : Nat) : ∀ G : List (Int × List Int), refsM m (esD G) = true
  | [] => rfl
  | (k, l) :: r => by simp only [esD, refsM, refsB]; exact esD_refs m r
theorem gpos_gget {k : Int} : ∀ {G : List (Int × List Int)}, gpos k G = none → gget k G = []
  | [], _ => rfl
  | (k', l) :: r, h => by
    simp only [gpos] at h
    split at h
    · cases h
    · rename_i e
      simp only [gget, if_neg e]
      exact gpos_gget (by cases hg : gpos k r with | none => rfl | some p => rw [hg] at h; cases h)

def nones : Nat → List (Option AObj)
  | 0 => []
  | n + 1 => none :: nones n
theorem esD_frz (i : Nat) (x : D) : ∀ G : List (Int × List Int), frzEs i x (esD G) = esD G
  | [] => rfl
  | (k, l) :: r => by simp [esD, frzEs, AV.frz, esD_frz i x r]
theorem esOf_frz (x : D) : ∀ (b i : Nat) (G : List (Int × List Int)), i < b → frzEs i x (esOf b G) = esOf b G
  | _, _, [], _ => rfl
  | b, i, (k, l) :: r, h => by
    have : Nat.beq b i = false := by rw [← Bool.not_eq_true, Nat.beq_eq]; omega
    simp [esOf, frzEs, AV.frz, this, esOf_frz x (b + 1) i r (by omega)]
theorem frzEs_app (i : Nat) (x : D) : ∀ a b : List (Value × AV), frzEs i x (a ++ b) = frzEs i x a ++ frzEs i x b
  | [], b => rfl
  | (k, y) :: r, b => by simp [frzEs, frzEs_app i x r b]
theorem frzO_app (i : Nat) (x : D) : ∀ (k : Nat) (a b : List (Option AObj)), frzO i x k (a ++ b) = frzO i x k a ++ frzO i x (k + a.length) b
  | k, [], b => rfl
  | k, y :: r, b => by simp [frzO, frzO_app i x (k + 1) r b, show k + 1 + r.length = k + (r.length + 1) by omega]
theorem frzO_nones (i : Nat) (x : D) : ∀ (k m : Nat), frzO i x k (nones m) = nones m
  | k, 0 => rfl
  | k, m + 1 => by
    simp only [nones, frzO, frzO_nones i x (k + 1) m]
    split <;> rfl
theorem frzO_tail (t : TypeId) (i : Nat) (x : D) : ∀ (k : Nat) (G : List (Int × List Int)), i < k → frzO i x k (tailOf t G) = tailOf t G
  | k, [], _ => rfl
  | k, (q, l) :: r, h => by
    have : Nat.beq k i = false := by rw [← Bool.not_eq_true, Nat.beq_eq]; omega
    simp only [tailOf, frzO, this, gL, AObj.frz, frzO_tail t i x (k + 1) r (by omega)]
theorem nones_len : ∀ m, (nones m).length = m
  | 0 => rfl
  | m + 1 => by simp [nones, nones_len m]
theorem nones_snoc : ∀ m, nones m ++ [none] = nones (m + 1)
  | 0 => rfl
  | m + 1 => by simp [nones, nones_snoc m]
theorem esD_app (k : Int) (l : List Int) : ∀ G : List (Int × List Int), esD (G ++ [(k, l)]) = esD G ++ [(.int .i64 k, .d (eIs l))]
  | [] => rfl
  | (k', l') :: r => by simp [esD, esD_app k l r]

section
variable {P : Program} [Globals P] {f : FuncId} {n : Nat} {C : Cx} {R : AV → List (Option AObj) → Prop} {todo : List Item} {env : Env}

/-- All rows are only read from here on. -/
theorem sat_gathered {t : TypeId} {o0 o1 : AObj} (hE : ∀ i x, frzE (i + 3) x env = env) (h0 : ∀ i x, o0.frz (i + 3) x = o0) (h1 : ∀ i x, o1.frz (i + 3) x = o1) {G : List (Int × List Int)}
    (k : ASat P f n C todo env (some o0 :: some o1 :: some (.map (esD G)) :: nones G.length) R) : ASat P f n C todo env (some o0 :: some o1 :: some (.map (esOf 3 G)) :: tailOf t G) R := by
  have key : ∀ (H D : List (Int × List Int)), (D ++ H = G) → ASat P f n C todo env (some o0 :: some o1 :: some (.map (esD D ++ esOf (D.length + 3) H)) :: (nones D.length ++ tailOf t H)) R := by
    intro H
    induction H with
    | nil =>
      intro D hD
      rw [List.append_nil] at hD
      subst hD
      simpa [esOf, tailOf] using k
    | cons g r ih =>
      intro D hD
      obtain ⟨kk, l⟩ := g
      have ih' := ih (D ++ [(kk, l)]) (by simpa using hD)
      have hnth : nth (some o0 :: some o1 :: some (.map (esD D ++ esOf (D.length + 3) ((kk, l) :: r))) :: (nones D.length ++ tailOf t ((kk, l) :: r))) (D.length + 3) = some (some (.grow t 1 (l.map eI) (fun i => eI (l.getD i 0)))) := by
        show nth (nones D.length ++ tailOf t ((kk, l) :: r)) D.length = _
        have := nth_append_at (l := nones D.length) (r := tailOf t ((kk, l) :: r)) (m := 0)
        rw [nones_len, Nat.add_zero] at this
        rw [this]
        rfl
      refine sat_freeze (D.length + 3) hnth ?_
      rw [hE]
      have e1 : ∀ x, frzO (D.length + 3) x 0 (some o0 :: some o1 :: some (.map (esD D ++ esOf (D.length + 3) ((kk, l) :: r))) :: (nones D.length ++ tailOf t ((kk, l) :: r))) =
          some (o0.frz (D.length + 3) x) :: some (o1.frz (D.length + 3) x) :: some (.map (frzEs (D.length + 3) x (esD D ++ esOf (D.length + 3) ((kk, l) :: r)))) :: frzO (D.length + 3) x 3 (nones D.length ++ tailOf t ((kk, l) :: r)) := fun x => rfl
      rw [e1, h0, h1, frzEs_app, esD_frz, frzO_app, frzO_nones, nones_len]
      have e2 : ∀ x, frzEs (D.length + 3) x (esOf (D.length + 3) ((kk, l) :: r)) = (.int .i64 kk, .d x) :: esOf (D.length + 1 + 3) r := by
        intro x
        have b : Nat.beq (D.length + 3) (D.length + 3) = true := Nat.beq_refl _
        simp only [esOf, frzEs, AV.frz, b]
        rw [esOf_frz x (D.length + 3 + 1) (D.length + 3) r (by omega), show D.length + 3 + 1 = D.length + 1 + 3 by omega]
      have e3 : ∀ x, frzO (D.length + 3) x (3 + D.length) (tailOf t ((kk, l) :: r)) = none :: tailOf t r := by
        intro x
        have b : Nat.beq (3 + D.length) (D.length + 3) = true := by rw [Nat.add_comm]; exact Nat.beq_refl _
        simp only [tailOf, frzO, b]
        rw [frzO_tail t (D.length + 3) x (3 + D.length + 1) r (by omega)]
      rw [e2, e3]
      rw [esD_app, List.length_append, List.length_singleton, ← nones_snoc] at ih'
      simpa [eIs, eL] using ih'
  have := key G [] rfl
  simpa [esD, nones] using this
end
end Ab
