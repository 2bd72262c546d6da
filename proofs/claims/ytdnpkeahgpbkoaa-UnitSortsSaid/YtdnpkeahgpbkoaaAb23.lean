/- The rest of a call on abstract values; the run of a stretch is sound. -/
import Derived.Test.YtdnpkeahgpbkoaaAb22
set_option linter.unusedSimpArgs false
set_option linter.unusedVariables false
namespace Ab
open Go

/-- Where a call began: what may not be relied upon, its objects, its world. -/
structure Cx where
  X : Nat → Prop
  π : List Value
  objs : List (Option AObj)
  w : World

def APost (C : Cx) (R : AV → List (Option AObj) → Prop) (e : Ending) (w' : World) : Prop :=
  ∃ v r objs' π', e = .returned v ∧ R r objs' ∧ Mem C.X π' objs' w' ∧ RelV w' (okOf C.X π' objs') π' r v ∧ Hist C.π C.objs C.w π' objs' w'

/-- From here on, in whatever memory is as told, the call ends as R tells. -/
def ASat (P : Program) (f : FuncId) (n : Nat) (C : Cx) (todo : List Item) (env : Env) (objs : List (Option AObj)) (R : AV → List (Option AObj) → Prop) : Prop :=
  ∀ π w tmps, tmps.size = n → Mem C.X π objs w → Hist C.π C.objs C.w π objs w → EnvRel w (okOf C.X π objs) π env tmps → Sat P f todo tmps w (APost C R)

/-- A call of a function: it is entered and ends, or the model answers it at once. -/
def Invokes (P : Program) (f : FuncId) (args : Array Value) (w : World) (R : Ending → World → Prop) : Prop :=
  ((callFunc f args).run P w = .ok (.enter f args) w ∧ Calls P f args w R) ∨ ∃ v w', (callFunc f args).run P w = .ok (.value v) w' ∧ R (.returned v) w'

theorem Invokes.mono {P : Program} {f : FuncId} {args : Array Value} {w : World} {R R' : Ending → World → Prop} (h : Invokes P f args w R) (hr : ∀ e w', R e w' → R' e w') : Invokes P f args w R' :=
  h.imp (fun ⟨a, b⟩ => ⟨a, b.mono hr⟩) (fun ⟨v, w', a, b⟩ => ⟨v, w', a, hr _ _ b⟩)

/-- What a call does, on abstract values. -/
def ACall (P : Program) (f : FuncId) (as : List AV) (objs : List (Option AObj)) (R : AV → List (Option AObj) → Prop) : Prop :=
  ∀ X π w vs, Mem X π objs w → RelVs w (okOf X π objs) π as vs → Invokes P f vs.toArray w (APost ⟨X, π, objs, w⟩ R)

theorem callFunc_run {P : Program} {g : FuncId} {fn : Func} {c : Code} (h1 : P.funcs[g]? = some fn) (h2 : fn.body = some c) (h3 : (fn.name == "runtime.NumGoroutine") = false) (args : Array Value) (w : World) : (callFunc g args).run P w = .ok (.enter g args) w := by
  simp only [beq_eq_false_iff_ne] at h3
  simp [callFunc, program, Sem.run, h1, h2, h3]

theorem ACall.mono {P : Program} {f : FuncId} {as : List AV} {objs : List (Option AObj)} {R R' : AV → List (Option AObj) → Prop} (h : ACall P f as objs R) (hr : ∀ r o, R r o → R' r o) : ACall P f as objs R' :=
  fun X π w vs m hv => (h X π w vs m hv).mono fun e w' ⟨v, r, o, π', h1, h2, h3⟩ => ⟨v, r, o, π', h1, hr _ _ h2, h3⟩

def envOf : Nat → List AV → Env
  | _, [] => []
  | k, a :: r => (k, a) :: envOf (k + 1) r

theorem envOf_rel {w : World} {ok : Nat → Prop} {π : List Value} : ∀ {as : List AV} {vs : List Value} (_ : RelVs w ok π as vs) (k : Nat) (t : Nat) (a : AV), look (envOf k as) t = some a → k ≤ t ∧ ∃ v, vs[t - k]? = some v ∧ RelV w ok π a v
  | _, _, .nil, k, t, a, h => by simp [envOf, look] at h
  | _, _, .cons hx ht, k, t, a, h => by
    simp only [envOf, look] at h
    split at h
    · rename_i e
      have e' : k = t := by simpa using e
      cases h
      subst e'
      exact ⟨Nat.le_refl _, _, by simp, hx⟩
    · obtain ⟨h1, v, h2, h3⟩ := envOf_rel ht (k + 1) t a h
      exact ⟨by omega, v, by rw [show t - k = (t - (k + 1)) + 1 by omega]; simpa using h2, h3⟩

/-- Into a function. -/
theorem acall_enter {P : Program} {f : FuncId} {fn : Func} {c : Code} {as : List AV} {objs : List (Option AObj)} {R : AV → List (Option AObj) → Prop} (hf : P.funcs[f]? = some fn) (hb : fn.body = some c) (hnm : (fn.name == "runtime.NumGoroutine") = false) (hn : as.length ≤ fn.ntmps)
    (h : ∀ C : Cx, C.objs = objs → C.π.length = C.objs.length → ASat P f fn.ntmps C [.code c] (envOf 0 as) objs R) : ACall P f as objs R := by
  intro X π w vs m hv
  have hl := hv.length
  refine .inl ⟨callFunc_run hf hb hnm _ _, calls_of_sat hf hb (h ⟨X, π, objs, w⟩ rfl m.len π w _ ?_ m (Hist.refl _ _ _) ?_)⟩
  · simp [hl]; omega
  · intro t a ht
    obtain ⟨_, v, h1, h2⟩ := envOf_rel hv 0 t a ht
    have hlt := (List.getElem?_eq_some_iff.1 h1).1
    have : (vs.toArray ++ Array.replicate (fn.ntmps - vs.toArray.size) undef).getD t undef = v := by
      simp only [Nat.sub_zero] at h1
      simp only [Array.getD_eq_getD_getElem?]
      rw [Array.getElem?_append_left (by simpa using hlt)]
      simp [h1]
    rw [this]
    exact h2

section
variable {P : Program} {T : Tab} {f : FuncId} {n : Nat} {C : Cx} {R : AV → List (Option AObj) → Prop}

theorem put_rel {w : World} {ok : Nat → Prop} {π : List Value} {env e : Env} {tmps : Array Value} {dst : Option Tmp} {a : AV} {v : Value} (he : EnvRel w ok π env tmps) (hn : tmps.size = n) (hp : putE n dst a env = some e) (hv : RelV w ok π a v) :
    EnvRel w ok π e (putT dst v tmps) ∧ (putT dst v tmps).size = n := by
  cases dst with
  | none => simp only [putE, Option.some.injEq] at hp; subst hp; exact ⟨he, hn⟩
  | some d =>
    simp only [putE] at hp
    cases hb : Nat.blt d n with
    | false => rw [hb] at hp; cases hp
    | true =>
      have hd' : d < n := by simpa [Nat.blt_eq] using hb
      rw [hb] at hp
      cases hp
      refine ⟨fun t b ht => ?_, by simp [putT, hn]⟩
      simp only [putT]
      simp only [look] at ht
      split at ht
      · rename_i e
        have e' : d = t := by simpa using e
        cases ht
        subst e'
        simp only [Array.getD_eq_getD_getElem?, Array.getElem?_setIfInBounds]
        simp [hn, hd', hv]
      · rename_i e
        have e' : d ≠ t := by intro e'; subst e'; simp at e
        have := he t b ht
        simp only [Array.getD_eq_getD_getElem?, Array.getElem?_setIfInBounds] at this ⊢
        rwa [if_neg e']

theorem put_ok {env e : Env} {dst : Option Tmp} {a : AV} (hp : putE n dst a env = some e) {b : AV} : ∃ e', putE n dst b env = some e' := by
  cases dst with
  | none => exact ⟨_, rfl⟩
  | some d =>
    simp only [putE] at hp ⊢
    cases hb : Nat.blt d n with
    | false => rw [hb] at hp; cases hp
    | true => exact ⟨_, rfl⟩

theorem yielded_of {ops : Array Oper} {tmps : Array Value} {j : Nat} {oj : Oper} {t : Tmp} (hj : ops[j]? = some oj) (hd : oj.dst = some t) : yielded ops tmps j = match tmps.getD t undef with | .bool b => some b | _ => none := by
  simp only [yielded, hj, Option.bind_some, hd, Array.getD_eq_getD_getElem?]
  cases tmps[t]? with
  | none => rfl
  | some v => cases v <;> rfl

theorem wanted_of {w : World} {ok : Nat → Prop} {π : List Value} {env : Env} {tmps : Array Value} {ops : Array Oper} {o : Oper} (he : EnvRel w ok π env tmps) :
    (wantE ops env o = .yes → Region.wanted o (yielded ops tmps) = true) ∧ (wantE ops env o = .no → Region.wanted o (yielded ops tmps) = false) := by
  unfold wantE Region.wanted
  cases hg : o.guard with
  | none => simp
  | some jg =>
    obtain ⟨j, g⟩ := jg
    simp only
    cases hj : ops[j]? with
    | none => simp
    | some oj =>
      simp only
      cases hd : oj.dst with
      | none => simp
      | some t =>
        simp only
        cases ht : look env t with
        | none => simp
        | some a =>
          have hr := he t a ht
          rw [yielded_of hj hd]
          revert hr
          generalize tmps.getD t undef = v
          intro hr
          split
          · rename_i b heq
            cases heq
            cases hr
            cases b <;> cases g <;> simp
          · rename_i heq
            cases heq
            cases hr
            simp [undef]
          · simp
          · simp
end

end Ab
