/- The run of a stretch of code is sound. -/
import Derived.Test.YtdnpkeahgpbkoaaAb23
set_option linter.unusedSimpArgs false
set_option linter.unusedVariables false
namespace Ab
open Go

section
variable {P : Program} {T : Tab} {f : FuncId} {n : Nat} {C : Cx} {R : AV → List (Option AObj) → Prop}

/-- What is left to show where a run stops. -/
def Cont (P : Program) (f : FuncId) (n : Nat) (C : Cx) (R : AV → List (Option AObj) → Prop) : Res → Prop
  | .branch nd t b todo env objs => nd ∧ (b = true → ASat P f n C todo ((t, .lit true) :: env) objs R) ∧ (b = false → ASat P f n C todo ((t, .lit false) :: env) objs R)
  | .call nd g as dst todo env objs => nd ∧ (∃ e, putE n dst .dead env = some e) ∧ ∀ π w tmps, tmps.size = n → Mem C.X π objs w → Hist C.π C.objs C.w π objs w → EnvRel w (okOf C.X π objs) π env tmps →
      ∀ vs, RelVs w (okOf C.X π objs) π as vs → Invokes P g vs.toArray w fun e w2 => ∃ v, e = .returned v ∧ Sat P f todo (putT dst v tmps) w2 (APost C R)
  | .loop nd todo env objs => nd ∧ ASat P f n C todo env objs R
  | .goto nd todo env objs => nd ∧ ASat P f n C todo env objs R
  | .draw nd id ops k env objs => nd ∧ ASat P f n C (.code (.region id ops true) :: k) env objs R
  | .ret nd r objs => nd ∧ R r objs
  | .stuck _ _ _ => False

theorem hist_tr {π π' : List Value} {objs objs' : List (Option AObj)} {w w' : World} {q : Option Nat} (h : Hist C.π C.objs C.w π objs w) (t : Tr C.X π objs w q π' objs' w') : Hist C.π C.objs C.w π' objs' w' := h.trans t.hist

theorem env_tr {X : Nat → Prop} {π π' : List Value} {objs objs' : List (Option AObj)} {w w' : World} {q : Option Nat} {env : Env} {tmps : Array Value} (he : EnvRel w (okOf X π objs) π env tmps) (t : Tr X π objs w q π' objs' w') : EnvRel w' (okOf X π' objs') π' (dropEnvQ q env) tmps := by
  intro k a hk
  rw [look_dropEnvQ] at hk
  cases h : look env k with
  | none => rw [h] at hk; cases hk
  | some b =>
    rw [h] at hk
    cases hk
    exact t.keep _ _ (he k b h)

def resSem (tmps : Array Value) : ResultVar → Sem Value
  | .tmp t => pure (tmps.getD t undef)
  | .cell a t => do loadVar t (← asAddr (tmps.getD a undef))

theorem run_results {w : World} {ok : Nat → Prop} {π : List Value} {env : Env} {tmps : Array Value} {objs : List (Option AObj)} (he : EnvRel w ok π env tmps) : ∀ {rs : List ResultVar} {l : List AV}, resOf env objs rs = some l →
    ∃ vs, (rs.mapM (resSem tmps)).run P w = .ok vs w ∧ RelVs w ok π l vs
  | [], l, h => by simp only [resOf, Option.some.injEq] at h; subst h; exact ⟨[], by simp, .nil⟩
  | .cell _ _ :: r, l, h => by simp [resOf] at h
  | .tmp t :: r, l, h => by
    simp only [resOf] at h
    split at h
    · cases h
    · rename_i a ha
      split at h
      · cases h
      · rename_i l' hl
        cases h
        obtain ⟨vs, h1, h2⟩ := run_results he hl
        have := opnd_rel (ds := []) he ha
        refine ⟨tmps.getD t undef :: vs, ?_, .cons this h2⟩
        simp only [List.mapM_cons, Sem.run_bind, resSem, Sem.run_pure, Result.andThen_ok, h1]

theorem results_run {fn : Func} {w : World} {ok : Nat → Prop} {π : List Value} {env : Env} {tmps : Array Value} {objs : List (Option AObj)} {l : List AV} (he : EnvRel w ok π env tmps) (h : resOf env objs fn.results.toList = some l) :
    ∃ v, (results fn tmps).run P w = .ok v w ∧ RelV w ok π (tupOf l) v := by
  obtain ⟨vs, h1, h2⟩ := run_results (P := P) he h
  have hl := h2.length
  have hrun : (results fn tmps).run P w = .ok (if h : vs.toArray.size = 1 then vs.toArray[0] else .tuple vs.toArray) w := by
    have e : results fn tmps = (do let vs ← fn.results.mapM (resSem tmps); pure (if h : vs.size = 1 then vs[0] else .tuple vs)) := rfl
    rw [e]
    simp only [Sem.run_bind, Array.mapM_eq_mapM_toList]
    have e2 : (List.toArray <$> fn.results.toList.mapM (resSem tmps)).run P w = .ok vs.toArray w := by
      simp [h1]
    rw [e2]
    rfl
  refine ⟨_, hrun, ?_⟩
  match l, vs, h2 with
  | [], _, .nil => exact .tp .nil
  | [a], _, .cons hv .nil => exact hv
  | a :: b :: r, _, .cons hv (.cons hv' ht) => exact .tp (.cons hv (.cons hv' ht))
end

end Ab
