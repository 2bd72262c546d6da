/- Regions that draw their order, with guards that hang on data and calls that tell numbers. -/
import Derived.Test.YtdnpkeahgpbkoaaAb35
set_option linter.unusedSimpArgs false
set_option linter.unusedVariables false
namespace Ab
open Go

inductive QRes where
  | done (nd : Prop) (env : Env)
  | ask (nd : Prop) (t : Tmp) (b : Bool) (l : List Oper) (env : Env)
  | call (nd : Prop) (g : FuncId) (as : List AV) (dst : Option Tmp) (l : List Oper) (env : Env)
  | stuck

def qpre (T : Tab) (n : Nat) (ops : Array Oper) : List Oper → Prop → Env → List (Option AObj) → QRes
  | [], nd, env, _ => .done nd env
  | o :: r, nd, env, objs => match wantE ops env o with
    | .yes => match pstep T o env objs with
      | .ok a => match putE n o.dst a env with | some e => qpre T n ops r nd e objs | none => .stuck
      | .iff c a => match putE n o.dst a env with | some e => qpre T n ops r (c ∧ nd) e objs | none => .stuck
      | .no => match callOf env o with
        | some (g, as) => .call nd g as o.dst r env
        | none => .stuck
    | .no => match putE n o.dst .und env with | some e => qpre T n ops r nd e objs | none => .stuck
    | .ask t b => .ask nd t b (o :: r) env
    | .dunno => .stuck

section
variable {P : Program} {T : Tab} {f : FuncId} {fn : Func} {n : Nat} {C : Cx} {R R1 : AV → List (Option AObj) → Prop} {todo todo' : List Item} {env env' : Env} {objs objs' : List (Option AObj)} {nd : Prop} {ops : Array Oper} {l : List Oper} {K : Env → Prop}

def QSat (P : Program) (n : Nat) (X : Nat → Prop) (objs : List (Option AObj)) (ops : Array Oper) (K : Env → Prop) (l : List Oper) (env : Env) : Prop :=
  ∀ π w tmps, tmps.size = n → Mem X π objs w → EnvRel w (okOf X π objs) π env tmps → wpQuiet P ops (Later w) (fun a => ∃ t env2, a = ⟨t, []⟩ ∧ t.size = n ∧ EnvRel w (okOf X π objs) π env2 t ∧ K env2) l ⟨tmps, []⟩

/-- A call that tells one value, whatever the order, and only adds to memory. -/
def QCall (P : Program) (X : Nat → Prop) (objs : List (Option AObj)) (g : FuncId) (as : List AV) (x : Value) : Prop :=
  ∀ π w vs, Mem X π objs w → RelVs w (okOf X π objs) π as vs → (callFunc g vs.toArray).run P w = .ok (.enter g vs.toArray) w ∧ Calls P g vs.toArray w fun e w' => e = .returned x ∧ Later w w'

def QCont (P : Program) (n : Nat) (X : Nat → Prop) (objs : List (Option AObj)) (ops : Array Oper) (K : Env → Prop) : QRes → Prop
  | .done nd env => nd ∧ K env
  | .ask nd t b l env => nd ∧ (b = true → QSat P n X objs ops K l ((t, .lit true) :: env)) ∧ (b = false → QSat P n X objs ops K l ((t, .lit false) :: env))
  | .call nd g as dst l env => nd ∧ ∃ x, flat x = true ∧ QCall P X objs g as x ∧ (∃ e, putE n dst .dead env = some e) ∧ QSat P n X objs ops K l (putD dst (.d (.v x)) env)
  | .stuck => False

theorem later_trans {w w1 w2 : World} (a : Later w w1) (b : Later w1 w2) : Later w w2 :=
  ⟨b.os.trans a.os, b.tape.trans a.tape, ⟨b.output.1.trans a.output.1, Nat.le_trans a.output.2 b.output.2⟩, Nat.le_trans a.size b.size, fun c hc => (b.ext c (Nat.lt_of_lt_of_le hc a.size)).trans (a.ext c hc)⟩

theorem env_lit {w : World} {ok : Nat → Prop} {π : List Value} {tmps : Array Value} {t : Tmp} {b c : Bool} (he : EnvRel w ok π env tmps) (hl : look env t = some (.d (.v (.bool b)))) (hb : b = c) : EnvRel w ok π ((t, .lit c) :: env) tmps := by
  subst hb
  intro k a hk
  simp only [look] at hk
  split at hk
  · rename_i e
    have e' : t = k := by simpa using e
    cases hk
    subst e'
    have hv := he t _ hl
    revert hv
    generalize tmps.getD t undef = v
    intro hv
    cases hv with | d h => cases h; exact .lit
  · exact he k a hk

theorem qpre_sound (hT : TabOk P T) {X : Nat → Prop} : ∀ (l : List Oper) (nd : Prop) (env : Env), QCont P n X objs ops K (qpre T n ops l nd env objs) → nd ∧ QSat P n X objs ops K l env
  | [], nd, env, h => ⟨h.1, fun π w tmps hn hm he => ⟨tmps, env, rfl, hn, he, h.2⟩⟩
  | o :: r, nd, env, h => by
    simp only [qpre] at h
    cases hw : wantE ops env o with
    | yes =>
      rw [hw] at h
      simp only at h
      cases hp : pstep T o env objs with
      | ok a =>
        rw [hp] at h
        simp only at h
        cases hput : putE n o.dst a env with
        | none => rw [hput] at h; exact h.elim
        | some e =>
          rw [hput] at h
          obtain ⟨r1, r2⟩ := qpre_sound hT r nd e h
          refine ⟨r1, fun π w tmps hn hm he => ?_⟩
          have hdo := pstep_ok (ds := []) hT hm he o
          rw [hp] at hdo
          obtain ⟨v, d1, d2⟩ := hdo
          obtain ⟨p1, p2⟩ := put_rel he hn hput d1
          simp only [wpQuiet, (wanted_of he).1 hw, if_true]
          refine ⟨v, fun w' hw' => ?_, by rw [put_eq]; exact r2 π w _ p2 hm p1⟩
          simp only [Oper.quietAt, d2 w' hw'.ext, Oper.quietUpon]
          exact ⟨trivial, trivial⟩
      | iff c a =>
        rw [hp] at h
        simp only at h
        cases hput : putE n o.dst a env with
        | none => rw [hput] at h; exact h.elim
        | some e =>
          rw [hput] at h
          obtain ⟨r1, r2⟩ := qpre_sound hT r (c ∧ nd) e h
          refine ⟨r1.2, fun π w tmps hn hm he => ?_⟩
          have hdo := pstep_ok (ds := []) hT hm he o
          rw [hp] at hdo
          obtain ⟨v, d1, d2⟩ := hdo r1.1
          obtain ⟨p1, p2⟩ := put_rel he hn hput d1
          simp only [wpQuiet, (wanted_of he).1 hw, if_true]
          refine ⟨v, fun w' hw' => ?_, by rw [put_eq]; exact r2 π w _ p2 hm p1⟩
          simp only [Oper.quietAt, d2 w' hw'.ext, Oper.quietUpon]
          exact ⟨trivial, trivial⟩
      | no =>
        rw [hp] at h
        simp only at h
        cases hco : callOf env o with
        | none => rw [hco] at h; exact h.elim
        | some ga =>
          obtain ⟨g, as⟩ := ga
          rw [hco] at h
          obtain ⟨h1, x, hx, hq, ⟨e, hput⟩, h2⟩ := h
          refine ⟨h1, fun π w tmps hn hm he => ?_⟩
          obtain ⟨vs, c1, c2⟩ := callOf_run he hco
          have hxr : RelV w (okOf X π objs) π (.d (.v x)) x := .d (.v hx)
          obtain ⟨p1, p2⟩ := put_rel he hn (putD_eq hput) hxr
          simp only [wpQuiet, (wanted_of he).1 hw, if_true]
          refine ⟨x, fun w' hw' => ?_, by rw [put_eq]; exact h2 π w _ p2 hm p1⟩
          have htr := hw'.tr hm
          have hargs : RelVs w' (okOf X π objs) π as vs := by
            refine c1.mono (fun b o u h1 h2 => ⟨h1, ?_⟩) (fun _ _ h => h)
            have hb := cell_lt h2
            unfold World.cell? at h2 ⊢
            rw [hw'.ext b hb]
            exact h2
          obtain ⟨q1, q2⟩ := hq π w' vs htr.mem hargs
          simp only [Oper.quietAt, c2, q1, Oper.quietUpon]
          exact ⟨trivial, q2.mono fun e w2 ⟨a1, a2⟩ => ⟨a1, later_trans hw' a2⟩⟩
    | no =>
      rw [hw] at h
      simp only at h
      cases hput : putE n o.dst .und env with
      | none => rw [hput] at h; exact h.elim
      | some e =>
        rw [hput] at h
        obtain ⟨r1, r2⟩ := qpre_sound hT r nd e h
        refine ⟨r1, fun π w tmps hn hm he => ?_⟩
        obtain ⟨p1, p2⟩ := put_rel he hn hput (.und (w := w) (ok := okOf X π objs) (π := π))
        simp only [wpQuiet, (wanted_of he).2 hw]
        rw [put_eq]
        simpa using r2 π w _ p2 hm p1
    | ask t b =>
      rw [hw] at h
      refine ⟨h.1, fun π w tmps hn hm he => ?_⟩
      have hl := wantE_look hw
      cases b with
      | true => exact h.2.1 rfl π w tmps hn hm (env_lit he hl rfl)
      | false => exact h.2.2 rfl π w tmps hn hm (env_lit he hl rfl)
    | dunno => rw [hw] at h; exact h.elim

theorem qs_done {X : Nat → Prop} (hT : TabOk P T) (h : qpre T n ops l True env objs = .done nd env') (hn : nd) (hK : K env') : QSat P n X objs ops K l env :=
  (qpre_sound hT l True env (by rw [h]; exact ⟨hn, hK⟩)).2
theorem qs_branch {X : Nat → Prop} {t : Tmp} {b : Bool} {l' : List Oper} (hT : TabOk P T) (h : qpre T n ops l True env objs = .ask nd t b l' env') (hn : nd)
    (k1 : b = true → QSat P n X objs ops K l' ((t, .lit true) :: env')) (k2 : b = false → QSat P n X objs ops K l' ((t, .lit false) :: env')) : QSat P n X objs ops K l env :=
  (qpre_sound hT l True env (by rw [h]; exact ⟨hn, k1, k2⟩)).2
theorem qs_call {X : Nat → Prop} {g : FuncId} {as : List AV} {dst : Option Tmp} {l' : List Oper} (x : Value) (hT : TabOk P T) (h : qpre T n ops l True env objs = .call nd g as dst l' env') (hn : nd) (hx : flat x = true) (hq : QCall P X objs g as x)
    (hd : ∃ e, putE n dst .dead env' = some e) (k : QSat P n X objs ops K l' (putD dst (.d (.v x)) env')) : QSat P n X objs ops K l env :=
  (qpre_sound hT l True env (by rw [h]; exact ⟨hn, x, hx, hq, hd, k⟩)).2

theorem wpQuiet_weak {Cl : World → Prop} {Q Q' : Act → Prop} (h : ∀ a, Q a → Q' a) : ∀ (l : List Oper) (a : Act), wpQuiet P ops Cl Q l a → wpQuiet P ops Cl Q' l a
  | [], a, hq => h a hq
  | o :: r, a, hq => by
    simp only [wpQuiet] at hq ⊢
    split
    · rename_i hw
      rw [if_pos hw] at hq
      exact Oper.quiet_mono (fun a' ha' => wpQuiet_weak h r a' ha') hq
    · rename_i hw
      rw [if_neg hw] at hq
      exact wpQuiet_weak h r _ hq

/-- A contract that tells one value. -/
theorem qcall_of {X : Nat → Prop} {g : FuncId} {as bs : List AV} {x : Value} {R' : AV → List (Option AObj) → Prop} (hc : ACall P g bs [] R') (he : ∀ args w, (callFunc g args).run P w = .ok (.enter g args) w) (hr : ∀ r o, R' r o → r = .d (.v x)) (hv : Lents objs as bs) (hd : refsBs 0 bs = true) : QCall P X objs g as x := by
  intro π w vs hm hvs
  refine ⟨he _ _, ?_⟩
  have hm0 : Mem X [] [] w := ⟨rfl, fun i o h => by simp [nth] at h, fun i j o o' h h' b _ h1 => by simp [nth] at h1, fun i o h b h1 => by simp [nth] at h1, hm.inX⟩
  rcases hc _ _ w vs hm0 (lents_rel hm hv hd hvs) with ⟨_, h⟩ | ⟨v, w', h, _⟩
  · refine Calls.mono h ?_
    rintro e w' ⟨v, r, o, π', rfl, hR, hm', hrel, hhist⟩
    have := hr r o hR
    subst this
    refine ⟨?_, hist_later hhist⟩
    cases hrel with | d h => cases h; rfl
  · rw [he] at h
    cases h

theorem sat_drawQ {id : Nat} {ops : Array Oper} {k : List Item} (hT : TabOk P T) (hf : P.funcs[f]? = some fn) (hmx : P.follows .mixedOrders = true) (h : srun T n fn.results.toList 2000 True todo env objs = .draw nd id ops k env' objs') (hn : nd)
    (hB : Region.lexB .any ops = true) (hq : QSat P n C.X objs' ops (fun env2 => ASat P f n C k env2 objs' R) ops.toList env') : ASat P f n C todo env objs R := by
  suffices hc : Cont P f n C R (.draw nd id ops k env' objs') from (run_sound hT hf 2000 True todo env objs (by rw [h]; exact hc)).2
  refine ⟨hn, fun π w tmps hs hm hh he => ?_⟩
  refine .ofWp (wp_region_quiet (C := Later w) hmx hB ⟨rfl, rfl, ⟨rfl, Nat.le_succ _⟩, Nat.le_refl _, fun _ _ => rfl⟩ ?_)
  refine wpQuiet_weak ?_ _ _ (hq π w tmps hs hm he)
  rintro a ⟨t, env2, rfl, ht, het, hK⟩ w' hw'
  have htr := hw'.tr hm
  exact ⟨rfl, t, rfl, hK π w' t ht htr.mem (hist_tr hh htr) (env_tr het htr)⟩
end
end Ab
