/- The run of a stretch of code is sound: the theorem. -/
import Derived.Test.YtdnpkeahgpbkoaaAb24
set_option linter.unusedSimpArgs false
set_option linter.unusedVariables false
namespace Ab
open Go

section
variable {P : Program} {T : Tab} {f : FuncId} {n : Nat} {C : Cx} {R : AV → List (Option AObj) → Prop}

theorem callOf_run {w : World} {ok : Nat → Prop} {π : List Value} {env : Env} {tmps : Array Value} {o : Oper} {g : FuncId} {as : List AV} (he : EnvRel w ok π env tmps) (h : callOf env o = some (g, as)) :
    ∃ vs, RelVs w ok π as vs ∧ execOp (Act.eval ⟨tmps, []⟩) o = callFunc g vs.toArray := by
  unfold callOf at h
  split at h
  · rename_i c hop
    obtain ⟨callee, ⟨args⟩, at_⟩ := c
    split at h
    · rename_i f' hc
      have hc' : callee = .value (.func f') := hc
      subst hc'
      split at h
      rename_i args' ha
      have ha' : args = args' := by simpa using ha
      subst ha'
      split at h
      · rename_i as' has
        cases h
        refine ⟨_, opnds_rel (ds := []) he has, ?_⟩
        unfold execOp
        simp only [hop]
        simp [resolve, Deferred.ofValue, invoke, Act.eval]
      · cases h
    · rename_i t hc
      have hc' : callee = .value (.tmp t) := hc
      subst hc'
      split at h
      · rename_i f' cs ht
        split at h
        rename_i args' ha
        have ha' : args = args' := by simpa using ha
        subst ha'
        split at h
        · rename_i as' has
          cases h
          have hv := opnd_rel (ds := []) he ht
          have hcs : ∃ us, Act.eval ⟨tmps, []⟩ (.tmp t) = .func (.func g) #[] us.toArray ∧ RelVs w ok π cs us := by
            revert hv
            generalize Act.eval ⟨tmps, []⟩ (.tmp t) = v
            intro hv
            cases hv with
            | fn h => exact ⟨_, rfl, h⟩
          obtain ⟨us, e1, e2⟩ := hcs
          refine ⟨_, (opnds_rel (ds := []) he has).append e2, ?_⟩
          unfold execOp
          simp only [hop]
          simp [resolve, Deferred.ofValue, invoke, e1]
        · cases h
      · rename_i f' ht
        split at h
        rename_i args' ha
        have ha' : args = args' := by simpa using ha
        subst ha'
        split at h
        · rename_i as' has
          cases h
          have hv := opnd_rel (ds := []) he ht
          have e1 : Act.eval ⟨tmps, []⟩ (.tmp t) = .func (.func g) #[] #[] := by
            revert hv
            generalize Act.eval ⟨tmps, []⟩ (.tmp t) = v
            intro hv
            cases hv with
            | d h => cases h; rfl
          refine ⟨_, opnds_rel (ds := []) he has, ?_⟩
          unfold execOp
          simp only [hop]
          simp [resolve, Deferred.ofValue, invoke, e1]
        · cases h
      · cases h
    · cases h
  · cases h

theorem branch_sat {todo : List Item} {env : Env} {objs : List (Option AObj)} {t : Tmp} {b : Bool} (hl : look env t = some (.d (.v (.bool b)))) (h1 : b = true → ASat P f n C todo ((t, .lit true) :: env) objs R) (h2 : b = false → ASat P f n C todo ((t, .lit false) :: env) objs R) :
    ASat P f n C todo env objs R := by
  intro π w tmps hn hm hh he
  have hv := he t _ hl
  have key : ∀ c : Bool, b = c → EnvRel w (okOf C.X π objs) π ((t, .lit c) :: env) tmps := by
    rintro c rfl k a hk
    simp only [look] at hk
    split at hk
    · rename_i e
      have e' : t = k := by simpa using e
      cases hk
      subst e'
      revert hv
      generalize tmps.getD t undef = v
      intro hv
      cases hv with
      | d h => cases h; exact .lit
    · exact he k a hk
  cases b with
  | true => exact h1 rfl π w tmps hn hm hh (key true rfl)
  | false => exact h2 rfl π w tmps hn hm hh (key false rfl)

theorem evalC_look {env : Env} {c : Operand} {t : Tmp} {b : Bool} (h : evalC env c = .ask t b) : look env t = some (.d (.v (.bool b))) := by
  unfold evalC at h
  split at h
  · split at h
    · split at h <;> cases h
    · cases h; assumption
    · cases h
  · cases h
  · cases h
  · cases h
theorem wantE_look {ops : Array Oper} {env : Env} {o : Oper} {t : Tmp} {b : Bool} (h : wantE ops env o = .ask t b) : look env t = some (.d (.v (.bool b))) := by
  unfold wantE at h
  repeat' split at h
  all_goals first
    | (cases h; done)
    | (cases h; assumption)

theorem evalC_val {w : World} {ok : Nat → Prop} {π : List Value} {env : Env} {tmps : Array Value} (he : EnvRel w ok π env tmps) {c : Operand} : (evalC env c = .yes → Act.eval ⟨tmps, []⟩ c = .bool true) ∧ (evalC env c = .no → Act.eval ⟨tmps, []⟩ c = .bool false) := by
  unfold evalC
  split
  · rename_i t
    split
    · rename_i b hb
      have hv := he t _ hb
      revert hv
      simp only [Act.eval]
      generalize tmps.getD t undef = v
      intro hv
      cases hv
      split <;> simp
    · simp
    · simp
  · simp [Act.eval]
  · simp [Act.eval]
  · simp

theorem run_sound (hT : TabOk P T) {fn : Func} (hf : P.funcs[f]? = some fn) : ∀ (fuel : Nat) (nd : Prop) (todo : List Item) (env : Env) (objs : List (Option AObj)),
    Cont P f n C R (srun T n fn.results.toList fuel nd todo env objs) → nd ∧ ASat P f n C todo env objs R := by
  intro fuel
  induction fuel with
  | zero => intro nd todo env objs h; exact h
  | succ fuel ih =>
    intro nd todo env objs h
    unfold srun at h
    cases todo with
    | nil =>
      simp only at h
      split at h
      · rename_i l hl
        refine ⟨h.1, fun π w tmps hn hm hh he => ?_⟩
        obtain ⟨v, h1, h2⟩ := results_run (P := P) he hl
        exact .end_ hf h1 ⟨v, _, objs, π, rfl, h.2, hm, h2, hh⟩
      · exact h.elim
    | cons it k =>
      cases it with
      | code c =>
        cases c with
        | skip => obtain ⟨h1, h2⟩ := ih _ _ _ _ h; exact ⟨h1, fun π w tmps hn hm hh he => .skip (h2 π w tmps hn hm hh he)⟩
        | label l => obtain ⟨h1, h2⟩ := ih _ _ _ _ h; exact ⟨h1, fun π w tmps hn hm hh he => .label (h2 π w tmps hn hm hh he)⟩
        | seq a b => obtain ⟨h1, h2⟩ := ih _ _ _ _ h; exact ⟨h1, fun π w tmps hn hm hh he => .seq (h2 π w tmps hn hm hh he)⟩
        | block id b => obtain ⟨h1, h2⟩ := ih _ _ _ _ h; exact ⟨h1, fun π w tmps hn hm hh he => .block (h2 π w tmps hn hm hh he)⟩
        | scope b => obtain ⟨h1, h2⟩ := ih _ _ _ _ h; exact ⟨h1, fun π w tmps hn hm hh he => .scope (h2 π w tmps hn hm hh he)⟩
        | loop b => exact h
        | ret =>
          simp only at h
          split at h
          · rename_i l hl
            refine ⟨h.1, fun π w tmps hn hm hh he => ?_⟩
            obtain ⟨v, h1, h2⟩ := results_run (P := P) he hl
            exact .ret hf h1 ⟨v, _, objs, π, rfl, h.2, hm, h2, hh⟩
          · exact h.elim
        | exit id =>
          simp only at h
          split at h
          · rename_i k' hk
            obtain ⟨h1, h2⟩ := ih _ _ _ _ h
            exact ⟨h1, fun π w tmps hn hm hh he => .exit hk (h2 π w tmps hn hm hh he)⟩
          · exact h.elim
        | goto l =>
          simp only at h
          split at h
          · rename_i k' hk
            obtain ⟨h1, h2⟩ := ih _ _ _ _ h
            exact ⟨h1, fun π w tmps hn hm hh he => .goto hk (h2 π w tmps hn hm hh he)⟩
          · exact h.elim
        | cond c x y =>
          simp only at h
          split at h
          · rename_i hc
            obtain ⟨h1, h2⟩ := ih _ _ _ _ h
            exact ⟨h1, fun π w tmps hn hm hh he => .cond ((evalC_val he).1 hc) (h2 π w tmps hn hm hh he)⟩
          · rename_i hc
            obtain ⟨h1, h2⟩ := ih _ _ _ _ h
            exact ⟨h1, fun π w tmps hn hm hh he => .cond ((evalC_val he).2 hc) (h2 π w tmps hn hm hh he)⟩
          · rename_i t b hc
            exact ⟨h.1, branch_sat (evalC_look hc) h.2.1 h.2.2⟩
          · exact h.elim
        | region id ops d =>
          cases d with
          | false => obtain ⟨h1, h2⟩ := ih _ _ _ _ h; exact ⟨h1, fun π w tmps hn hm hh he => .region (h2 π w tmps hn hm hh he)⟩
          | true => exact h
        | rangeFunc _ _ _ _ => exact h.elim
        | refuse _ => exact h.elim
      | inBlock id => obtain ⟨h1, h2⟩ := ih _ _ _ _ h; exact ⟨h1, fun π w tmps hn hm hh he => .inBlock (h2 π w tmps hn hm hh he)⟩
      | inScope c => obtain ⟨h1, h2⟩ := ih _ _ _ _ h; exact ⟨h1, fun π w tmps hn hm hh he => .inScope (h2 π w tmps hn hm hh he)⟩
      | inLoop b => exact h
      | inRegion ops idx =>
        cases idx with
        | nil => obtain ⟨h1, h2⟩ := ih _ _ _ _ h; exact ⟨h1, fun π w tmps hn hm hh he => .regionEnd (h2 π w tmps hn hm hh he)⟩
        | cons i r =>
          simp only at h
          cases ho : ops[i]? with
          | none => rw [ho] at h; exact h.elim
          | some o =>
            rw [ho] at h
            simp only at h
            cases hw : wantE ops env o with
            | yes =>
              rw [hw] at h
              simp only at h
              cases hp : pstep T o env objs with
              | ok a =>
                rw [hp] at h
                simp only at h
                cases hput : putE n o.dst a env with
                | none => rw [hput] at h; exact h.elim
                | some e =>
                  rw [hput] at h
                  obtain ⟨h1, h2⟩ := ih _ _ _ _ h
                  refine ⟨h1, fun π w tmps hn hm hh he => ?_⟩
                  have hdo := pstep_ok (ds := []) hT hm he o
                  rw [hp] at hdo
                  obtain ⟨v, d1, d2⟩ := hdo
                  obtain ⟨p1, p2⟩ := put_rel he hn hput d1
                  exact .opVal ho ((wanted_of he).1 hw) (d2 w (Ext.refl w)) (h2 π w _ p2 hm hh p1)
              | iff c a =>
                rw [hp] at h
                simp only at h
                cases hput : putE n o.dst a env with
                | none => rw [hput] at h; exact h.elim
                | some e =>
                  rw [hput] at h
                  obtain ⟨h1, h2⟩ := ih _ _ _ _ h
                  refine ⟨h1.2, fun π w tmps hn hm hh he => ?_⟩
                  have hdo := pstep_ok (ds := []) hT hm he o
                  rw [hp] at hdo
                  obtain ⟨v, d1, d2⟩ := hdo h1.1
                  obtain ⟨p1, p2⟩ := put_rel he hn hput d1
                  exact .opVal ho ((wanted_of he).1 hw) (d2 w (Ext.refl w)) (h2 π w _ p2 hm hh p1)
              | no =>
                rw [hp] at h
                simp only at h
                cases hes : estep T o env objs with
                | some r' =>
                  obtain ⟨c, sk, a, q, objs'⟩ := r'
                  rw [hes] at h
                  simp only at h
                  cases hput : putE n o.dst (skA sk a) (dropEnvQ q env) with
                  | none => rw [hput] at h; exact h.elim
                  | some e =>
                    rw [hput] at h
                    obtain ⟨h1, h2⟩ := ih _ _ _ _ h
                    have hc : cond c ∧ nd := by
                      cases c with
                      | none => exact ⟨trivial, h1⟩
                      | some p => exact h1
                    refine ⟨hc.2, fun π w tmps hn hm hh he => ?_⟩
                    have hdo := estep_ok (ds := []) hT hm he o
                    rw [hes] at hdo
                    obtain ⟨v, w', π', d1, d2, d3⟩ := hdo hc.1
                    have he' := env_tr he d2
                    cases sk with
                    | true =>
                      obtain ⟨p1, p2⟩ := put_rel he' hn hput (.und)
                      exact .opUnit ho ((wanted_of he).1 hw) (by simpa using d1) (h2 π' w' _ p2 d2.mem (hist_tr hh d2) p1)
                    | false =>
                      obtain ⟨p1, p2⟩ := put_rel he' hn hput (d3 rfl)
                      exact .opVal ho ((wanted_of he).1 hw) (by simpa using d1) (h2 π' w' _ p2 d2.mem (hist_tr hh d2) p1)
                | none =>
                  rw [hes] at h
                  simp only at h
                  cases hco : callOf env o with
                  | none => rw [hco] at h; exact h
                  | some ga =>
                    obtain ⟨g, as⟩ := ga
                    rw [hco] at h
                    simp only at h
                    cases hput : putE n o.dst .dead env with
                    | none => rw [hput] at h; exact h.elim
                    | some e =>
                      rw [hput] at h
                      obtain ⟨h1, _, h2⟩ := h
                      refine ⟨h1, fun π w tmps hn hm hh he => ?_⟩
                      obtain ⟨vs, c1, c2⟩ := callOf_run he hco
                      rcases h2 π w tmps hn hm hh he vs c1 with ⟨i1, i2⟩ | ⟨v, w', i1, i2⟩
                      · exact .opCall ho ((wanted_of he).1 hw) (by rw [c2]; exact i1) i2
                      · obtain ⟨v', i3, i4⟩ := i2
                        cases i3
                        exact .opVal ho ((wanted_of he).1 hw) (by rw [c2]; exact i1) i4
            | no =>
              rw [hw] at h
              simp only at h
              cases hput : putE n o.dst .und env with
              | none => rw [hput] at h; exact h.elim
              | some e =>
                rw [hput] at h
                obtain ⟨h1, h2⟩ := ih _ _ _ _ h
                refine ⟨h1, fun π w tmps hn hm hh he => ?_⟩
                obtain ⟨p1, p2⟩ := put_rel he hn hput .und
                exact .opSkip ho ((wanted_of he).2 hw) (h2 π w _ p2 hm hh p1)
            | ask t b =>
              rw [hw] at h
              exact ⟨h.1, branch_sat (wantE_look hw) h.2.1 h.2.2⟩
            | dunno => rw [hw] at h; exact h.elim
      | inRangeFunc _ => exact h.elim
      | endRangeFunc _ => exact h.elim
      | beginRound => exact h.elim
      | call _ _ _ _ => exact h.elim
      | extern _ _ => exact h.elim
end

end Ab
