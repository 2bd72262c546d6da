/- A part of the proof: Ab57, Ab58, Ab59, Ab60, Ab61, Ab62, Ab64, Ab65, Ab66, Ab67, Ab68, Ab69, K40, K2, K3, K5. -/
import Derived.Test.YtffomfbbplpljaaDoorP11
import Derived.Recover
set_option linter.unusedVariables false
set_option linter.unusedSimpArgs false
set_option linter.unusedVariables false
set_option linter.unusedSectionVars false
namespace Ab
open Go
variable [Draws]

section
variable {P : Program} [Globals P] {T : Tab} {f : FuncId} {fn : Func} {n : Nat} {C : Cx} {R : AV → List (Option AObj) → Prop} {todo k : List Item} {env : Env} {objs objs' : List (Option AObj)} {nd : Prop}

end
end Ab
set_option linter.unusedSimpArgs false
set_option linter.unusedVariables false
set_option linter.unusedSectionVars false
namespace Ab
open Go
variable [Draws]
section
variable {P : Program} [Globals P] {T : Tab} {f : FuncId} {fn : Func} {n : Nat} {C : Cx} {objs : List (Option AObj)} {R : AV → List (Option AObj) → Prop} {ops : Array Oper} {m : Nat} {envF : Env} {X : Nat → Prop}
end
end Ab
set_option linter.unusedSimpArgs false
set_option linter.unusedVariables false
set_option linter.unusedSectionVars false
namespace Ab
open Go
variable [Draws]
section
variable {P : Program} [Globals P] {T : Tab} {n : Nat} {env : Env} {objs : List (Option AObj)} {ops : Array Oper} {K : Env → Prop} {X : Nat → Prop}
end
end Ab
set_option linter.unusedSimpArgs false
set_option linter.unusedVariables false
set_option linter.unusedSectionVars false
namespace Ab
open Go
variable [Draws]

section
variable {P : Program} [Globals P] {T : Tab} {f : FuncId} {fn : Func} {n m : Nat} {C : Cx} {R : AV → List (Option AObj) → Prop} {todo todo' k : List Item} {env env0 env' envF : Env} {objs objs' : List (Option AObj)} {nd : Prop} {ops : Array Oper} {l : List Oper} {K : Env → Prop} {X : Nat → Prop}

/-- A temporary that is told already, or that the head does not tell. -/
def LiveT (ops : Array Oper) (m : Nat) (L : List Nat) (t : Tmp) : Prop := (∃ q ∈ L, ∃ o, ops[q]? = some o ∧ o.dst = some t) ∨ ∀ j, j < m → dstIs ops j t = false
structure StepX (X : Nat → Prop) (O : List Nat → List (Option AObj)) (m : Nat) (ops : Array Oper) (envF : Env) (L : List Nat) (j : Nat) (π : List Value) (w : World) (π' : List Value) (w2 : World) : Prop where
  mem : Mem X π' (O (j :: L)) w2
  hist : Hist π (O L) w π' (O (j :: L)) w2
  keep : ∀ t a v, look envF t = some a → LiveT ops m L t → RelV w (okOf X π (O L)) π a v → RelV w2 (okOf X π' (O (j :: L))) π' a v
end
end Ab
set_option linter.unusedSimpArgs false
set_option linter.unusedVariables false
set_option linter.unusedSectionVars false
namespace Ab
open Go
variable [Draws]

section
variable {P : Program} [Globals P] {T : Tab} {f : FuncId} {fn : Func} {n m : Nat} {C : Cx} {R : AV → List (Option AObj) → Prop} {todo todo' k : List Item} {env env0 env' envF : Env} {objs objs' objs1 objs2 : List (Option AObj)} {nd : Prop} {ops : Array Oper} {l : List Oper} {K : Env → Prop} {X : Nat → Prop} {O : List Nat → List (Option AObj)}

end
end Ab
set_option linter.unusedSimpArgs false
set_option linter.unusedVariables false
set_option linter.unusedSectionVars false
namespace Ab
open Go
variable [Draws]
section
variable {P : Program} [Globals P] {T : Tab} {n : Nat} {env : Env} {objs : List (Option AObj)} {ops : Array Oper} {K : Env → Prop} {X : Nat → Prop}
end
end Ab
set_option linter.unusedSimpArgs false
set_option linter.unusedVariables false
set_option linter.unusedSectionVars false
namespace Ab
open Go
variable [Draws]
section
variable {P : Program} [Globals P] {T : Tab} {f : FuncId} {fn : Func} {n m : Nat} {C : Cx} {R : AV → List (Option AObj) → Prop} {env env' envF : Env} {objs objs' : List (Option AObj)} {ops : Array Oper} {todo k : List Item} {nd : Prop}

end

end Ab
set_option linter.unusedSimpArgs false
set_option linter.unusedVariables false
set_option linter.unusedSectionVars false
namespace Ab
open Go
variable [Draws]
section
variable {P : Program} [Globals P] {T : Tab} {f : FuncId} {n : Nat} {C : Cx} {R : AV → List (Option AObj) → Prop} {env : Env} {objs : List (Option AObj)}
end
end Ab
set_option linter.unusedSimpArgs false
set_option linter.unusedVariables false
set_option linter.unusedSectionVars false
namespace Ab
open Go
variable [Draws]
section
variable {P : Program} [Globals P] {T : Tab} {n : Nat} {env : Env} {objs : List (Option AObj)} {ops : Array Oper} {K : Env → Prop} {X : Nat → Prop}
end
end Ab
set_option linter.unusedSimpArgs false
set_option linter.unusedVariables false
set_option linter.unusedSectionVars false
namespace Ab
open Go
variable [Draws]
section
variable {P : Program} [Globals P] {T : Tab} {f : FuncId} {fn : Func} {n m : Nat} {C : Cx} {R : AV → List (Option AObj) → Prop} {todo todo' k : List Item} {env env0 env' envF : Env} {objs objs' : List (Option AObj)} {nd : Prop} {ops : Array Oper} {l : List Oper} {K : Env → Prop} {X : Nat → Prop}

def memB (L : List Nat) (q : Nat) : Bool := L.any fun a => Nat.beq a q
/-- Is a temporary dead, when so much is done? It dies with the operation that is named beside it. -/
def dyB (DL : List (Tmp × Nat)) (L : List Nat) (t : Tmp) : Bool := DL.any fun x => Nat.beq x.1 t && memB L x.2
structure StepK (C : Cx) (O : List Nat → List (Option AObj)) (envF : Env) (DL : List (Tmp × Nat)) (L : List Nat) (j : Nat) (π : List Value) (w : World) (π' : List Value) (w2 : World) : Prop where
  mem : Mem C.X π' (O (j :: L)) w2
  hist : Hist C.π C.objs C.w π (O L) w → Hist C.π C.objs C.w π' (O (j :: L)) w2
  keep : ∀ t a v, look envF t = some a → dyB DL (j :: L) t = false → RelV w (okOf C.X π (O L)) π a v → RelV w2 (okOf C.X π' (O (j :: L))) π' a v
end
end Ab
set_option linter.unusedSimpArgs false
set_option linter.unusedVariables false
set_option linter.unusedSectionVars false
namespace Ab
open Go
variable [Draws]
section
variable {P : Program} [Globals P] {T : Tab} {f : FuncId} {fn : Func} {n m : Nat} {C : Cx} {R : AV → List (Option AObj) → Prop} {todo todo' k : List Item} {env env0 env' envF : Env} {objs objs' : List (Option AObj)} {nd : Prop} {ops : Array Oper} {l : List Oper} {K : Env → Prop} {X : Nat → Prop}

end
end Ab
set_option linter.unusedSimpArgs false
set_option linter.unusedVariables false
set_option linter.unusedSectionVars false
namespace Ab
open Go
variable [Draws]

/-- What a call does that returns or panics. -/
def ACallP (P : Program) [Globals P] (f : FuncId) (az : List AV) (objs : List (Option AObj)) (R : AV → List (Option AObj) → Prop) (Pn : D → Prop) : Prop :=
  ∀ X π w vs, GOk P π objs w → Mem X π objs w → RelVs w (okOf X π objs) π az vs → Invokes P f vs.toArray w (APost ⟨X, π, objs, w, [], Pn⟩ R)
theorem ACallP.mono {P : Program} [Globals P] {f : FuncId} {az : List AV} {objs : List (Option AObj)} {R R' : AV → List (Option AObj) → Prop} {Pn Pn' : D → Prop} (h : ACallP P f az objs R Pn) (hr : ∀ r o, R r o → R' r o) (hp : ∀ x, Pn x → Pn' x) : ACallP P f az objs R' Pn' :=
  fun X π w vs g m hv => (h X π w vs g m hv).mono fun e w' hq => hq.imp (fun ⟨v, r, o, π', h1, h2, h3⟩ => ⟨v, r, o, π', h1, hr _ _ h2, h3⟩) (fun ⟨v, x, o, π', h1, h2, h3⟩ => ⟨v, x, o, π', h1, hp _ h2, h3⟩)
/-- Into a function. -/
theorem acallP_enter {P : Program} [Globals P] {f : FuncId} {fn : Func} {c : Code} {az : List AV} {objs : List (Option AObj)} {R : AV → List (Option AObj) → Prop} {Pn : D → Prop} (hf : P.funcs[f]? = some fn) (hb : fn.body = some c) (hnm : (fn.name == "runtime.NumGoroutine") = false) (hn : az.length ≤ fn.ntmps)
    (h : ∀ C : Cx, C.objs = objs → C.π.length = C.objs.length → C.ds = [] → GOk P C.π C.objs C.w → C.pn = Pn → ASat P f fn.ntmps C [.code c] (envOf 0 az) objs R) : ACallP P f az objs R Pn := by
  intro X π w vs g m hv
  have hl := hv.length
  refine .inl ⟨callFunc_run hf hb hnm _ _, calls_of_sat hf hb (h ⟨X, π, objs, w, [], Pn⟩ rfl m.len rfl g rfl π w _ ?_ m (Hist.refl _ _ _) ?_)⟩
  · simp [hl]; omega
  · intro t a ht
    obtain ⟨_, v, h1, h2⟩ := envOf_rel hv 0 t a ht
    have hlt := (List.getElem?_eq_some_iff.1 h1).1
    have : (vs.toArray ++ Array.replicate (fn.ntmps - vs.toArray.size) undef).getD t undef = v := by
      simp only [Nat.sub_zero] at h1
      simp only [Array.getD_eq_getD_getElem?]
      rw [Array.getElem?_append_left (by simpa using hlt)]
      simp [h1]
    rw [this]
    exact h2

section
variable {P : Program} [Globals P] {T : Tab} {f : FuncId} {fn : Func} {n : Nat} {C : Cx} {R : AV → List (Option AObj) → Prop} {todo todo' : List Item} {env env' : Env} {objs objs' : List (Option AObj)} {nd : Prop}

/-- It panics. -/
theorem sat_panic {ops : Array Oper} {i : Nat} {r : List Nat} {k : List Item} {o : Oper} {xo : Operand} {t : TypeId} {x : D} (hf : P.funcs[f]? = some fn) (ho : ops[i]? = some o) (hw : wantE ops env o = .yes) (hop : o.op = .panic xo) (hx : opnd env xo = some (.d (.ifc t x)))
    (hp : C.pn (.ifc t x)) (hds : C.ds = [] := by with_reducible assumption) : ASat P f n C (.inRegion ops (i :: r) :: k) env objs R := by
  intro π w tmps hn hm hh he
  have hv := opnd_rel (ds := []) he hx
  rw [hds]
  obtain ⟨v, hv1⟩ : ∃ v, Act.eval ⟨tmps, []⟩ xo = .iface t v := by
    revert hv
    generalize Act.eval ⟨tmps, []⟩ xo = u
    intro hv
    cases hv with | d hv => cases hv; exact ⟨_, rfl⟩
  refine .opPanic hf ho ((wanted_of he).1 hw) (w' := w) (v := .iface t v) ?_ ?_
  · unfold execOp
    rw [hop]
    simp [hv1, Instr.panic, goPanic, Sem.run]
  · rw [hv1] at hv
    exact .inr ⟨_, _, objs, π, rfl, hp, hm, hv, hh⟩

/-- A call whose arguments and result are data, that may panic; no call is put off here. -/
theorem sat_callP {g : FuncId} {az bs : List AV} {dst : Option Tmp} {R' : AV → List (Option AObj) → Prop} {Pn : D → Prop} (hT : TabOk P T) (hf : P.funcs[f]? = some fn) (h : srun T n fn.results.toList 2000 True todo env objs = .call nd g az dst todo' env' objs') (hn : nd)
    (hc : ACallP P g bs [] R' Pn) (hp : ∀ x, Pn x → C.pn x) (hpr : ∀ x, Pn x → refsB 0 (.d x) = true) (hv : VLs az bs) (hd : refsBs 0 bs = true) (hdst : ∃ e, putE n dst .dead env' = some e) (hr : ∀ r o, R' r o → refsB 0 r = true) (k : ∀ r o, R' r o → ASat P f n C todo' (putD dst r env') objs' R)
    (hds : C.ds = [] := by with_reducible assumption) (hG : GOk P C.π C.objs C.w := by with_reducible assumption) : ASat P f n C todo env objs R := by
  suffices hcc : Cont P f n C R (.call nd g az dst todo' env' objs') from (run_sound hT hf 2000 True todo env objs (by rw [h]; exact hcc)).2
  refine ⟨hn, hdst, fun π w tmps hs hm hh he vs hvs => ?_⟩
  have h1 : RelVs w (okOf (Xof C.X π objs') [] []) [] bs vs := (hv.rel hvs).cut (m := 0) (fun b o u a1 a2 => ⟨Xof_ok.2 a1, a2⟩) (fun j _ hj => absurd hj (Nat.not_lt_zero j)) hd
  have cutr : ∀ {r : AV} {o : List (Option AObj)} {π' : List Value} {w' : World} {v : Value}, refsB 0 r = true → RelV w' (okOf (Xof C.X π objs') π' o) π' r v → RelV w' (okOf C.X π objs') π r v := fun hr0 hrel => by
    refine hrel.cut (m := 0) (fun b o u a1 a2 => ⟨?_, a2⟩) (fun j _ hj => absurd hj (Nat.not_lt_zero j)) hr0
    exact Xof_ok.1 ⟨a1.1, fun i o h h1 => by simp [nth] at h1⟩
  refine (hc _ _ w vs (hG.hist hh).nil (mem_nil hm) h1).mono ?_
  rintro e w' (⟨v, r, o, π', rfl, hR, hm', hrel, hhist⟩ | ⟨v, x, o, π', rfl, hP, hm', hrel, hhist⟩)
  · refine .inl ⟨v, rfl, ?_⟩
    have htr := (hist_later hhist).tr hm
    obtain ⟨e, hput⟩ := hdst
    obtain ⟨p1, p2⟩ := put_rel (env_tr he htr) hs (putD_eq hput) (cutr (hr r o hR) hrel)
    exact k r o hR π w' _ p2 htr.mem (hist_tr hh htr) p1
  · refine .inr ⟨_, rfl, fun fn' _ => ?_⟩
    have htr := (hist_later hhist).tr hm
    rw [hds]
    exact .inr ⟨v, x, objs', π, rfl, hp x hP, htr.mem, cutr (hpr x hP) hrel, hist_tr hh htr⟩
end
end Ab
namespace Go.Proofs.YtffomfbbplpljaaDoor
open Go Ab Go.RowKit
set_option maxRecDepth 100000
set_option linter.unusedVariables false
set_option linter.unusedSimpArgs false
set_option maxHeartbeats 2000000

@[reducible] def wrD (at_ e : Int) : D := .ifc 70 (.ag [eI at_, eI e])
theorem must_call (b : List UInt8) (at_ : Int) (s : List UInt8) (hb : b.length ≤ 1000000) (hs : s.length ≤ 1000000) : ACallP Tryd.prog 42 [.d (eBy b), vI .i64 at_, vTx s] [] (fun r o => r = vI .i64 (isTo b at_ s) ∧ isAt b at_ s = true) (fun x => x = wrD at_ 2 ∧ isAt b at_ s = false) := by
  refine acallP_enter Tryd.func42 rfl rfl (Nat.le_of_ble_eq_true rfl) fun C hC hCl hDs hGk hPn => ?_
  refine sat_call tabOk Tryd.func42 rfl trivial (Is_call b at_ s hb hs) (.refl _) rfl ⟨_, rfl⟩ (by rintro r o rfl; rfl) ?_
  rintro _ o rfl
  refine sat_branch tabOk Tryd.func42 rfl trivial (fun h => ?_) (fun h => ?_)
  · have h : isAt b at_ s = false := by simpa using h
    refine sat_steps 5 tabOk Tryd.func42 rfl trivial ?_
    refine sat_panic Tryd.func42 rfl rfl rfl rfl ?_
    rw [hPn]
    exact ⟨rfl, h⟩
  · have h : isAt b at_ s = true := by simpa using h
    exact sat_ret tabOk Tryd.func42 rfl trivial ⟨rfl, h⟩
end Go.Proofs.YtffomfbbplpljaaDoor
namespace Go.Proofs.YtffomfbbplpljaaDoor
open Go Ab
variable [Draws]
set_option maxRecDepth 100000
set_option linter.unusedVariables false

theorem isNaN_call (x : Int) : ACall Tryd.prog 116 [vI .i64 x] [] (fun r o => r = vB false) := by
  refine acall_enter Tryd.func116 rfl rfl (Nat.le_of_ble_eq_true rfl) fun C hC hCl hDs hGk => ?_
  refine sat_ret tabOk Tryd.func116 rfl trivial ?_
  show vB _ = vB _
  simp
def cmpI (a b : Int) : Int := if a < b then -1 else if b < a then 1 else 0
theorem Compare_call (a b : Int) : ACall Tryd.prog 106 [vI .i64 a, vI .i64 b] [] (fun r o => r = vI .i64 (cmpI a b)) := by
  refine acall_enter Tryd.func106 rfl rfl (Nat.le_of_ble_eq_true rfl) fun C hC hCl hDs hGk => ?_
  refine sat_call tabOk Tryd.func106 rfl trivial (isNaN_call a) (.refl _) rfl ⟨_, rfl⟩ (by rintro r o rfl; rfl) fun r o hr => ?_
  subst hr
  refine sat_call tabOk Tryd.func106 rfl trivial (isNaN_call b) (.refl _) rfl ⟨_, rfl⟩ (by rintro r o rfl; rfl) fun r o hr => ?_
  subst hr
  refine sat_branch tabOk Tryd.func106 rfl trivial (fun h => by cases h) (fun _ => ?_)
  refine sat_branch tabOk Tryd.func106 rfl trivial (fun h => by cases h) (fun _ => ?_)
  refine sat_branch tabOk Tryd.func106 rfl trivial (fun h => ?_) (fun h => ?_)
  · refine sat_ret tabOk Tryd.func106 rfl trivial ?_
    show vI .i64 _ = vI .i64 _
    simp at h
    simp [cmpI, h]
  · simp only [decide_eq_false_iff_not] at h
    refine sat_branch tabOk Tryd.func106 rfl trivial (fun h2 => ?_) (fun h2 => ?_) <;> simp only [decide_eq_true_eq, decide_eq_false_iff_not] at h2
    · refine sat_ret tabOk Tryd.func106 rfl trivial ?_
      show vI .i64 _ = vI .i64 _
      rw [cmpI, if_neg h, if_pos (by omega)]
    · refine sat_ret tabOk Tryd.func106 rfl trivial ?_
      show vI .i64 _ = vI .i64 _
      rw [cmpI, if_neg h, if_neg (by omega)]
theorem Or_call (a b : Int) : ACall Tryd.prog 105 [.d (.sl 1 [.v (.int .i64 a), .v (.int .i64 b)] (litRd [.v (.int .i64 a), .v (.int .i64 b)]))] [] (fun r o => r = vI .i64 (if a = 0 then b else a)) := by
  refine acall_enter Tryd.func105 rfl rfl (Nat.le_of_ble_eq_true rfl) fun C hC hCl hDs hGk => ?_
  refine sat_stop tabOk Tryd.func105 rfl trivial (sat_loop1 ?_)
  refine sat_branch tabOk Tryd.func105 rfl trivial (fun h => ?_) (fun h => by simp at h)
  refine sat_branch tabOk Tryd.func105 rfl (by simp) (fun h => ?_) (fun h => ?_)
  · have h : a ≠ 0 := by simpa using h
    refine sat_ret tabOk Tryd.func105 rfl trivial ?_
    show vI .i64 a = vI .i64 _
    rw [if_neg h]
  · have h : a = 0 := by simpa using h
    refine sat_stop tabOk Tryd.func105 rfl trivial (sat_in1 ?_)
    refine sat_branch tabOk Tryd.func105 rfl trivial (fun h2 => ?_) (fun h2 => by simp [wrap_id] at h2)
    refine sat_branch tabOk Tryd.func105 rfl (by simp [wrap_id]) (fun h2 => ?_) (fun h2 => ?_)
    · refine sat_ret tabOk Tryd.func105 rfl trivial ?_
      show vI .i64 b = vI .i64 _
      rw [if_pos h]
    · have h2 : b = 0 := by simpa using h2
      refine sat_stop tabOk Tryd.func105 rfl trivial (sat_in1 ?_)
      refine sat_branch tabOk Tryd.func105 rfl trivial (fun h3 => by simp [wrap_id] at h3) (fun h3 => ?_)
      refine sat_ret tabOk Tryd.func105 rfl trivial ?_
      show vI .i64 0 = vI .i64 _
      rw [if_pos h, h2]
def byI (a b : Int) : Int := if cmpI (max a (-a)) (max b (-b)) = 0 then cmpI a b else cmpI (max a (-a)) (max b (-b))
theorem by_call (a b : Int) (ha : -1000000 ≤ a ∧ a ≤ 1000000) (hb : -1000000 ≤ b ∧ b ≤ 1000000) : ACall Tryd.prog 101 [vI .i64 a, vI .i64 b] [] (fun r o => r = vI .i64 (byI a b)) := by
  refine acall_enter Tryd.func101 rfl rfl (Nat.le_of_ble_eq_true rfl) fun C hC hCl hDs hGk => ?_
  refine sat_call tabOk Tryd.func101 rfl trivial (Compare_call (max a (-a)) (max b (-b))) ?_ rfl ⟨_, rfl⟩ (by rintro r o rfl; rfl) fun r o hr => ?_
  · exact ⟨.of (by show vI .i64 (max a (IntKind.i64.wrap (0 - a))) = _; rw [wrap_id (by omega) (by omega), Int.zero_sub]), .of (by show vI .i64 (max b (IntKind.i64.wrap (0 - b))) = _; rw [wrap_id (by omega) (by omega), Int.zero_sub]), trivial⟩
  subst hr
  refine sat_call tabOk Tryd.func101 rfl trivial (Compare_call a b) (.refl _) rfl ⟨_, rfl⟩ (by rintro r o rfl; rfl) fun r o hr => ?_
  subst hr
  refine sat_call tabOk Tryd.func101 rfl trivial (Or_call _ _) (.refl _) rfl ⟨_, rfl⟩ (by rintro r o rfl; rfl) fun r o hr => ?_
  subst hr
  refine sat_ret tabOk Tryd.func101 rfl trivial ?_
  rfl
end Go.Proofs.YtffomfbbplpljaaDoor
namespace Go.Proofs.YtffomfbbplpljaaDoor
open Go Ab
set_option maxRecDepth 100000
set_option linter.unusedVariables false

/-- What is forced so far, as the code holds it. -/
structure Wk where
  forced : List Int
  queue : List Int
  clash : Bool
@[reducible] def gIs (l : List Int) : AObj := gL 3 1 eI 0 l
@[reducible] def wkO (s : Wk) : List (Option AObj) := [some (.cells 142 [.gs 1, .gs 2, vB s.clash]), some (gIs s.forced), some (gIs s.queue)]
def va (l : Int) : Nat := (max l (-l)).toNat
def forceW (s : Wk) (l : Int) : Wk :=
  if s.forced.getD (va l) 0 = l then s
  else if s.forced.getD (va l) 0 = 0 then ⟨s.forced.set (va l) l, s.queue ++ [l], s.clash⟩
  else ⟨s.forced, s.queue, true⟩

theorem force_call (s : Wk) (l : Int) (hl : va l < s.forced.length) (hs : -1000000 ≤ l ∧ l ≤ 1000000) (hq : s.queue.length ≤ 1000000) : ACall Tryd.prog 90 [.ptr 0 0, vI .i64 l] (wkO s) (fun r o => r = .tp [] ∧ o = wkO (forceW s l)) := by
  refine acall_enter Tryd.func90 rfl rfl (Nat.le_of_ble_eq_true rfl) fun C hC hCl hDs hGk => ?_
  have e1 : IntKind.i64.wrap (0 - l) = -l := by rw [wrap_id (by omega) (by omega), Int.zero_sub]
  have e2 : max l (-l) = (va l : Int) := by unfold va; omega
  refine sat_branch tabOk Tryd.func90 rfl (by simp only [e1, e2, Int.toNat_natCast, List.length_map]; simp; omega) (fun h => ?_) (fun h => ?_)
  · rw [e1, e2] at h
    simp only [Int.toNat_natCast, beq_iff_eq] at h
    refine sat_retL tabOk Tryd.func90 rfl trivial hC hCl (.refl _) (o2 := wkO (forceW s l)) ?_ rfl rfl (Nat.le_refl _) ⟨rfl, rfl⟩
    rw [forceW, if_pos h]
    exact ⟨.refl _, .refl _, .refl _, trivial⟩
  · rw [e1, e2] at h
    simp only [Int.toNat_natCast, beq_eq_false_iff_ne] at h
    refine sat_branch tabOk Tryd.func90 rfl trivial (fun h2 => ?_) (fun h2 => ?_)
    · rw [e1, e2] at h2
      simp only [Int.toNat_natCast, beq_iff_eq] at h2
      refine sat_retL tabOk Tryd.func90 rfl ?_ hC hCl (.refl _) (o2 := wkO (forceW s l)) ?_ rfl rfl (Nat.le_refl _) ⟨rfl, rfl⟩
      · simp only [andP, e1, e2, Int.toNat_natCast, List.length_map, List.length_cons, List.length_nil]
        have : s.queue.length + (0 + 1) ≤ 2000000 := by omega
        refine ⟨by show (s.queue.length + (0 + 1)) * 8 ≤ _; omega, hl, ⟨by omega, by omega⟩, trivial⟩
      · rw [forceW, if_neg h, if_pos h2]
        refine ⟨.refl _, .gL ?_, .gL ?_, trivial⟩
        · rw [e1, e2, Int.toNat_natCast, List.map_set]
          rfl
        · rw [List.map_append]
          rfl
    · rw [e1, e2] at h2
      simp only [Int.toNat_natCast, beq_eq_false_iff_ne] at h2
      refine sat_retL tabOk Tryd.func90 rfl trivial hC hCl (.refl _) (o2 := wkO (forceW s l)) ?_ rfl rfl (Nat.le_refl _) ⟨rfl, rfl⟩
      rw [forceW, if_neg h, if_neg h2]
      exact ⟨.refl _, .refl _, .refl _, trivial⟩

def scanW (forced : List Int) : Int → List Int → Option Int
  | only, [] => some only
  | only, l :: r => if forced.getD (va l) 0 = l then none else if forced.getD (va l) 0 = -l then scanW forced only r else if only ≠ 0 ∧ only ≠ l then none else scanW forced l r
def lookW (s : Wk) (c : List Int) : Wk :=
  match scanW s.forced 0 c with
  | none => s
  | some only => if only = 0 then ⟨s.forced, s.queue, true⟩ else forceW s only
theorem scanW_mem (forced : List Int) : ∀ (c : List Int) (only x : Int), scanW forced only c = some x → x = only ∨ x ∈ c
  | [], only, x, h => by simp only [scanW, Option.some.injEq] at h; exact .inl h.symm
  | l :: r, only, x, h => by
    simp only [scanW] at h
    split at h
    · cases h
    · split at h
      · rcases scanW_mem forced r only x h with h | h
        · exact .inl h
        · exact .inr (List.mem_cons_of_mem _ h)
      · split at h
        · cases h
        · rcases scanW_mem forced r l x h with h | h
          · exact .inr (h ▸ List.mem_cons_self)
          · exact .inr (List.mem_cons_of_mem _ h)

theorem look_call (s : Wk) (c : List Int) (hc : ∀ l ∈ c, va l < s.forced.length ∧ -1000000 ≤ l ∧ l ≤ 1000000) (hq : s.queue.length ≤ 1000000) : ACall Tryd.prog 91 [.ptr 0 0, .d (eIs c)] (wkO s) (fun r o => r = .tp [] ∧ o = wkO (lookW s c)) := by
  refine acall_enter Tryd.func91 rfl rfl (Nat.le_of_ble_eq_true rfl) fun C hC hCl hDs hGk => ?_
  refine sat_len (t := 1) rfl fun hlen => ?_
  rw [List.length_map] at hlen
  refine sat_stop tabOk Tryd.func91 rfl trivial ?_
  refine sat_while (α := Nat × Int) (fun a => [(0, .ptr 0 0), (1, .d (eIs c)), (7, .d (eIs c)), (8, vI .i64 c.length), (9, vI .i64 a.1), (4, vI .i64 a.2)]) (fun _ => wkO s) (fun a => a.1 ≤ c.length ∧ scanW s.forced 0 c = scanW s.forced a.2 (c.drop a.1)) (fun a => c.length - a.1) (0, 0) ⟨Nat.zero_le _, rfl⟩ ?_ ?_
  · refine fun h => sat_le h hC hCl ?_ ⟨.refl _, .refl _, .refl _, trivial⟩ rfl rfl (Nat.le_refl _)
    exact ⟨⟨_, rfl, .refl _⟩, ⟨_, rfl, .refl _⟩, ⟨_, rfl, .refl _⟩, ⟨_, rfl, .of (by rw [List.length_map])⟩, ⟨_, rfl, .refl _⟩, ⟨_, rfl, .refl _⟩, trivial⟩
  · rintro ⟨i, only⟩ ⟨hi, hcs⟩ ih
    simp only at hi hcs ⊢
    refine sat_branch tabOk Tryd.func91 rfl trivial (fun hb => ?_) (fun hb => ?_) <;> simp only [decide_eq_true_eq, decide_eq_false_iff_not] at hb
    · have hlt : i < c.length := by omega
      obtain ⟨b1, b2, b3⟩ := hc _ (List.getElem_mem hlt)
      rw [List.drop_eq_getElem_cons hlt, scanW] at hcs
      have hget : c.getD i 0 = c[i] := by simp [hlt]
      generalize hx : c[i] = x at *
      have e1 : IntKind.i64.wrap (0 - x) = -x := by rw [wrap_id (by omega) (by omega), Int.zero_sub]
      have e2 : max x (-x) = (va x : Int) := by unfold va; omega
      refine sat_branch tabOk Tryd.func91 rfl ?_ (fun h => ?_) (fun h => ?_)
      · simp only [Int.toNat_natCast, List.length_map, hget, e1, e2]
        exact ⟨b1, ⟨by omega, by omega⟩, ⟨by omega, by omega⟩, trivial⟩
      · simp only [Int.toNat_natCast, hget, e1, e2, beq_iff_eq] at h
        rw [if_pos h] at hcs
        refine sat_retL tabOk Tryd.func91 rfl trivial hC hCl (.refl _) (o2 := wkO (lookW s c)) ?_ rfl rfl (Nat.le_refl _) ⟨rfl, rfl⟩
        rw [lookW, hcs]
        exact ⟨.refl _, .refl _, .refl _, trivial⟩
      · simp only [Int.toNat_natCast, hget, e1, e2, beq_eq_false_iff_ne] at h
        rw [if_neg h] at hcs
        have next : ∀ o : Int, scanW s.forced 0 c = scanW s.forced o (c.drop (i + 1)) → ASat Tryd.prog 91 Tryd.f91.ntmps C _ _ _ _ := fun o ho => ih (i + 1, o) ⟨by omega, ho⟩ (by omega)
        have e3 : IntKind.i64.wrap ((i : Int) + 1) = ((i + 1 : Nat) : Int) := wrap_id (by omega) (by omega)
        refine sat_branch tabOk Tryd.func91 rfl trivial (fun h2 => ?_) (fun h2 => ?_)
        · simp only [Int.toNat_natCast, hget, e1, e2, beq_iff_eq] at h2
          rw [if_pos h2] at hcs
          refine sat_stop tabOk Tryd.func91 rfl trivial ?_
          refine sat_le (next only hcs) hC hCl ?_ ⟨.refl _, .refl _, .refl _, trivial⟩ rfl rfl (Nat.le_refl _)
          exact ⟨⟨_, rfl, .refl _⟩, ⟨_, rfl, .refl _⟩, ⟨_, rfl, .refl _⟩, ⟨_, rfl, .refl _⟩, ⟨_, rfl, .of (by rw [e3])⟩, ⟨_, rfl, .refl _⟩, trivial⟩
        · simp only [Int.toNat_natCast, hget, e1, e2, beq_eq_false_iff_ne] at h2
          rw [if_neg h2] at hcs
          refine sat_branch tabOk Tryd.func91 rfl trivial (fun h3 => ?_) (fun h3 => ?_)
          · have h3 : only ≠ 0 := by simpa using h3
            refine sat_branch tabOk Tryd.func91 rfl trivial (fun h4 => ?_) (fun h4 => ?_)
            · have h4 : only ≠ x := by rw [← hget]; simpa using h4
              rw [if_pos ⟨h3, h4⟩] at hcs
              refine sat_retL tabOk Tryd.func91 rfl trivial hC hCl (.refl _) (o2 := wkO (lookW s c)) ?_ rfl rfl (Nat.le_refl _) ⟨rfl, rfl⟩
              rw [lookW, hcs]
              exact ⟨.refl _, .refl _, .refl _, trivial⟩
            · have h4 : only = x := by rw [← hget]; simpa using h4
              rw [if_neg (by simp [h4])] at hcs
              refine sat_stop tabOk Tryd.func91 rfl trivial ?_
              refine sat_le (next x hcs) hC hCl ?_ ⟨.refl _, .refl _, .refl _, trivial⟩ rfl rfl (Nat.le_refl _)
              exact ⟨⟨_, rfl, .refl _⟩, ⟨_, rfl, .refl _⟩, ⟨_, rfl, .refl _⟩, ⟨_, rfl, .refl _⟩, ⟨_, rfl, .of (by rw [e3])⟩, ⟨_, rfl, .of (by rw [← hget]; rfl)⟩, trivial⟩
          · have h3 : only = 0 := by simpa using h3
            rw [if_neg (by simp [h3])] at hcs
            refine sat_branch tabOk Tryd.func91 rfl trivial (fun h4 => by cases h4) (fun _ => ?_)
            refine sat_stop tabOk Tryd.func91 rfl trivial ?_
            refine sat_le (next x hcs) hC hCl ?_ ⟨.refl _, .refl _, .refl _, trivial⟩ rfl rfl (Nat.le_refl _)
            exact ⟨⟨_, rfl, .refl _⟩, ⟨_, rfl, .refl _⟩, ⟨_, rfl, .refl _⟩, ⟨_, rfl, .refl _⟩, ⟨_, rfl, .of (by rw [e3])⟩, ⟨_, rfl, .of (by rw [← hget]; rfl)⟩, trivial⟩
    · obtain rfl : i = c.length := by omega
      rw [List.drop_length, scanW] at hcs
      refine sat_branch tabOk Tryd.func91 rfl trivial (fun h => ?_) (fun h => ?_)
      · have h : only = 0 := by simpa using h
        refine sat_retL tabOk Tryd.func91 rfl trivial hC hCl (.refl _) (o2 := wkO (lookW s c)) ?_ rfl rfl (Nat.le_refl _) ⟨rfl, rfl⟩
        rw [lookW, hcs]
        simp only [h, if_true]
        exact ⟨.refl _, .refl _, .refl _, trivial⟩
      · have h : only ≠ 0 := by simpa using h
        obtain ⟨b1, b2⟩ : va only < s.forced.length ∧ -1000000 ≤ only ∧ only ≤ 1000000 := by
          rcases scanW_mem s.forced c 0 only hcs with e | e
          · exact absurd e h
          · exact hc only e
        refine sat_callG [0, 1, 2] tabOk Tryd.func91 rfl trivial (force_call s only b1 b2 hq) ⟨⟨_, rfl, .refl _⟩, ⟨_, rfl, .refl _⟩, ⟨_, rfl, .refl _⟩, trivial⟩ (.refl _) rfl rfl rfl ⟨_, rfl⟩ ?_
        rintro r o ⟨rfl, rfl⟩
        refine sat_retL tabOk Tryd.func91 rfl trivial hC hCl (.refl _) (o2 := wkO (lookW s c)) ?_ rfl rfl (Nat.le_refl _) ⟨rfl, rfl⟩
        rw [lookW, hcs]
        simp only [if_neg h]
        exact ⟨.refl _, .refl _, .refl _, trivial⟩
end Go.Proofs.YtffomfbbplpljaaDoor
namespace Go.Proofs.YtffomfbbplpljaaDoor
open Go Ab
set_option maxRecDepth 100000
set_option linter.unusedVariables false
set_option linter.unusedSimpArgs false

@[reducible] def eIss (l : List (List Int)) : D := eL 1 eIs [] l
def gtot : List (Int × List Int) → Nat
  | [] => 0
  | (_, l) :: r => l.length + gtot r
theorem gtot_gadd (k i : Int) : ∀ G, gtot (gadd k i G) = gtot G + 1
  | [] => by simp [gadd, gtot]
  | (k', l) :: r => by
    simp only [gadd]
    split
    · simp [gtot]; omega
    · simp [gtot, gtot_gadd k i r]; omega
theorem gget_le (k : Int) : ∀ G, (gget k G).length ≤ gtot G
  | [] => by simp [gget]
  | (k', l) :: r => by
    simp only [gget, gtot]
    split
    · omega
    · have := gget_le k r; omega
def gatherC (i : Int) (c : List Int) (G : List (Int × List Int)) : List (Int × List Int) := c.foldl (fun G x => gadd (-x) i G) G
def gatherL : List (List Int) → Nat → List (Int × List Int) → List (Int × List Int)
  | [], _, G => G
  | c :: r, i, G => gatherL r (i + 1) (gatherC i c G)
def lits (l : List (List Int)) : Nat := (l.map List.length).sum

def litOk (n x : Int) : Prop := x ≠ 0 ∧ -n ≤ x ∧ x ≤ n
@[reducible] def gO (f0 : List Int) (G : List (Int × List Int)) : List (Option AObj) := some (gIs f0) :: some (.cells 142 [.gs 0, .d (.v (.slice none 0 0)), vB false]) :: some (.map (esOf 3 G)) :: tailOf 3 G

theorem gO_refs (f0 : List Int) (G : List (Int × List Int)) : refsO (gO f0 G).length (gO f0 G) = true := by
  have h : (gO f0 G).length = G.length + 3 := by simp [gO, tailOf_len]
  rw [h]
  have b1 : Nat.blt 0 (G.length + 3) = true := by rw [Nat.blt_eq]; omega
  simp only [gO, refsO, gL, refsO1, refsBs, refsB, b1, esOf_refs 3 (G.length + 3) G (by omega), tailOf_refs]

theorem subO_snoc {x y : AObj} (h : OLe y x) : ∀ l : List (Option AObj), subO (l ++ [some x]) (l ++ [some y])
  | [] => ⟨h, trivial⟩
  | none :: r => subO_snoc h r
  | some o :: r => ⟨.refl o, subO_snoc h r⟩

/-! ### What is forced, step by step -/
@[reducible] def stO (s : Wk) (G : List (Int × List Int)) : List (Option AObj) := [some (gIs s.forced), some (.cells 142 [.gs 0, .gs 3, vB s.clash]), some (.map (esD G)), some (gIs s.queue)]
theorem stO_refs (s : Wk) (G : List (Int × List Int)) : refsO (stO s G).length (stO s G) = true := by
  simp only [stO, refsO, gL, refsO1, refsBs, refsB, esD_refs]; rfl
structure WkV (n : Int) (s : Wk) : Prop where
  len : s.forced.length = (n + 1).toNat
  sz : s.queue.length + s.forced.count 0 ≤ (n + 1).toNat
theorem va_lt {n x : Int} (h : litOk n x) : va x < (n + 1).toNat := by
  obtain ⟨h0, h1, h2⟩ := h
  unfold va
  omega
theorem count_set0 : ∀ (l : List Int) (v : Nat) (x : Int), v < l.length → l.getD v 0 = 0 → x ≠ 0 → (l.set v x).count 0 + 1 = l.count 0
  | [], v, x, h, _, _ => by simp at h
  | y :: r, 0, x, h, h0, hx => by
    have : y = 0 := by simpa using h0
    subst this
    simp [hx]
  | y :: r, v + 1, x, h, h0, hx => by
    have := count_set0 r v x (by simpa using h) (by simpa using h0) hx
    simp only [List.set_cons_succ, List.count_cons]
    omega
theorem forceW_V {n x : Int} {s : Wk} (h : litOk n x) (v : WkV n s) : WkV n (forceW s x) := by
  unfold forceW
  split
  · exact v
  · split
    · rename_i h1 h2
      refine ⟨by simp [v.len], ?_⟩
      have := count_set0 s.forced (va x) x (by rw [v.len]; exact va_lt h) h2 h.1
      have := v.sz
      simp only [List.length_append, List.length_cons, List.length_nil]
      omega
    · exact ⟨v.len, v.sz⟩
theorem lookW_V {n : Int} {s : Wk} {c : List Int} (h : ∀ x ∈ c, litOk n x) (v : WkV n s) : WkV n (lookW s c) := by
  unfold lookW
  split
  · exact v
  · rename_i only ho
    split
    · exact ⟨v.len, v.sz⟩
    · rename_i hne
      rcases scanW_mem s.forced c 0 only ho with e | e
      · exact absurd e hne
      · exact forceW_V (h only e) v
def muW (s : Wk) : Nat := s.queue.length + s.forced.count 0
theorem forceW_mu {n x : Int} {s : Wk} (h : litOk n x) (v : WkV n s) : muW (forceW s x) = muW s := by
  unfold forceW muW
  split
  · rfl
  · split
    · rename_i h1 h2
      have := count_set0 s.forced (va x) x (by rw [v.len]; exact va_lt h) h2 h.1
      simp only [List.length_append, List.length_cons, List.length_nil]
      omega
    · rfl
theorem lookW_mu {n : Int} {s : Wk} {c : List Int} (h : ∀ x ∈ c, litOk n x) (v : WkV n s) : muW (lookW s c) = muW s := by
  unfold lookW
  split
  · rfl
  · rename_i only ho
    split
    · rfl
    · rename_i hne
      rcases scanW_mem s.forced c 0 only ho with e | e
      · exact absurd e hne
      · exact forceW_mu (h only e) v
def lookAt (l : List (List Int)) (s : Wk) (i : Int) : Wk := lookW s (l.getD i.toNat [])
def popW (l : List (List Int)) (G : List (Int × List Int)) (s : Wk) (x : Int) (q : List Int) : Wk := (gget x G).foldl (lookAt l) ⟨s.forced, q, s.clash⟩
inductive Star (l : List (List Int)) (G : List (Int × List Int)) (s : Wk) : Wk → Prop
  | refl : Star l G s s
  | step {t : Wk} {x : Int} {q : List Int} (h : Star l G s t) (hc : t.clash = false) (hq : t.queue = x :: q) : Star l G s (popW l G t x q)
def firstW (n : Int) (l : List (List Int)) (a : List Int) : Wk := l.foldl lookW (a.foldl forceW ⟨List.replicate (n + 1).toNat 0, [], false⟩)
def closeEnd (s : Wk) : AV := if s.clash = true then .tp [.d (.v (.slice none 0 0)), vB true] else .tp [.d (eIs (s.forced.filter (· ≠ 0))), vB false]
def CloseRel (n : Int) (l : List (List Int)) (a : List Int) (s : Wk) : Prop := Star l (gatherL l 0 []) (firstW n l a) s ∧ (s.queue = [] ∨ s.clash = true)
def DelOk : Prop := ∀ xs : List Int, xs ≠ [] → ACall Tryd.prog 92 [.gs 0, .d (.v (.func (.func 93) #[] #[]))] [some (gIs xs)] (fun r o => r = .gs 0 ∧ o = [some (gIs (xs.filter (· ≠ 0)))])

theorem gget_gadd (k k' i : Int) : ∀ G, gget k (gadd k' i G) = if k = k' then gget k G ++ [i] else gget k G
  | [] => by
    simp only [gadd, gget]
    by_cases e : k' = k
    · simp [e]
    · simp [e, Ne.symm e]
  | (q, l) :: r => by
    have ih := gget_gadd k k' i r
    simp only [gadd]
    by_cases e1 : q = k'
    · subst e1
      by_cases e2 : q = k
      · subst e2; simp [gget]
      · simp [gget, e2, Ne.symm e2]
    · simp only [if_neg e1, gget]
      by_cases e2 : q = k
      · subst e2; simp [e1]
      · simp [e2, ih]
theorem gget_gatherC (k : Int) (i : Int) : ∀ (c : List Int) G, gget k (gatherC i c G) = gget k G ++ (c.filter (fun x => -x = k)).map (fun _ => i)
  | [], G => by simp [gatherC]
  | x :: r, G => by
    have ih := gget_gatherC k i r (gadd (-x) i G)
    simp only [gatherC, List.foldl_cons] at ih ⊢
    rw [ih, gget_gadd]
    by_cases e : -x = k
    · simp [e]
    · simp [e, Ne.symm e]
/-- The clauses that are looked at when x is forced. -/
def idxs (k : Int) : Nat → List (List Int) → List Int
  | _, [] => []
  | i, c :: r => (c.filter (fun x => -x = k)).map (fun _ => (i : Int)) ++ idxs k (i + 1) r
theorem gget_gatherL (k : Int) : ∀ (l : List (List Int)) (i : Nat) G, gget k (gatherL l i G) = gget k G ++ idxs k i l
  | [], i, G => by simp [gatherL, idxs]
  | c :: r, i, G => by simp only [gatherL, gget_gatherL k r (i + 1), gget_gatherC, idxs, List.append_assoc]
theorem idxs_mem {k : Int} : ∀ {l : List (List Int)} {b : Nat} {i : Int}, i ∈ idxs k b l ↔ ∃ j : Nat, j < l.length ∧ i = ((b + j : Nat) : Int) ∧ -k ∈ l.getD j []
  | [], b, i => by simp [idxs]
  | c :: r, b, i => by
    simp only [idxs, List.mem_append, List.mem_map, List.mem_filter, decide_eq_true_eq, idxs_mem (l := r)]
    constructor
    · rintro (⟨x, ⟨h1, h2⟩, h3⟩ | ⟨j, h1, h2, h3⟩)
      · refine ⟨0, by simp, by simp [h3], ?_⟩
        have : -k = x := by omega
        simpa [this] using h1
      · exact ⟨j + 1, by simpa using h1, by rw [h2]; congr 1; omega, by simpa using h3⟩
    · rintro ⟨j, h1, h2, h3⟩
      cases j with
      | zero => exact .inl ⟨-k, ⟨by simpa using h3, by omega⟩, by rw [h2]; simp⟩
      | succ j => exact .inr ⟨j, by simpa using h1, by rw [h2]; congr 1; omega, by simpa using h3⟩

theorem esD_dropS (q : Nat → Bool) : ∀ G : List (Int × List Int), dropSEs q (esD G) = esD G
  | [] => rfl
  | (k, l) :: r => by simp [esD, dropSEs, AV.dropS, esD_dropS q r]
theorem esD_dropE (q : Nat) : ∀ G : List (Int × List Int), dropEs q (esD G) = esD G
  | [] => rfl
  | (k, l) :: r => by simp [esD, dropEs, AV.drop, esD_dropE q r]
theorem OLe.esD (q : Nat → Bool) (G : List (Int × List Int)) : OLe (AObj.dropS q (.map (esD G))) (.map (Ab.esD G)) := .of (by show AObj.map (dropSEs q (Ab.esD G)) = _; rw [esD_dropS])

theorem dropEs_keys (t : TK) (j : Nat) : ∀ es : List (Value × AV), keysB t (dropEs j es) = keysB t es
  | [] => rfl
  | (k, x) :: r => by simp only [dropEs, keysB, dropEs_keys t j r]

theorem Close_call (n : Int) (l : List (List Int)) (a : List Int) (hn : 0 ≤ n ∧ n ≤ 100000) (hl : ∀ c ∈ l, ∀ x ∈ c, litOk n x) (ha : ∀ x ∈ a, litOk n x) (hb : lits l ≤ 1000000) (hdel : DelOk) :
    ACall Tryd.prog 89 [vI .i64 n, .d (eIss l), .d (eIs a)] [] (fun r o => ∃ s, CloseRel n l a s ∧ WkV n s ∧ r = closeEnd s) := by
  refine acall_enter Tryd.func89 rfl rfl (Nat.le_of_ble_eq_true rfl) fun C hC hCl hDs hGk => ?_
  refine sat_len (t := 1) rfl fun hlen => ?_
  rw [List.length_map] at hlen
  refine sat_len (t := 2) rfl fun halen => ?_
  rw [List.length_map] at halen
  have w1 : IntKind.i64.wrap (n + 1) = n + 1 := wrap_id (by omega) (by omega)
  refine sat_stop tabOk Tryd.func89 rfl ?_ ?_
  · refine ⟨?_, trivial⟩
    rw [w1]
    refine ⟨by omega, Int.le_refl _, ?_⟩
    show (n + 1) * (8 : Int) ≤ _
    omega
  have f0 : (List.replicate (n + 1).toNat (0 : Int)).map eI = List.replicate (n + 1).toNat (eI 0) := by simp
  refine sat_while (α := Nat × List (Int × List Int)) (fun s => [(0, vI .i64 n), (1, .d (eIss l)), (2, .d (eIs a)), (8, .ptr 1 0), (9, .mp 2), (27, .d (eIss l)), (28, vI .i64 l.length), (29, vI .i64 s.1)]) (fun s => gO (List.replicate (n + 1).toNat 0) s.2)
    (fun s => s.1 ≤ l.length ∧ gatherL (l.drop s.1) s.1 s.2 = gatherL l 0 [] ∧ gtot s.2 + lits (l.drop s.1) ≤ 1000000) (fun s => l.length - s.1) (0, []) ⟨Nat.zero_le _, rfl, by simpa [gtot] using hb⟩ ?_ ?_
  · refine fun h => sat_le h hC hCl ?_ ?_ rfl rfl (Nat.zero_le _)
    · exact ⟨⟨_, rfl, .refl _⟩, ⟨_, rfl, .refl _⟩, ⟨_, rfl, .refl _⟩, ⟨_, rfl, .refl _⟩, ⟨_, rfl, .refl _⟩, ⟨_, rfl, .refl _⟩, ⟨_, rfl, .of (by rw [List.length_map])⟩, ⟨_, rfl, .refl _⟩, trivial⟩
    · refine ⟨.gL ?_, .refl _, .refl _, trivial⟩
      rw [f0, w1]
      rfl
  · rintro ⟨i, G⟩ ⟨hi, hG, ht⟩ ih
    simp only at hi hG ht ⊢
    refine sat_branch tabOk Tryd.func89 rfl trivial (fun hb => ?_) (fun hb => ?_) <;> simp only [decide_eq_true_eq, decide_eq_false_iff_not] at hb
    · have hlt : i < l.length := by omega
      have hget : l.getD i [] = l[i] := by simp [hlt]
      rw [List.drop_eq_getElem_cons hlt, gatherL] at hG
      rw [List.drop_eq_getElem_cons hlt, lits, List.map_cons, List.sum_cons] at ht
      have hlc := hl _ (List.getElem_mem hlt)
      generalize hc : l[i] = c at *
      refine sat_stop tabOk Tryd.func89 rfl ?_ ?_
      · simp only [Int.toNat_natCast, List.length_map]; exact ⟨⟨by omega, by omega⟩, trivial⟩
      refine sat_while (α := Nat × List (Int × List Int)) (fun s => [(0, vI .i64 n), (1, .d (eIss l)), (2, .d (eIs a)), (8, .ptr 1 0), (9, .mp 2), (27, .d (eIss l)), (28, vI .i64 l.length), (29, vI .i64 i), (10, vI .i64 i), (34, .d (eIs c)), (35, vI .i64 c.length), (36, vI .i64 s.1)]) (fun s => gO (List.replicate (n + 1).toNat 0) s.2)
        (fun s => s.1 ≤ c.length ∧ gatherC i (c.drop s.1) s.2 = gatherC i c G ∧ gtot s.2 + (c.length - s.1) + lits (l.drop (i + 1)) ≤ 1000000) (fun s => c.length - s.1) (0, G) ⟨Nat.zero_le _, rfl, by simpa [lits, Nat.add_assoc] using ht⟩ ?_ ?_
      · refine fun h => sat_le h hC hCl ?_ (subO_refl _) rfl (gO_refs _ _) (Nat.zero_le _)
        have e1 : eIs (l.getD i []) = eIs c := by rw [hget]
        exact ⟨⟨_, rfl, .refl _⟩, ⟨_, rfl, .refl _⟩, ⟨_, rfl, .refl _⟩, ⟨_, rfl, .refl _⟩, ⟨_, rfl, .refl _⟩, ⟨_, rfl, .refl _⟩, ⟨_, rfl, .refl _⟩, ⟨_, rfl, .refl _⟩, ⟨_, rfl, .refl _⟩, ⟨_, rfl, .of (by rw [← e1]; rfl)⟩, ⟨_, rfl, .of (by rw [List.length_map, ← hget]; rfl)⟩, ⟨_, rfl, .refl _⟩, trivial⟩
      · rintro ⟨k, H⟩ ⟨hk, hH, htH⟩ ihk
        simp only at hk hH htH ⊢
        refine sat_branch tabOk Tryd.func89 rfl trivial (fun hb2 => ?_) (fun hb2 => ?_) <;> simp only [decide_eq_true_eq, decide_eq_false_iff_not] at hb2
        · have hltk : k < c.length := by omega
          have hgetk : c.getD k 0 = c[k] := by simp [hltk]
          rw [List.drop_eq_getElem_cons hltk, gatherC, List.foldl_cons] at hH
          have hx := hlc _ (List.getElem_mem hltk)
          generalize hxx : c[k] = x at *
          obtain ⟨x0, x1, x2⟩ := hx
          have w2 : IntKind.i64.wrap (0 - x) = -x := by rw [wrap_id (by omega) (by omega), Int.zero_sub]
          refine sat_goto tabOk Tryd.func89 rfl ?_ ?_
          · simp only [Int.toNat_natCast, List.length_map]; exact ⟨⟨by omega, by omega⟩, trivial⟩
          refine sat_view (t := 45) (b := vI .i64 (-x)) rfl (.of (by show vI .i64 (IntKind.i64.wrap (0 - c.getD k 0)) = _; rw [hgetk, w2])) ?_
          refine sat_view (t := 42) (b := vI .i64 (-x)) rfl (.of (by show vI .i64 (IntKind.i64.wrap (0 - c.getD k 0)) = _; rw [hgetk, w2])) ?_
          have hgt := gget_le (-x) H
          have next : ASat Tryd.prog 89 Tryd.f89.ntmps C _ _ _ _ := ihk (k + 1, gadd (-x) i H) ⟨by omega, hH, by rw [gtot_gadd]; omega⟩ (by omega)
          cases hp : gpos (-x) H with
          | none =>
            have hfind := esOf_find (-x) 3 H
            rw [hp] at hfind
            refine sat_lookup (a := none) tabOk rfl rfl rfl rfl rfl rfl rfl rfl rfl rfl rfl (esOf_keys 3 H) hfind rfl ?_
            refine sat_goto tabOk Tryd.func89 rfl ?_ ?_
            · exact ⟨by show 1 * 8 ≤ 140737488355328; omega, trivial⟩
            refine sat_update tabOk rfl rfl rfl rfl rfl rfl rfl rfl rfl rfl rfl rfl (esOf_keys 3 H) (esOf_put_new 3 H _ hp) ?_
            refine sat_stop tabOk Tryd.func89 rfl trivial ?_
            have e3 : IntKind.i64.wrap ((k : Int) + 1) = ((k + 1 : Nat) : Int) := wrap_id (by omega) (by omega)
            refine sat_le next hC hCl ?_ ?_ rfl (gO_refs _ _) (Nat.zero_le _)
            · exact ⟨⟨_, rfl, .refl _⟩, ⟨_, rfl, .refl _⟩, ⟨_, rfl, .refl _⟩, ⟨_, rfl, .refl _⟩, ⟨_, rfl, .refl _⟩, ⟨_, rfl, .refl _⟩, ⟨_, rfl, .refl _⟩, ⟨_, rfl, .refl _⟩, ⟨_, rfl, .refl _⟩, ⟨_, rfl, .refl _⟩, ⟨_, rfl, .refl _⟩, ⟨_, rfl, .of (by rw [e3])⟩, trivial⟩
            · rw [gpos_none hp]
              simp only [gO]
              rw [tailOf_app, esOf_app]
              refine ⟨.refl _, .refl _, .of ?_, ?_⟩
              · show AObj.map (esOf 3 H ++ [(.int .i64 (-x), .gs ((tailOf 3 H).length + 1 + 1 + 1))]) = _
                rw [tailOf_len]
              · exact subO_snoc (.gL rfl) _
          | some p =>
            have hfind := esOf_find (-x) 3 H
            rw [hp] at hfind
            refine sat_lookup (a := some (.gs (p + 3))) tabOk rfl rfl rfl rfl rfl rfl rfl rfl rfl rfl rfl (esOf_keys 3 H) hfind rfl ?_
            refine sat_steps 2 tabOk Tryd.func89 rfl trivial ?_
            have hobj : objAt (gO (List.replicate (n + 1).toNat 0) H) (p + 3) = some (gL 3 1 eI 0 (gget (-x) H)) := by
              show (match nth (tailOf 3 H) p with | some (some o) => some o | _ => none) = _
              rw [tailOf_nth, gpos_get hp]
              rfl
            have hap := eAppend_gs (T := tab) (t := 33) (t2 := 33) (x := .d (.sl 1 [.v (.int .i64 i)] (litRd [.v (.int .i64 i)]))) rfl rfl rfl rfl rfl rfl rfl hobj rfl
            refine sat_estep _ tabOk rfl rfl hap ?_ rfl ?_
            · show ((List.map eI (gget (-x) H)).length + 1) * 8 ≤ 140737488355328
              rw [List.length_map]
              omega
            refine sat_update tabOk rfl rfl rfl rfl rfl rfl rfl rfl rfl rfl rfl rfl (by rw [dropEs_keys]; exact esOf_keys 3 H) (esOf_put (i := i) 3 hp) ?_
            refine sat_stop tabOk Tryd.func89 rfl trivial ?_
            have e3 : IntKind.i64.wrap ((k : Int) + 1) = ((k + 1 : Nat) : Int) := wrap_id (by omega) (by omega)
            refine sat_le next hC hCl ?_ ?_ rfl (gO_refs _ _) (Nat.zero_le _)
            · exact ⟨⟨_, rfl, .refl _⟩, ⟨_, rfl, .refl _⟩, ⟨_, rfl, .refl _⟩, ⟨_, rfl, .refl _⟩, ⟨_, rfl, .refl _⟩, ⟨_, rfl, .refl _⟩, ⟨_, rfl, .refl _⟩, ⟨_, rfl, .refl _⟩, ⟨_, rfl, .refl _⟩, ⟨_, rfl, .refl _⟩, ⟨_, rfl, .refl _⟩, ⟨_, rfl, .of (by rw [e3])⟩, trivial⟩
            · refine ⟨.refl _, .refl _, .refl _, ?_⟩
              show subO (tailOf 3 (gadd (-x) i H)) (setNth (dropO (p + 3) (tailOf 3 H)) p _)
              rw [tailOf_drop, gadd_set hp, ← tailOf_set]
              exact subO_set (.gL (by rw [List.map_append]; rfl)) _ _
        · obtain rfl : k = c.length := by omega
          rw [List.drop_length] at hH
          have hH : H = gatherC i c G := hH
          subst hH
          refine sat_stop tabOk Tryd.func89 rfl trivial ?_
          have e3 : IntKind.i64.wrap ((i : Int) + 1) = ((i + 1 : Nat) : Int) := wrap_id (by omega) (by omega)
          refine sat_le (ih (i + 1, gatherC i c G) ⟨by omega, hG, by rw [Nat.sub_self, Nat.add_zero] at htH; exact htH⟩ (by omega)) hC hCl ?_ (subO_refl _) rfl (gO_refs _ _) (Nat.zero_le _)
          exact ⟨⟨_, rfl, .refl _⟩, ⟨_, rfl, .refl _⟩, ⟨_, rfl, .refl _⟩, ⟨_, rfl, .refl _⟩, ⟨_, rfl, .refl _⟩, ⟨_, rfl, .refl _⟩, ⟨_, rfl, .refl _⟩, ⟨_, rfl, .of (by rw [e3])⟩, trivial⟩
    · obtain rfl : i = l.length := by omega
      rw [List.drop_length] at hG
      have hG : G = gatherL l 0 [] := hG
      refine sat_stop tabOk Tryd.func89 rfl trivial ?_
      refine asat_le (env' := [(0, vI .i64 n), (1, .d (eIss l)), (2, .d (eIs a)), (8, .ptr 1 0), (9, .mp 2), (52, .d (eIs a)), (53, vI .i64 a.length), (54, vI .i64 0)]) (objs' := gO (List.replicate (n + 1).toNat 0) G) ?_ (subO_refl _) rfl (gO_refs _ _) (by rw [hC]; exact Nat.zero_le _) hCl ?_
      · exact ⟨⟨_, rfl, .refl _⟩, ⟨_, rfl, .refl _⟩, ⟨_, rfl, .refl _⟩, ⟨_, rfl, .refl _⟩, ⟨_, rfl, .refl _⟩, ⟨_, rfl, .refl _⟩, ⟨_, rfl, .of (by rw [List.length_map])⟩, ⟨_, rfl, .refl _⟩, trivial⟩
      refine sat_gathered (fun _ _ => rfl) (fun _ _ => rfl) (fun _ _ => rfl) ?_
      refine asat_le (env' := [(0, vI .i64 n), (1, .d (eIss l)), (2, .d (eIs a)), (8, .ptr 1 0), (9, .mp 2), (52, .d (eIs a)), (53, vI .i64 a.length), (54, vI .i64 0)]) (objs' := [some (gIs (List.replicate (n + 1).toNat 0)), some (.cells 142 [.gs 0, .d (.v (.slice none 0 0)), vB false]), some (.map (esD G))]) ?_ ⟨.refl _, .refl _, .refl _, trivial⟩ rfl ?_ (by rw [hC]; exact Nat.zero_le _) hCl ?_
      · exact ⟨⟨_, rfl, .refl _⟩, ⟨_, rfl, .refl _⟩, ⟨_, rfl, .refl _⟩, ⟨_, rfl, .refl _⟩, ⟨_, rfl, .refl _⟩, ⟨_, rfl, .refl _⟩, ⟨_, rfl, .refl _⟩, ⟨_, rfl, .refl _⟩, trivial⟩
      · simp only [refsO, gL, refsO1, refsBs, refsB, esD_refs]; rfl
      refine sat_ownCell (e' := 3) (s := 1) 1 1 (fun i => eI (([] : List Int).getD i 0)) rfl rfl ?_
      have v0 : WkV n ⟨List.replicate (n + 1).toNat 0, [], false⟩ := ⟨by simp, by simp⟩
      generalize hs0 : (⟨List.replicate (n + 1).toNat 0, [], false⟩ : Wk) = s0 at v0
      refine sat_while (α := Nat × Wk) (fun s => [(0, vI .i64 n), (1, .d (eIss l)), (2, .d (eIs a)), (8, .ptr 1 0), (9, .mp 2), (52, .d (eIs a)), (53, vI .i64 a.length), (54, vI .i64 s.1)]) (fun s => stO s.2 G)
        (fun s => s.1 ≤ a.length ∧ (a.drop s.1).foldl forceW s.2 = a.foldl forceW s0 ∧ WkV n s.2) (fun s => a.length - s.1) (0, s0) ⟨Nat.zero_le _, rfl, v0⟩ ?_ ?_
      · refine fun h => sat_le h hC hCl ?_ ?_ rfl (stO_refs _ _) (Nat.zero_le _)
        · exact ⟨⟨_, rfl, .refl _⟩, ⟨_, rfl, .refl _⟩, ⟨_, rfl, .refl _⟩, ⟨_, rfl, .refl _⟩, ⟨_, rfl, .refl _⟩, ⟨_, rfl, .refl _⟩, ⟨_, rfl, .refl _⟩, ⟨_, rfl, .refl _⟩, trivial⟩
        · rw [← hs0]
          exact ⟨.refl _, .refl _, .refl _, .refl _, trivial⟩
      · rintro ⟨j, s⟩ ⟨hj, hs, hv⟩ ihj
        simp only at hj hs hv ⊢
        have hql : s.queue.length ≤ 1000000 := by have := hv.sz; omega
        refine sat_branch tabOk Tryd.func89 rfl trivial (fun hb => ?_) (fun hb => ?_) <;> simp only [decide_eq_true_eq, decide_eq_false_iff_not] at hb
        · have hlt : j < a.length := by omega
          have hget : a.getD j 0 = a[j] := by simp [hlt]
          rw [List.drop_eq_getElem_cons hlt, List.foldl_cons] at hs
          have hx := ha _ (List.getElem_mem hlt)
          generalize hxx : a[j] = x at *
          refine sat_callG [1, 0, 3] tabOk Tryd.func89 rfl ?_ (force_call s x (by rw [hv.len]; exact va_lt hx) (by obtain ⟨x0, x1, x2⟩ := hx; omega) hql) ⟨⟨_, rfl, .refl _⟩, ⟨_, rfl, .refl _⟩, ⟨_, rfl, .refl _⟩, trivial⟩ ⟨.refl _, .of (by show vI .i64 (a.getD j 0) = vI .i64 x; rw [hget]), trivial⟩ rfl rfl rfl ⟨_, rfl⟩ ?_
          · simp only [Int.toNat_natCast, List.length_map]; exact ⟨⟨by omega, by omega⟩, trivial⟩
          rintro r o ⟨rfl, rfl⟩
          refine sat_stop tabOk Tryd.func89 rfl trivial ?_
          have e3 : IntKind.i64.wrap ((j : Int) + 1) = ((j + 1 : Nat) : Int) := wrap_id (by omega) (by omega)
          refine sat_le (ihj (j + 1, forceW s x) ⟨by omega, hs, forceW_V hx hv⟩ (by omega)) hC hCl ?_ ?_ rfl (stO_refs _ _) (Nat.zero_le _)
          · exact ⟨⟨_, rfl, .refl _⟩, ⟨_, rfl, .refl _⟩, ⟨_, rfl, .refl _⟩, ⟨_, rfl, .refl _⟩, ⟨_, rfl, .refl _⟩, ⟨_, rfl, .refl _⟩, ⟨_, rfl, .refl _⟩, ⟨_, rfl, .of (by rw [e3])⟩, trivial⟩
          · exact ⟨.refl _, .refl _, OLe.esD _ _, .refl _, trivial⟩
        · obtain rfl : j = a.length := by omega
          rw [List.drop_length, List.foldl_nil] at hs
          refine sat_stop tabOk Tryd.func89 rfl trivial ?_
          refine sat_while (α := Nat × Wk) (fun s => [(0, vI .i64 n), (1, .d (eIss l)), (8, .ptr 1 0), (9, .mp 2), (62, .d (eIss l)), (63, vI .i64 l.length), (64, vI .i64 s.1)]) (fun s => stO s.2 G)
            (fun t => t.1 ≤ l.length ∧ (l.drop t.1).foldl lookW t.2 = l.foldl lookW s ∧ WkV n t.2) (fun s => l.length - s.1) (0, s) ⟨Nat.zero_le _, rfl, hv⟩ ?_ ?_
          · refine fun h => sat_le h hC hCl ?_ ⟨.refl _, .refl _, .refl _, .refl _, trivial⟩ rfl (stO_refs _ _) (Nat.zero_le _)
            exact ⟨⟨_, rfl, .refl _⟩, ⟨_, rfl, .refl _⟩, ⟨_, rfl, .refl _⟩, ⟨_, rfl, .refl _⟩, ⟨_, rfl, .refl _⟩, ⟨_, rfl, .of (by rw [List.length_map])⟩, ⟨_, rfl, .refl _⟩, trivial⟩
          rintro ⟨j, t⟩ ⟨hj, ht, htv⟩ ihj
          simp only at hj ht htv ⊢
          have hql : t.queue.length ≤ 1000000 := by have := htv.sz; omega
          refine sat_branch tabOk Tryd.func89 rfl trivial (fun hb => ?_) (fun hb => ?_) <;> simp only [decide_eq_true_eq, decide_eq_false_iff_not] at hb
          · have hlt : j < l.length := by omega
            have hget : l.getD j [] = l[j] := by simp [hlt]
            rw [List.drop_eq_getElem_cons hlt, List.foldl_cons] at ht
            have hx := hl _ (List.getElem_mem hlt)
            generalize hxx : l[j] = c at *
            refine sat_callG [1, 0, 3] tabOk Tryd.func89 rfl ?_ (look_call t c (fun x hm => ⟨by rw [htv.len]; exact va_lt (hx x hm), by obtain ⟨x0, x1, x2⟩ := hx x hm; omega⟩) hql) ⟨⟨_, rfl, .refl _⟩, ⟨_, rfl, .refl _⟩, ⟨_, rfl, .refl _⟩, trivial⟩ ⟨.refl _, .of (by show AV.d (eIs (l.getD j [])) = AV.d (eIs c); rw [hget]), trivial⟩ rfl rfl rfl ⟨_, rfl⟩ ?_
            · simp only [Int.toNat_natCast, List.length_map]; exact ⟨⟨by omega, by omega⟩, trivial⟩
            rintro r o ⟨rfl, rfl⟩
            refine sat_stop tabOk Tryd.func89 rfl trivial ?_
            have e3 : IntKind.i64.wrap ((j : Int) + 1) = ((j + 1 : Nat) : Int) := wrap_id (by omega) (by omega)
            refine sat_le (ihj (j + 1, lookW t c) ⟨by omega, ht, lookW_V hx htv⟩ (by omega)) hC hCl ?_ ⟨.refl _, .refl _, OLe.esD _ _, .refl _, trivial⟩ rfl (stO_refs _ _) (Nat.zero_le _)
            exact ⟨⟨_, rfl, .refl _⟩, ⟨_, rfl, .refl _⟩, ⟨_, rfl, .refl _⟩, ⟨_, rfl, .refl _⟩, ⟨_, rfl, .refl _⟩, ⟨_, rfl, .refl _⟩, ⟨_, rfl, .of (by rw [e3])⟩, trivial⟩
          obtain rfl : j = l.length := by omega
          rw [List.drop_length, List.foldl_nil] at ht
          have hfirst : t = firstW n l a := by rw [ht, hs, ← hs0]; rfl
          refine sat_stop tabOk Tryd.func89 rfl trivial ?_
          refine sat_while (α := Wk) (fun s => [(0, vI .i64 n), (1, .d (eIss l)), (8, .ptr 1 0), (9, .mp 2)]) (fun s => stO s G)
            (fun u => Star l G (firstW n l a) u ∧ WkV n u) (fun u => u.queue.length + u.forced.count 0) t ⟨hfirst ▸ .refl, htv⟩ ?_ ?_
          · refine fun h => sat_le h hC hCl ?_ ⟨.refl _, .refl _, .refl _, .refl _, trivial⟩ rfl (stO_refs _ _) (Nat.zero_le _)
            exact ⟨⟨_, rfl, .refl _⟩, ⟨_, rfl, .refl _⟩, ⟨_, rfl, .refl _⟩, ⟨_, rfl, .refl _⟩, trivial⟩
          rintro u ⟨hstar, huv⟩ ihu
          refine sat_branch tabOk Tryd.func89 rfl trivial (fun hb => ?_) (fun hb => ?_)
          · have hpos : 0 < u.queue.length := by simpa using hb
            refine sat_branch tabOk Tryd.func89 rfl trivial (fun hb2 => ?_) (fun hb2 => ?_)
            · have hclash : u.clash = false := by simpa using hb2
              obtain ⟨uf, uq, uc⟩ := u
              cases uq with
              | nil => simp at hpos
              | cons x q =>
              simp only at hclash huv hstar ihu ⊢
              refine sat_goto tabOk Tryd.func89 rfl ?_ ?_
              · simp only [andP, List.map_cons, List.length_cons, List.length_map]
                exact ⟨by omega, by show 0 < _; omega, ⟨by omega, by omega⟩, trivial⟩
              have hfind := esD_find x G
              refine sat_lookupV (b := .d (eIs (gget x G))) tabOk rfl rfl rfl rfl rfl rfl rfl rfl rfl (es := esD G) ?_ rfl (esD_keys G) hfind ?_ rfl ?_
              · show some (some (AObj.map (dropEs 3 (esD G)))) = _
                rw [esD_dropE]
              · cases hp : gpos x G with
                | none => rw [gpos_gget hp]; exact .nil
                | some p => exact .refl _
              refine sat_stop tabOk Tryd.func89 rfl trivial ?_
              have hidx : ∀ i ∈ gget x G, 0 ≤ i ∧ i < l.length := by
                intro i hi
                rw [hG, gget_gatherL, gget, List.nil_append] at hi
                obtain ⟨j, h1, h2, _⟩ := idxs_mem.1 hi
                omega
              have hv1 : WkV n ⟨uf, q, uc⟩ := ⟨huv.len, by have := huv.sz; simp only [List.length_cons] at this ⊢; omega⟩
              have hglen : (gget x G).length ≤ 1000000 := by have := gget_le x G; omega
              refine sat_while (α := Nat × Wk) (fun s => [(0, vI .i64 n), (1, .d (eIss l)), (8, .ptr 1 0), (9, .mp 2), (101, .d (eIs (gget x G))), (102, vI .i64 (gget x G).length), (103, vI .i64 s.1)]) (fun s => stO s.2 G)
                (fun t => t.1 ≤ (gget x G).length ∧ ((gget x G).drop t.1).foldl (lookAt l) t.2 = popW l G ⟨uf, x :: q, uc⟩ x q ∧ WkV n t.2 ∧ muW t.2 = muW ⟨uf, q, uc⟩) (fun s => (gget x G).length - s.1) (0, ⟨uf, q, uc⟩) ⟨Nat.zero_le _, rfl, hv1, rfl⟩ ?_ ?_
              · refine fun h => sat_le h hC hCl ?_ ?_ rfl (stO_refs _ _) (Nat.zero_le _)
                · exact ⟨⟨_, rfl, .refl _⟩, ⟨_, rfl, .refl _⟩, ⟨_, rfl, .refl _⟩, ⟨_, rfl, .refl _⟩, ⟨_, rfl, .refl _⟩, ⟨_, rfl, .of (by rw [List.length_map])⟩, ⟨_, rfl, .refl _⟩, trivial⟩
                · refine ⟨.refl _, .refl _, .of ?_, .gL ?_, trivial⟩
                  · show AObj.map (dropEs 3 (esD G)) = _
                    rw [esD_dropE]
                  · simp only [List.map_cons, List.length_cons, List.length_map, Int.toNat_one, List.drop_one, List.tail_cons]
                    exact List.take_of_length_le (by simp)
              rintro ⟨j, t⟩ ⟨hj, ht, htv, htm⟩ ihj
              simp only at hj ht htv htm ⊢
              have hql : t.queue.length ≤ 1000000 := by have := htv.sz; omega
              refine sat_branch tabOk Tryd.func89 rfl trivial (fun hb => ?_) (fun hb => ?_) <;> simp only [decide_eq_true_eq, decide_eq_false_iff_not] at hb
              · have hlt : j < (gget x G).length := by omega
                have hget : (gget x G).getD j 0 = (gget x G)[j] := by simp [hlt]
                rw [List.drop_eq_getElem_cons hlt, List.foldl_cons] at ht
                have hid := hidx _ (List.getElem_mem hlt)
                generalize hxx : (gget x G)[j] = i at *
                have hlc : ∀ y ∈ l.getD i.toNat [], litOk n y := by
                  have hlt : i.toNat < l.length := by omega
                  have : l.getD i.toNat [] = l[i.toNat] := by simp [hlt]
                  rw [this]
                  exact hl _ (List.getElem_mem hlt)
                refine sat_callG [1, 0, 3] tabOk Tryd.func89 rfl ?_ (look_call t (l.getD i.toNat []) (fun y hm => ⟨by rw [htv.len]; exact va_lt (hlc y hm), by obtain ⟨x0, x1, x2⟩ := hlc y hm; omega⟩) hql) ⟨⟨_, rfl, .refl _⟩, ⟨_, rfl, .refl _⟩, ⟨_, rfl, .refl _⟩, trivial⟩ ⟨.refl _, .of (by show AV.d (eIs (l.getD ((gget x G).getD j 0).toNat [])) = AV.d (eIs (l.getD i.toNat [])); rw [hget]), trivial⟩ rfl rfl rfl ⟨_, rfl⟩ ?_
                · simp only [Int.toNat_natCast, hget, List.length_map]
                  exact ⟨⟨hid.1, hid.2⟩, ⟨by omega, by omega⟩, trivial⟩
                rintro r o ⟨rfl, rfl⟩
                refine sat_stop tabOk Tryd.func89 rfl trivial ?_
                have e3 : IntKind.i64.wrap ((j : Int) + 1) = ((j + 1 : Nat) : Int) := wrap_id (by omega) (by omega)
                refine sat_le (ihj (j + 1, lookW t (l.getD i.toNat [])) ⟨by omega, ht, lookW_V hlc htv, (lookW_mu hlc htv).trans htm⟩ (by omega)) hC hCl ?_ ⟨.refl _, .refl _, OLe.esD _ _, .refl _, trivial⟩ rfl (stO_refs _ _) (Nat.zero_le _)
                exact ⟨⟨_, rfl, .refl _⟩, ⟨_, rfl, .refl _⟩, ⟨_, rfl, .refl _⟩, ⟨_, rfl, .refl _⟩, ⟨_, rfl, .refl _⟩, ⟨_, rfl, .refl _⟩, ⟨_, rfl, .of (by rw [e3])⟩, trivial⟩
              · obtain rfl : j = (gget x G).length := by omega
                rw [List.drop_length, List.foldl_nil] at ht
                refine sat_stop tabOk Tryd.func89 rfl trivial ?_
                refine sat_le (ihu t ⟨?_, htv⟩ ?_) hC hCl ?_ ⟨.refl _, .refl _, .refl _, .refl _, trivial⟩ rfl (stO_refs _ _) (Nat.zero_le _)
                · rw [ht]
                  exact .step hstar hclash rfl
                · have htm2 : t.queue.length + t.forced.count 0 = q.length + uf.count 0 := htm
                  show t.queue.length + t.forced.count 0 < (q.length + 1) + uf.count 0
                  omega
                · exact ⟨⟨_, rfl, .refl _⟩, ⟨_, rfl, .refl _⟩, ⟨_, rfl, .refl _⟩, ⟨_, rfl, .refl _⟩, trivial⟩
            · have hstar' := hG ▸ hstar
              have hc2 : u.clash = true := by simpa using hb2
              refine sat_branch tabOk Tryd.func89 rfl trivial (fun hc => ?_) (fun hc => ?_)
              · refine sat_ret tabOk Tryd.func89 rfl trivial ⟨u, ⟨hstar', .inr hc2⟩, huv, ?_⟩
                show AV.tp [_, _] = closeEnd u
                rw [closeEnd, if_pos hc]
              · refine sat_callG [0] tabOk Tryd.func89 rfl trivial (hdel u.forced (by intro e; have := huv.len; rw [e] at this; simp at this; omega)) ⟨⟨_, rfl, .refl _⟩, trivial⟩ (.refl _) rfl rfl rfl ⟨_, rfl⟩ ?_
                rintro r o ⟨rfl, rfl⟩
                refine sat_freeze 0 rfl ?_
                refine sat_ret tabOk Tryd.func89 rfl trivial ⟨u, ⟨hstar', .inr hc2⟩, huv, ?_⟩
                rw [closeEnd, if_neg (by rw [hc]; decide)]
                rfl
          · have hstar' := hG ▸ hstar
            have hq : u.queue = [] := by
              have : ¬ 0 < u.queue.length := by simpa using hb
              exact List.length_eq_zero_iff.1 (by omega)
            refine sat_branch tabOk Tryd.func89 rfl trivial (fun h4 => by cases h4) (fun _ => ?_)
            refine sat_branch tabOk Tryd.func89 rfl trivial (fun hc => ?_) (fun hc => ?_)
            · refine sat_ret tabOk Tryd.func89 rfl trivial ⟨u, ⟨hstar', .inl hq⟩, huv, ?_⟩
              show AV.tp [_, _] = closeEnd u
              rw [closeEnd, if_pos hc]
            · refine sat_callG [0] tabOk Tryd.func89 rfl trivial (hdel u.forced (by intro e; have := huv.len; rw [e] at this; simp at this; omega)) ⟨⟨_, rfl, .refl _⟩, trivial⟩ (.refl _) rfl rfl rfl ⟨_, rfl⟩ ?_
              rintro r o ⟨rfl, rfl⟩
              refine sat_freeze 0 rfl ?_
              refine sat_ret tabOk Tryd.func89 rfl trivial ⟨u, ⟨hstar', .inl hq⟩, huv, ?_⟩
              rw [closeEnd, if_neg (by rw [hc]; decide)]
              rfl
end Go.Proofs.YtffomfbbplpljaaDoor
