/- The rest of a call, from a place in the middle of its function: 'Sat'; the machine's steps. -/
import Derived.Test.YtdnpkeahgpbkoaaAb2
import Derived.Deep.Quiet
namespace Ab
open Go

def fr0 (f : FuncId) : Frame := { (default : Frame) with fn := f, kind := .normal }

/-- From here on the function ends, as R says. -/
def Sat (P : Program) (f : FuncId) (todo : List Item) (tmps : Array Value) (w : World) (R : Ending → World → Prop) : Prop :=
  ∀ cs, ∃ e w' fr, R e w' ∧ Comes P (lone ((fr0 f).at ⟨tmps, []⟩ todo) cs w) (lone fr cs w') e ∧ fr.fn = f ∧ fr.leaving P w' e

section
variable {P : Program} {f : FuncId} {todo todo' k : List Item} {tmps tmps' : Array Value} {w w' : World} {R : Ending → World → Prop}

theorem Sat.step (h : ∀ cs, step P (lone ((fr0 f).at ⟨tmps, []⟩ todo) cs w) = .next (lone ((fr0 f).at ⟨tmps', []⟩ todo') cs w')) (k : Sat P f todo' tmps' w' R) : Sat P f todo tmps w R := by
  intro cs
  obtain ⟨e, w2, fr, hR, hc, hf, hl⟩ := k cs
  exact ⟨e, w2, fr, hR, Comes.of_steps (.one (h cs)) hc, hf, hl⟩

theorem Sat.skip (h : Sat P f k tmps w R) : Sat P f (.code .skip :: k) tmps w R := .step (fun _ => step_skip) h
theorem Sat.label {l : Nat} (h : Sat P f k tmps w R) : Sat P f (.code (.label l) :: k) tmps w R := .step (fun _ => step_label) h
theorem Sat.inBlock {id : Nat} (h : Sat P f k tmps w R) : Sat P f (.inBlock id :: k) tmps w R := .step (fun _ => step_inBlock) h
theorem Sat.inScope {c : Code} (h : Sat P f k tmps w R) : Sat P f (.inScope c :: k) tmps w R := .step (fun _ => step_inScope) h
theorem Sat.seq {x y : Code} (h : Sat P f (.code x :: .code y :: k) tmps w R) : Sat P f (.code (.seq x y) :: k) tmps w R := .step (fun _ => step_seq) h
theorem Sat.block {id : Nat} {c : Code} (h : Sat P f (.code c :: .inBlock id :: k) tmps w R) : Sat P f (.code (.block id c) :: k) tmps w R := .step (fun _ => step_block) h
theorem Sat.scope {c : Code} (h : Sat P f (.code c :: .inScope c :: k) tmps w R) : Sat P f (.code (.scope c) :: k) tmps w R := .step (fun _ => step_scope) h
theorem Sat.loop {c : Code} (h : Sat P f (.code c :: .inLoop c :: k) tmps w R) : Sat P f (.code (.loop c) :: k) tmps w R := .step (fun _ => step_loop) h
theorem Sat.inLoop {c : Code} (h : Sat P f (.code c :: .inLoop c :: k) tmps w R) : Sat P f (.inLoop c :: k) tmps w R := .step (fun _ => step_inLoop) h
theorem Sat.exit {id : Nat} {k' : List Item} (hk : exitTo id k = some k') (h : Sat P f k' tmps w R) : Sat P f (.code (.exit id) :: k) tmps w R := .step (fun _ => step_exit hk) h
theorem Sat.goto {l : Nat} {k' : List Item} (hk : gotoIn l k = some k') (h : Sat P f k' tmps w R) : Sat P f (.code (.goto l) :: k) tmps w R := .step (fun _ => step_goto hk) h
theorem Sat.cond {c : Operand} {x y : Code} {t : Bool} (hc : (Act.eval ⟨tmps, []⟩ c) = .bool t) (h : Sat P f (.code (if t then x else y) :: k) tmps w R) : Sat P f (.code (.cond c x y) :: k) tmps w R := .step (fun _ => step_cond hc) h
theorem Sat.region {id : Nat} {ops : Array Oper} (h : Sat P f (.inRegion ops (List.range ops.size) :: k) tmps w R) : Sat P f (.code (.region id ops false) :: k) tmps w R := .step (fun _ => step_region) h
theorem Sat.regionEnd {ops : Array Oper} (h : Sat P f k tmps w R) : Sat P f (.inRegion ops [] :: k) tmps w R := .step (fun _ => step_region_end) h

def putT (dst : Option Tmp) (v : Value) (tmps : Array Value) : Array Value :=
  match dst with
  | some d => tmps.setIfInBounds d v
  | none => tmps
theorem put_eq (dst : Option Tmp) (v : Value) (tmps : Array Value) (ds : List Deferred) : Act.put ⟨tmps, ds⟩ dst v = ⟨putT dst v tmps, ds⟩ := by cases dst <;> rfl

theorem Sat.opSkip {ops : Array Oper} {i : Nat} {rest : List Nat} {o : Oper} (ho : ops[i]? = some o) (hw : Region.wanted o (yielded ops tmps) = false)
    (h : Sat P f (.inRegion ops rest :: k) (putT o.dst undef tmps) w R) : Sat P f (.inRegion ops (i :: rest) :: k) tmps w R := by
  refine .step (fun cs => ?_) h
  have hs := step_op_skip (P := P) (b := fr0 f) (a := ⟨tmps, []⟩) (k := k) (cs := cs) (w := w) (ops := ops) (i := i) (rest := rest) (by simp [ho, hw])
  simpa [ho, put_eq] using hs

theorem Sat.opVal {ops : Array Oper} {i : Nat} {rest : List Nat} {o : Oper} {v : Value} (ho : ops[i]? = some o) (hw : Region.wanted o (yielded ops tmps) = true)
    (hr : (execOp (Act.eval ⟨tmps, []⟩) o).run P w = .ok (.value v) w') (h : Sat P f (.inRegion ops rest :: k) (putT o.dst v tmps) w' R) : Sat P f (.inRegion ops (i :: rest) :: k) tmps w R := by
  refine .step (fun cs => ?_) h
  have hg := stepG_op (P := P) (b := fr0 f) (a := ⟨tmps, []⟩) (k := k) (cs := cs) (w := w) (rest := rest) ho hw
  have hfin := Frame.finish_at (fr0 f) ⟨tmps, []⟩ ops i rest k v
  rw [ho] at hfin
  simp only [Option.bind_some, put_eq] at hfin
  exact step_lone_go (by rw [hg, ← hfin]; simp [stepG.apply, hr])

theorem Sat.opUnit {ops : Array Oper} {i : Nat} {rest : List Nat} {o : Oper} (ho : ops[i]? = some o) (hw : Region.wanted o (yielded ops tmps) = true)
    (hr : (execOp (Act.eval ⟨tmps, []⟩) o).run P w = .ok .skip w') (h : Sat P f (.inRegion ops rest :: k) (putT o.dst undef tmps) w' R) : Sat P f (.inRegion ops (i :: rest) :: k) tmps w R := by
  refine .step (fun cs => ?_) h
  have hg := stepG_op (P := P) (b := fr0 f) (a := ⟨tmps, []⟩) (k := k) (cs := cs) (w := w) (rest := rest) ho hw
  have hfin := Frame.finish_at (fr0 f) ⟨tmps, []⟩ ops i rest k undef
  rw [ho] at hfin
  simp only [Option.bind_some, put_eq] at hfin
  exact step_lone_go (by rw [hg, ← hfin]; simp [stepG.apply, hr])

theorem Sat.opCall {ops : Array Oper} {i : Nat} {rest : List Nat} {o : Oper} {g : FuncId} {args : Array Value} (ho : ops[i]? = some o) (hw : Region.wanted o (yielded ops tmps) = true)
    (hr : (execOp (Act.eval ⟨tmps, []⟩) o).run P w = .ok (.enter g args) w') (h : Calls P g args w' fun e w2 => ∃ v, e = .returned v ∧ Sat P f (.inRegion ops rest :: k) (putT o.dst v tmps) w2 R) :
    Sat P f (.inRegion ops (i :: rest) :: k) tmps w R := by
  intro cs
  have hg := stepG_op (P := P) (b := fr0 f) (a := ⟨tmps, []⟩) (k := k) (cs := cs) (w := w) (rest := rest) ho hw
  obtain ⟨e, w2, fr, ⟨v, rfl, hR⟩, hsteps, _, hleave⟩ := h ((fr0 f).at ⟨tmps, []⟩ (.inRegion ops (i :: rest) :: k) :: cs)
  have henter : Go.step P (lone ((fr0 f).at ⟨tmps, []⟩ (.inRegion ops (i :: rest) :: k)) cs w) =
      .next (lone (Frame.enter P g args .normal) ((fr0 f).at ⟨tmps, []⟩ (.inRegion ops (i :: rest) :: k) :: cs) w') :=
    step_lone_go (by rw [hg]; simp [stepG.apply, hr, Frame.at])
  have hfin := Frame.finish_at (fr0 f) ⟨tmps, []⟩ ops i rest k v
  rw [ho] at hfin
  simp only [Option.bind_some, put_eq] at hfin
  obtain ⟨e, w3, fr2, hR, hc, hf, hl⟩ := hR cs
  refine ⟨e, w3, fr2, hR, Comes.of_steps (.head henter (Steps.trans hsteps (.one ?_))) hc, hf, hl⟩
  rw [← hfin]
  exact step_leave_returned hleave

/-- A piece of code by its wp, where nothing but its end is come to. -/
theorem Sat.ofWp {c : Code} (h : c.wp P (fun e a w' => e = .normal ∧ ∃ t, a = ⟨t, []⟩ ∧ Sat P f k t w' R) ⟨tmps, []⟩ w) : Sat P f (.code c :: k) tmps w R := by
  intro cs
  obtain ⟨e, a, w1, ⟨rfl, t, rfl, hs⟩, harr⟩ := h (fr0 f) k cs
  obtain ⟨e, w3, fr2, hR, hc, hf, hl⟩ := hs cs
  exact ⟨e, w3, fr2, hR, Comes.of_steps harr hc, hf, hl⟩

theorem Sat.ret {fn : Func} {v : Value} (hfn : P.funcs[f]? = some fn) (hr : (results fn tmps).run P w = .ok v w) (hR : R (.returned v) w) : Sat P f (.code .ret :: k) tmps w R := by
  intro cs
  exact ⟨.returned v, w, _, hR, .one step_ret, rfl, rfl, rfl, rfl, fn, hfn, hr⟩
theorem Sat.end_ {fn : Func} {v : Value} (hfn : P.funcs[f]? = some fn) (hr : (results fn tmps).run P w = .ok v w) (hR : R (.returned v) w) : Sat P f [] tmps w R := by
  intro cs
  exact ⟨.returned v, w, _, hR, .one step_end, rfl, rfl, rfl, rfl, fn, hfn, hr⟩

theorem calls_of_sat {fn : Func} {c : Code} {args : Array Value} (hf : P.funcs[f]? = some fn) (hb : fn.body = some c)
    (h : Sat P f [.code c] (args ++ Array.replicate (fn.ntmps - args.size) undef) w R) : Calls P f args w R := by
  intro cs
  have henter : Frame.enter P f args .normal = (fr0 f).at ⟨args ++ Array.replicate (fn.ntmps - args.size) undef, []⟩ [.code c] := by
    simp [Frame.enter, Frame.at, hf, hb, fr0]
  rw [henter]
  exact h cs
end
end Ab
