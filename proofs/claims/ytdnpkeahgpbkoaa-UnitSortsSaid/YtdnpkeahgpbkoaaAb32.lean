/- Rules: some steps of a run; one operation; maps. -/
import Derived.Test.YtdnpkeahgpbkoaaAb31
set_option linter.unusedSimpArgs false
set_option linter.unusedVariables false
namespace Ab
open Go

section
variable {P : Program} {T : Tab} {f : FuncId} {fn : Func} {n : Nat} {C : Cx} {R R1 : AV → List (Option AObj) → Prop} {todo todo' : List Item} {env env' : Env} {objs objs' : List (Option AObj)} {nd : Prop}

theorem sat_steps (m : Nat) (hT : TabOk P T) (hf : P.funcs[f]? = some fn) (h : srun T n fn.results.toList m True todo env objs = .goto nd todo' env' objs') (hn : nd) (k : ASat P f n C todo' env' objs' R) : ASat P f n C todo env objs R :=
  (run_sound hT hf m True todo env objs (by rw [h]; exact ⟨hn, k⟩)).2

theorem sat_estep {ops : Array Oper} {i : Nat} {r : List Nat} {k : List Item} {o : Oper} {e : Env} (out : EOut) (hT : TabOk P T) (ho : ops[i]? = some o) (hw : wantE ops env o = .yes) (hs : estep T o env objs = some out)
    (hc : cond out.c) (hput : putE n o.dst (skA out.skip out.a) (dropEnvQ out.q env) = some e)
    (h : ASat P f n C (.inRegion ops r :: k) e out.objs R) : ASat P f n C (.inRegion ops (i :: r) :: k) env objs R := by
  refine sat_op out ho hw (fun X π w tmps hm he => ?_) hc hput h
  have := estep_ok (ds := []) hT hm he o
  rwa [hs] at this

theorem eAppend_gs {T : Tab} {t t2 e : TypeId} {r re r2 : TRow} {x : AV} {ys xs : List D} {rd rd2 : Nat → D} {e2 : TypeId} {j s : Nat} (h1 : tlook T t = some r) (h2 : r.kd = .slice e) (h3 : tlook T e = some re) (h4 : tlook T t2 = some r2) (h5 : r2.kd = .slice e2)
    (h6 : elemsOf objs re.size x = some (ys, rd2)) (h7 : Nat.beq re.bytes 0 = false) (h8 : objAt objs j = some (.grow e s xs rd)) (h9 : s = re.size) :
    eAppend T t t2 objs (.gs j) x = some ⟨some ((xs.length + ys.length) * re.bytes ≤ 140737488355328), false, .gs j, some j, setNth (dropO j objs) j (some (.grow e s (xs ++ ys) (catRd xs.length rd rd2)))⟩ := by
  subst h9
  have b1 : Nat.beq re.size re.size = true := Nat.beq_refl _
  have b2 : Nat.beq e e = true := Nat.beq_refl _
  simp only [eAppend, h1, h2, h3, h4, h5, h6, h7, h8, b1, b2]

theorem look_ok {P : Program} {w : World} {X : Nat → Prop} {π : List Value} {env : Env} {tmps : Array Value} {x : Operand} {v : Value} (he : EnvRel w (okOf X π objs) π env tmps) (h : opnd env x = some (.d (.v v))) : Act.eval ⟨tmps, []⟩ x = v := by
  have := opnd_rel (ds := []) he h
  revert this
  generalize Act.eval ⟨tmps, []⟩ x = u
  intro hu
  cases hu with | d hu => cases hu; rfl

theorem sat_lookup {ops : Array Oper} {i : Nat} {r : List Nat} {k : List Item} {o : Oper} {e : Env} {t kt et : TypeId} {mo ko : Operand} {ok : Bool} {rm rk re : TRow} {j : Nat} {es : List (Value × AV)} {key : Value} {a : Option AV} (hT : TabOk P T)
    (ho : ops[i]? = some o) (hw : wantE ops env o = .yes) (hop : o.op = .lookup t mo ko ok) (hm : opnd env mo = some (.mp j)) (hk : opnd env ko = some (.d (.v key))) (h1 : tlook T t = some rm) (h2 : rm.kd = .map kt et) (h3 : tlook T kt = some rk) (h4 : tlook T et = some re)
    (hobj : nth objs j = some (some (.map es))) (hkey : keyB rk.kd key = true) (hks : keysB rk.kd es = true) (hf : MFind key es a) (hput : putE n o.dst (lookA (zeroD re) ok a) env = some e)
    (h : ASat P f n C (.inRegion ops r :: k) e objs R) : ASat P f n C (.inRegion ops (i :: r) :: k) env objs R := by
  refine sat_op ⟨none, false, lookA (zeroD re) ok a, none, objs⟩ ho hw (fun X π w tmps m he _ => ?_) trivial hput h
  obtain ⟨v, e1, e2⟩ := lookup_do hT m h1 h2 h3 h4 hobj hkey hks hf (opnd_rel (ds := []) he hm) ok
  refine ⟨v, w, π, ?_, tr_plain m rfl rfl ⟨rfl, Nat.le_refl _⟩ (Nat.le_refl _) (fun _ _ => rfl), fun _ => e2⟩
  unfold execOp
  simp only [hop]
  rw [look_ok (P := P) he hk]
  simp only [Sem.run_bind, e1, Result.andThen_ok, Sem.run_pure]
  rfl

theorem sat_lookupV {ops : Array Oper} {i : Nat} {r : List Nat} {k : List Item} {o : Oper} {e : Env} {t kt et : TypeId} {mo ko : Operand} {ok : Bool} {rm rk re : TRow} {j : Nat} {es : List (Value × AV)} {key : Value} {a : Option AV} {b : AV} (hT : TabOk P T)
    (ho : ops[i]? = some o) (hw : wantE ops env o = .yes) (hop : o.op = .lookup t mo ko ok) (hm : opnd env mo = some (.mp j)) (hk : opnd env ko = some (.d (.v key))) (h1 : tlook T t = some rm) (h2 : rm.kd = .map kt et) (h3 : tlook T kt = some rk) (h4 : tlook T et = some re)
    (hobj : nth objs j = some (some (.map es))) (hkey : keyB rk.kd key = true) (hks : keysB rk.kd es = true) (hf : MFind key es a) (hv : VLe (lookA (zeroD re) ok a) b) (hput : putE n o.dst b env = some e)
    (h : ASat P f n C (.inRegion ops r :: k) e objs R) : ASat P f n C (.inRegion ops (i :: r) :: k) env objs R := by
  refine sat_op ⟨none, false, b, none, objs⟩ ho hw (fun X π w tmps m he _ => ?_) trivial hput h
  obtain ⟨v, e1, e2⟩ := lookup_do hT m h1 h2 h3 h4 hobj hkey hks hf (opnd_rel (ds := []) he hm) ok
  refine ⟨v, w, π, ?_, tr_plain m rfl rfl ⟨rfl, Nat.le_refl _⟩ (Nat.le_refl _) (fun _ _ => rfl), fun _ => hv _ _ _ _ e2⟩
  unfold execOp
  simp only [hop]
  rw [look_ok (P := P) he hk]
  simp only [Sem.run_bind, e1, Result.andThen_ok, Sem.run_pure]
  rfl

theorem sat_update {ops : Array Oper} {i : Nat} {r : List Nat} {k : List Item} {o : Oper} {t kt et : TypeId} {mo ko xo : Operand} {rm rk : TRow} {j : Nat} {es es' : List (Value × AV)} {key : Value} {x : AV} (hT : TabOk P T)
    (ho : ops[i]? = some o) (hw : wantE ops env o = .yes) (hop : o.op = .mapUpdate t mo ko xo) (hd : o.dst = none) (hm : opnd env mo = some (.mp j)) (hk : opnd env ko = some (.d (.v key))) (hx : opnd env xo = some x) (h1 : tlook T t = some rm) (h2 : rm.kd = .map kt et) (h3 : tlook T kt = some rk)
    (hobj : nth objs j = some (some (.map es))) (hkey : keyB rk.kd key = true) (hks : keysB rk.kd es = true) (hf : MPut key x es es')
    (h : ASat P f n C (.inRegion ops r :: k) env (setNth objs j (some (.map es'))) R) : ASat P f n C (.inRegion ops (i :: r) :: k) env objs R := by
  refine sat_op ⟨none, true, .und, none, setNth objs j (some (.map es'))⟩ ho hw (fun X π w tmps m he _ => ?_) trivial (by rw [hd]; rfl) h
  obtain ⟨w', e1, e2⟩ := update_do hT m h1 h2 h3 hobj hkey hks hf (opnd_rel (ds := []) he hm) (opnd_rel (ds := []) he hx)
  refine ⟨undef, w', π, ?_, e2, fun h => by cases h⟩
  unfold execOp
  simp only [hop]
  rw [look_ok (P := P) he hk]
  simp only [Sem.run_bind, e1, Result.andThen_ok, Sem.run_pure]
  rfl
end

/-! ### Rows that are gathered under numbers: a map's objects behind it -/
def gadd (k i : Int) : List (Int × List Int) → List (Int × List Int)
  | [] => [(k, [i])]
  | (k', l) :: r => if k' = k then (k', l ++ [i]) :: r else (k', l) :: gadd k i r
def gget (k : Int) : List (Int × List Int) → List Int
  | [] => []
  | (k', l) :: r => if k' = k then l else gget k r
def esOf : Nat → List (Int × List Int) → List (Value × AV)
  | _, [] => []
  | b, (k, _) :: r => (.int .i64 k, .gs b) :: esOf (b + 1) r
def tailOf (t : TypeId) : List (Int × List Int) → List (Option AObj)
  | [] => []
  | (_, l) :: r => some (gL t 1 eI 0 l) :: tailOf t r
end Ab
