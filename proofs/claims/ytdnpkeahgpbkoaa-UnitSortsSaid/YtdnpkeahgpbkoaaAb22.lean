/- The step of an operation that acts; the run of a stretch of code on abstract values. -/
import Derived.Test.YtdnpkeahgpbkoaaAb21
set_option linter.unusedSimpArgs false
set_option linter.unusedVariables false
namespace Ab
open Go

def eCall (T : Tab) (env : Env) (objs : List (Option AObj)) (c : Call) : Option EOut :=
  match c.callee with
  | .builtin b => match c.args with
    | ⟨args⟩ => match opnds env args with
      | none => none
      | some as => match b with
        | .append => match as with
          | [s, x] => match c.argTypes with
            | ⟨t :: t2 :: _⟩ => eAppend T t t2 objs s x
            | _ => none
          | _ => none
        | _ => none
  | _ => none

def estep (T : Tab) (o : Oper) (env : Env) (objs : List (Option AObj)) : Option EOut :=
  match o.op with
  | .alloc t => eAlloc T t objs
  | .box t x => match opnd env x with | some a => eBox t a objs | none => none
  | .store t a x => match opnd env a with
    | none => none
    | some av => match opnd env x with | some xv => eStore T t objs av xv | none => none
  | .buildSlice t len ⟨ps⟩ => match parts env ps with | some as => eLit T t len as objs | none => none
  | .makeSlice t l c => match opnd env l with
    | none => none
    | some lv => match opnd env c with | some cv => eMake T t objs lv cv | none => none
  | .slice t x lo hi mx => match opnd env x with
    | none => none
    | some a => match opndO env lo with
      | none => none
      | some l => match opndO env hi with
        | none => none
        | some h => match opndO env mx with
          | none => none
          | some m => eSlice T t objs a l h m
  | .call c => eCall T env objs c
  | .makeMap _ none => some ⟨none, false, .mp objs.length, none, objs ++ [some (.map [])]⟩
  | _ => none

theorem eMakeMap_ok {P : Program} {X : Nat → Prop} {π : List Value} {objs : List (Option AObj)} {w : World} (m : Mem X π objs w) (t : TypeId) :
    ERok P X π objs w (some ⟨none, false, .mp objs.length, none, objs ++ [some (.map [])]⟩) (do pure (.value (← Instr.makeMap t none))) := by
  intro _
  refine ⟨.map (some w.heap.size), _, π ++ [.map (some w.heap.size)], rfl, tr_new m (.map #[] 0) _ (.map []) rfl ?_, fun _ => .mp (nth_new m.len _)⟩
  exact .map (ms := []) (heap_push_new _) .nil

theorem estep_ok {P : Program} {T : Tab} (hT : TabOk P T) {X : Nat → Prop} {π : List Value} {objs : List (Option AObj)} {w : World} (m : Mem X π objs w) {env : Env} {tmps : Array Value} {ds : List Deferred} (he : EnvRel w (okOf X π objs) π env tmps) (o : Oper) :
    ERok P X π objs w (estep T o env objs) (execOp (Act.eval ⟨tmps, ds⟩) o) := by
  unfold estep execOp
  split <;> rename_i heq <;> simp only [heq]
  · exact eAlloc_ok hT m _
  · split
    · rename_i a ha; exact eBox_ok m _ (opnd_rel he ha)
    · trivial
  · split
    · trivial
    · rename_i av hav
      split
      · rename_i xv hxv; exact eStore_ok hT m (opnd_rel he hav) (opnd_rel he hxv)
      · trivial
  · rename_i t len ps
    split
    · rename_i as has
      have := eLit_ok hT m (t := t) (len := len) (parts_rel (ds := ds) he has)
      simpa using this
    · trivial
  · split
    · trivial
    · rename_i lv hlv
      split
      · rename_i cv hcv; exact eMake_ok hT m (opnd_rel he hlv) (opnd_rel he hcv)
      · trivial
  · split
    · trivial
    · rename_i a ha
      split
      · trivial
      · rename_i l hl
        split
        · trivial
        · rename_i h hh
          split
          · trivial
          · rename_i mm hm
            exact eSlice_ok hT m (opnd_rel he ha) (opndO_rel he hl) (opndO_rel he hh) (opndO_rel he hm)
  · rename_i c
    obtain ⟨callee, ⟨args⟩, argTypes⟩ := c
    unfold eCall
    split
    · rename_i b hb
      subst hb
      split
      rename_i args' hargs
      have hargs' : args = args' := by simpa using hargs
      subst hargs'
      split
      · trivial
      · rename_i as has
        have hrel := opnds_rel (ds := ds) he has
        split
        · split
          · rename_i s x
            split
            · rename_i t t2 rest heq'
              have heq'' : argTypes = ⟨t :: t2 :: rest⟩ := heq'
              subst heq''
              match args, hrel with
              | [x0, y0], .cons h (.cons h' .nil) =>
                have := eAppend_ok hT m (t := t) (t2 := t2) (ty := o.type) (rest := rest) h h'
                simpa [resolve, invoke, builtin] using this
            · trivial
          · trivial
        · trivial
    · trivial
  · rename_i t
    exact eMakeMap_ok m t
  · trivial

/-! ### Runs -/
def dropEnv (i : Nat) : Env → Env
  | [] => []
  | (t, a) :: r => (t, a.drop i) :: dropEnv i r
def dropEnvQ (q : Option Nat) (env : Env) : Env := match q with | none => env | some i => dropEnv i env

theorem look_dropEnv (i : Nat) : ∀ (env : Env) (t : Nat), look (dropEnv i env) t = (look env t).map (AV.drop i)
  | [], t => rfl
  | (k, a) :: r, t => by
    simp only [dropEnv, look]
    split
    · rfl
    · exact look_dropEnv i r t
theorem look_dropEnvQ (q : Option Nat) (env : Env) (t : Nat) : look (dropEnvQ q env) t = (look env t).map (keepQ q) := by
  cases q with
  | none => simp [dropEnvQ, keepQ]; cases look env t <;> rfl
  | some i => exact look_dropEnv i env t

/-- The value of a temporary is written; n: how many there are. -/
def putE (n : Nat) (dst : Option Tmp) (a : AV) (env : Env) : Option Env :=
  match dst with
  | none => some env
  | some d => match Nat.blt d n with
    | true => some ((d, a) :: env)
    | false => none

inductive Res where
  | branch (nd : Prop) (t : Tmp) (b : Bool) (todo : List Item) (env : Env) (objs : List (Option AObj))
  | call (nd : Prop) (f : FuncId) (args : List AV) (dst : Option Tmp) (todo : List Item) (env : Env) (objs : List (Option AObj))
  | loop (nd : Prop) (todo : List Item) (env : Env) (objs : List (Option AObj))
  | ret (nd : Prop) (r : AV) (objs : List (Option AObj))
  | goto (nd : Prop) (todo : List Item) (env : Env) (objs : List (Option AObj))
  | draw (nd : Prop) (id : Nat) (ops : Array Oper) (todo : List Item) (env : Env) (objs : List (Option AObj))
  | stuck (o : Option Oper) (env : Env) (objs : List (Option AObj))

/-- Is an operation wanted? (its guard): yes, no, or hanging on a temporary. -/
inductive Want where
  | yes | no | ask (t : Tmp) (b : Bool) | dunno
def wantE (ops : Array Oper) (env : Env) (o : Oper) : Want :=
  match o.guard with
  | none => .yes
  | some (j, g) => match ops[j]? with
    | none => .dunno
    | some oj => match oj.dst with
      | none => .dunno
      | some t => match look env t with
        | some (.lit b) => match b with
          | true => match g with | true => .yes | false => .no
          | false => match g with | true => .no | false => .yes
        | some .und => .no
        | some (.d (.v (.bool b))) => .ask t b
        | _ => .dunno

def resOf (env : Env) (objs : List (Option AObj)) (rs : List ResultVar) : Option (List AV) :=
  match rs with
  | [] => some []
  | .tmp t :: r => match opnd env (.tmp t) with
    | none => none
    | some a => match resOf env objs r with
      | none => none
      | some l => some (a :: l)
  | .cell _ _ :: _ => none

def tupOf (l : List AV) : AV := match l with | [a] => a | l => .tp l

/-- A call in an operation: function and arguments. -/
def callOf (env : Env) (o : Oper) : Option (FuncId × List AV) :=
  match o.op with
  | .call c => match c.callee with
    | .value (.func f) => match c.args with
      | ⟨args⟩ => match opnds env args with
        | some as => some (f, as)
        | none => none
    | .value (.tmp t) => match opnd env (.tmp t) with
      | some (.fn (.func f) cs) => match c.args with
        | ⟨args⟩ => match opnds env args with
          | some as => some (f, as ++ cs)
          | none => none
      | some (.d (.v (.func (.func f) ⟨[]⟩ ⟨[]⟩))) => match c.args with
        | ⟨args⟩ => match opnds env args with
          | some as => some (f, as)
          | none => none
      | _ => none
    | _ => none
  | _ => none

def andP (nd : Prop) (c : Option Prop) : Prop := match c with | none => nd | some p => p ∧ nd

def evalC (env : Env) (c : Operand) : Want :=
  match c with
  | .tmp t => match look env t with
    | some (.lit b) => match b with | true => .yes | false => .no
    | some (.d (.v (.bool b))) => .ask t b
    | _ => .dunno
  | .const (.bool true) => .yes
  | .const (.bool false) => .no
  | _ => .dunno

/-- The operations of a drawn region, none of which acts. -/
def qrun (T : Tab) (n : Nat) (ops : Array Oper) : List Oper → Prop → Env → List (Option AObj) → Option (Prop × Env)
  | [], nd, env, _ => some (nd, env)
  | o :: r, nd, env, objs => match wantE ops env o with
    | .yes => match pstep T o env objs with
      | .ok a => match putE n o.dst a env with | some e => qrun T n ops r nd e objs | none => none
      | .iff c a => match putE n o.dst a env with | some e => qrun T n ops r (c ∧ nd) e objs | none => none
      | .no => none
    | .no => match putE n o.dst .und env with | some e => qrun T n ops r nd e objs | none => none
    | _ => none

def skA (sk : Bool) (a : AV) : AV := match sk with | true => .und | false => a

def srun (T : Tab) (n : Nat) (rs : List ResultVar) : Nat → Prop → List Item → Env → List (Option AObj) → Res
  | 0, nd, todo, env, objs => .goto nd todo env objs
  | fuel + 1, nd, todo, env, objs =>
    match todo with
    | [] => match resOf env objs rs with | some l => .ret nd (tupOf l) objs | none => .stuck none env objs
    | .code c :: k => match c with
      | .skip => srun T n rs fuel nd k env objs
      | .label _ => srun T n rs fuel nd k env objs
      | .ret => match resOf env objs rs with | some l => .ret nd (tupOf l) objs | none => .stuck none env objs
      | .seq a b => srun T n rs fuel nd (.code a :: .code b :: k) env objs
      | .block id b => srun T n rs fuel nd (.code b :: .inBlock id :: k) env objs
      | .scope b => srun T n rs fuel nd (.code b :: .inScope b :: k) env objs
      | .loop b => .loop nd (.code (.loop b) :: k) env objs
      | .exit id => match exitTo id k with | some k' => srun T n rs fuel nd k' env objs | none => .stuck none env objs
      | .goto l => match gotoIn l k with | some k' => srun T n rs fuel nd k' env objs | none => .stuck none env objs
      | .cond c x y => match evalC env c with
        | .yes => srun T n rs fuel nd (.code x :: k) env objs
        | .no => srun T n rs fuel nd (.code y :: k) env objs
        | .ask t b => .branch nd t b (.code (.cond c x y) :: k) env objs
        | .dunno => .stuck none env objs
      | .region id ops d => match d with
        | false => srun T n rs fuel nd (.inRegion ops (List.range ops.size) :: k) env objs
        | true => .draw nd id ops k env objs
      | _ => .stuck none env objs
    | .inBlock _ :: k => srun T n rs fuel nd k env objs
    | .inScope _ :: k => srun T n rs fuel nd k env objs
    | .inLoop b :: k => .loop nd (.inLoop b :: k) env objs
    | .inRegion ops idx :: k => match idx with
      | [] => srun T n rs fuel nd k env objs
      | i :: r => match ops[i]? with
        | none => .stuck none env objs
        | some o => match wantE ops env o with
          | .yes => match pstep T o env objs with
            | .ok a => match putE n o.dst a env with
              | some e => srun T n rs fuel nd (.inRegion ops r :: k) e objs
              | none => .stuck (some o) env objs
            | .iff c a => match putE n o.dst a env with
              | some e => srun T n rs fuel (c ∧ nd) (.inRegion ops r :: k) e objs
              | none => .stuck (some o) env objs
            | .no => match estep T o env objs with
              | some ⟨c, sk, a, q, objs'⟩ => match putE n o.dst (skA sk a) (dropEnvQ q env) with
                | some e => srun T n rs fuel (andP nd c) (.inRegion ops r :: k) e objs'
                | none => .stuck (some o) env objs
              | none => match callOf env o with
                | some (f, as) => match putE n o.dst .dead env with
                  | some _ => .call nd f as o.dst (.inRegion ops r :: k) env objs
                  | none => .stuck (some o) env objs
                | none => .goto nd (.inRegion ops (i :: r) :: k) env objs
          | .no => match putE n o.dst .und env with
            | some e => srun T n rs fuel nd (.inRegion ops r :: k) e objs
            | none => .stuck (some o) env objs
          | .ask t b => .branch nd t b (.inRegion ops (i :: r) :: k) env objs
          | .dunno => .stuck (some o) env objs
    | _ => .stuck none env objs

end Ab
