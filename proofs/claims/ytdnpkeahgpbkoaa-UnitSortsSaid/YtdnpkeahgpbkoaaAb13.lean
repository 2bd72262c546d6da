/- The pure step of an operation: the operands looked up. -/
import Derived.Test.YtdnpkeahgpbkoaaAb12
namespace Ab
open Go

abbrev Env := List (Nat × AV)
def look : Env → Nat → Option AV
  | [], _ => none
  | (k, a) :: r, t => match Nat.beq k t with | true => some a | false => look r t

def flatAll : List Value → Bool
  | [] => true
  | v :: r => match flat v with | true => flatAll r | false => false
theorem flatAll_mem : ∀ {l : List Value}, flatAll l = true → ∀ v ∈ l, flat v = true
  | [], _, v, h => by simp at h
  | u :: r, h, v, hv => by
    simp only [flatAll] at h
    split at h
    · rename_i hu
      rcases List.mem_cons.1 hv with rfl | hv
      · exact hu
      · exact flatAll_mem h v hv
    · cases h

def constAV (v : Value) : Option AV :=
  match v with
  | .agg ⟨cs⟩ => match flatAll cs with | true => some (.d (.ag (cs.map .v))) | false => none
  | .tuple _ => none
  | v => some (.d (.v v))

def opnd (env : Env) : Operand → Option AV
  | .tmp t => match look env t with
    | some (.lit b) => some (.d (.v (.bool b)))
    | some .und => none
    | some (.orc _) => none
    | x => x
  | .const v => constAV v
  | .global _ => none
  | .func f => some (.d (.v (.func (.func f) #[] #[])))

def opnds (env : Env) : List Operand → Option (List AV)
  | [] => some []
  | x :: r => match opnd env x with
    | none => none
    | some a => match opnds env r with
      | none => none
      | some l => some (a :: l)

def opndO (env : Env) : Option Operand → Option (Option AV)
  | none => some none
  | some x => match opnd env x with
    | none => none
    | some a => some (some a)

def parts (env : Env) : List (Nat × Operand) → Option (List (Nat × AV))
  | [] => some []
  | (i, x) :: r => match opnd env x with
    | none => none
    | some a => match parts env r with
      | none => none
      | some l => some ((i, a) :: l)

def EnvRel (w : World) (ok : Nat → Prop) (π : List Value) (env : Env) (tmps : Array Value) : Prop := ∀ t a, look env t = some a → RelV w ok π a (tmps.getD t undef)

section
variable {P : Program} {w : World} {ok : Nat → Prop} {π : List Value} {env : Env} {tmps : Array Value} {ds : List Deferred}

theorem const_rel {v : Value} {a : AV} (h : constAV v = some a) : RelV w ok π a v := by
  unfold constAV at h
  split at h
  · rename_i cs
    split at h
    · rename_i hf
      cases h
      have hm := flatAll_mem hf
      have : ∀ l : List Value, (∀ v ∈ l, flat v = true) → RelL w ok (l.map .v) l := by
        intro l
        induction l with
        | nil => intro _; exact .nil
        | cons a r ih => intro h; exact .cons (.v (h a (by simp))) (h a (by simp)) (ih fun v hv => h v (by simp [hv]))
      exact .d (.ag (this cs hm))
    · cases h
  · cases h
  · rename_i h1 h2
    cases h
    refine .d (.v ?_)
    cases v <;> first | rfl | (rename_i c; cases c; exact absurd rfl (h1 _)) | exact absurd rfl (h2 _)

theorem opnd_rel (he : EnvRel w ok π env tmps) {x : Operand} {a : AV} (h : opnd env x = some a) : RelV w ok π a (Act.eval ⟨tmps, ds⟩ x) := by
  cases x with
  | tmp t =>
    simp only [opnd] at h
    split at h
    · rename_i b hb
      cases h
      have := he t _ hb
      revert this
      simp only [Act.eval]
      generalize tmps.getD t undef = v
      intro h
      cases h
      exact .d (.v rfl)
    · cases h
    · cases h
    · exact he t a h
  | const v => exact const_rel h
  | global g => cases h
  | func f => cases h; exact .d (.v rfl)

theorem opnds_rel (he : EnvRel w ok π env tmps) : ∀ {xs : List Operand} {as : List AV}, opnds env xs = some as → RelVs w ok π as (xs.map (Act.eval ⟨tmps, ds⟩))
  | [], as, h => by simp only [opnds, Option.some.injEq] at h; subst h; exact .nil
  | x :: r, as, h => by
    simp only [opnds] at h
    split at h
    · cases h
    · rename_i a ha
      split at h
      · cases h
      · rename_i l hl
        cases h
        exact .cons (opnd_rel he ha) (opnds_rel he hl)

theorem opndO_rel (he : EnvRel w ok π env tmps) {x : Option Operand} {a : Option AV} (h : opndO env x = some a) : OptRel w ok π a (x.map (Act.eval ⟨tmps, ds⟩)) := by
  cases x with
  | none => simp only [opndO, Option.some.injEq] at h; subst h; trivial
  | some x =>
    simp only [opndO] at h
    split at h
    · cases h
    · rename_i b hb
      cases h
      exact opnd_rel he hb

theorem parts_rel (he : EnvRel w ok π env tmps) : ∀ {xs : List (Nat × Operand)} {as : List (Nat × AV)}, parts env xs = some as → RelPs w ok π as (xs.map fun p => (p.1, Act.eval ⟨tmps, ds⟩ p.2))
  | [], as, h => by simp only [parts, Option.some.injEq] at h; subst h; exact .nil
  | (i, x) :: r, as, h => by
    simp only [parts] at h
    split at h
    · cases h
    · rename_i a ha
      split at h
      · cases h
      · rename_i l hl
        cases h
        exact .cons (opnd_rel he ha) (parts_rel he hl)
end

/-! ### Equality with nil -/
inductive NilK where
  | yes | no | dunno
def nilK (k : TK) (x : AV) : NilK :=
  match k with
  | .iface _ => match x with | .ifc _ _ => .no | .d (.ifc _ _) => .no | .d (.v .nilIface) => .yes | _ => .dunno
  | .func => match x with | .fn _ _ => .no | .d (.v (.func _ _ _)) => .no | .d (.v .nilFunc) => .yes | _ => .dunno
  | .ptr => match x with | .ptr _ _ => .no | .ge _ _ _ _ => .no | .ro _ => .no | .d (.v (.pointer none)) => .yes | _ => .dunno
  | .slice _ => match x with | .d (.v (.slice none 0 0)) => .yes | _ => .dunno
  | _ => .dunno

def isC : Operand → Bool
  | .const _ => true
  | _ => false

/-- x == nil, x != nil (one side is the constant). -/
def pNilEq (T : Tab) (op : BinOp) (t : TypeId) (xc yc : Bool) (x y : AV) : PR :=
  match tlook T t with
  | none => .no
  | some r => match xc || yc with
    | false => .no
    | true => match nilK r.kd x with
      | .dunno => .no
      | .yes => match nilK r.kd y with
        | .dunno => .no
        | .yes => match op with | .eql => .ok (vB true) | .neq => .ok (vB false) | _ => .no
        | .no => match op with | .eql => .ok (vB false) | .neq => .ok (vB true) | _ => .no
      | .no => match nilK r.kd y with
        | .yes => match op with | .eql => .ok (vB false) | .neq => .ok (vB true) | _ => .no
        | _ => .no

end Ab
