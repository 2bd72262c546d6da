/- The pure step of an operation, and that the machine does it. -/
import Derived.Test.YtdnpkeahgpbkoaaAb14
namespace Ab
open Go

def pMax (isMax : Bool) (x y : AV) : PR :=
  match x with
  | .d (.v (.int k a)) => match y with
    | .d (.v (.int _ b)) => match isMax with
      | true => .ok (vI k (max a b))
      | false => .ok (vI k (min a b))
    | _ => .no
  | _ => .no

def litB (env : Env) : Operand → Option Bool
  | .tmp t => match look env t with
    | some (.lit b) => some b
    | _ => none
  | _ => none
theorem litB_rel {w : World} {ok : Nat → Prop} {π : List Value} {env : Env} {tmps : Array Value} {ds : List Deferred} (he : EnvRel w ok π env tmps) {c : Operand} {b : Bool} (h : litB env c = some b) : Act.eval ⟨tmps, ds⟩ c = .bool b := by
  unfold litB at h
  split at h
  · split at h
    · rename_i t _ b' hb
      cases h
      have := he t _ hb
      revert this
      simp only [Act.eval]
      generalize tmps.getD t undef = v
      intro h
      cases h
      rfl
    · cases h
  · cases h

def pCall (T : Tab) (env : Env) (objs : List (Option AObj)) (c : Call) : PR :=
  match c.callee with
  | .builtin b => match c.args with
    | ⟨args⟩ => match opnds env args with
      | none => .no
      | some as => match b with
        | .len => match as with
          | [x] => match c.argTypes with
            | ⟨t :: _⟩ => pLen T t objs x
            | _ => .no
          | _ => .no
        | .max => match as with
          | [x, y] => pMax true x y
          | _ => .no
        | .min => match as with
          | [x, y] => pMax false x y
          | _ => .no
        | _ => .no
  | _ => .no

def pstep (T : Tab) (o : Oper) (env : Env) (objs : List (Option AObj)) : PR :=
  match o.op with
  | .move x => match opnd env x with | some a => .ok a | none => .no
  | .assign x => match opnd env x with | some a => .ok a | none => .no
  | .binOp op t x y _ => match opnd env x with
    | none => .no
    | some a => match opnd env y with
      | none => .no
      | some b => match pBin T op t a b with
        | .ok r => .ok r
        | .iff c r => .iff c r
        | .no => pNilEq T op t (isC x) (isC y) a b
  | .unOp op _ x => match opnd env x with | some a => pUn op a | none => .no
  | .convert s d x => match opnd env x with | some a => pConv T s d objs a | none => .no
  | .makeInterface t x => match opnd env x with | some a => pIface T t a | none => .no
  | .makeFunc fn ⟨first⟩ ⟨caps⟩ => match first with
    | [] => match opnds env caps with
      | none => .no
      | some as => match as with
        | [] => .ok (.d (.v (.func fn #[] #[])))
        | _ :: _ => .ok (.fn fn as)
    | _ :: _ => .no
  | .slice t x lo hi mx => match opnd env x with
    | none => .no
    | some a => match opndO env lo with
      | none => .no
      | some l => match opndO env hi with
        | none => .no
        | some h => match opndO env mx with
          | none => .no
          | some m => pSlice T t a l h m
  | .fieldAddr t x f => match opnd env x with | some a => pFieldAddr T t f a | none => .no
  | .field t x f => match opnd env x with | some a => pField T t f a | none => .no
  | .indexAddr t x i => match opnd env x with
    | none => .no
    | some a => match opnd env i with | some b => pIndexAddr T t objs a b | none => .no
  | .index t x i => match opnd env x with
    | none => .no
    | some a => match opnd env i with | some b => pIndex T t a b | none => .no
  | .load t x => match opnd env x with | some a => pLoad T t objs a | none => .no
  | .nilCheck x => match opnd env x with | some a => pNil a | none => .no
  | .build t ⟨ps⟩ => match parts env ps with | some as => pBuild T t as | none => .no
  | .extract x i => match opnd env x with | some a => pExtract i a | none => .no
  | .pick c x y => match litB env c with
    | none => .no
    | some b => match b with
      | true => match opnd env x with | some a => .ok a | none => .no
      | false => match opnd env y with | some a => .ok a | none => .no
  | .call c => pCall T env objs c
  | _ => .no

/-- What the machine does at an operation that only reads. -/
def Does (P : Program) (w : World) (ok : Nat → Prop) (π : List Value) (a : AV) (s : Sem Next) : Prop :=
  ∃ v, RelV w ok π a v ∧ ∀ w', Ext w w' → s.run P w' = .ok (.value v) w'
def PRdoes (P : Program) (w : World) (ok : Nat → Prop) (π : List Value) : PR → Sem Next → Prop
  | .ok a, s => Does P w ok π a s
  | .iff c a, s => c → Does P w ok π a s
  | .no, _ => True

theorem Yields.does {P : Program} {w : World} {ok : Nat → Prop} {π : List Value} {a : AV} {s : Sem Value} (h : Yields P w ok π a s) : Does P w ok π a (do pure (.value (← s))) := by
  obtain ⟨v, h1, h2⟩ := h
  exact ⟨v, h1, fun w' hw => by simp [h2 w' hw]⟩
theorem PRok.does {P : Program} {w : World} {ok : Nat → Prop} {π : List Value} {r : PR} {s : Sem Value} (h : PRok P w ok π r s) : PRdoes P w ok π r (do pure (.value (← s))) := by
  cases r with
  | ok a => exact Yields.does h
  | iff c a => exact fun hc => Yields.does (h hc)
  | no => trivial

theorem pBin_form {w : World} {ok : Nat → Prop} {π : List Value} {T : Tab} {op : BinOp} {t : TypeId} {x y : AV} {v : Value} (hx : RelV w ok π x v) (h : pBin T op t x y ≠ .no) :
    (∃ k n, v = .int k n) ∨ (∃ s, v = .string s) ∨ (∃ b, v = .bool b) := by
  unfold pBin at h
  split at h
  · cases hx with | d hx => cases hx; exact .inl ⟨_, _, rfl⟩
  · cases hx with | d hx => cases hx; exact .inr (.inl ⟨_, rfl⟩)
  · cases hx with | d hx => cases hx; exact .inr (.inr ⟨_, rfl⟩)
  · exact absurd rfl h

theorem guard_plain {P : Program} {op : BinOp} {t : TypeId} {xo yo : Operand} {a b : Value} (h : (∃ k n, a = .int k n) ∨ (∃ s, a = .string s) ∨ (∃ b, a = .bool b)) (w : World) : (eqGuard op t xo yo a b).run P w = .ok () w := by
  unfold eqGuard
  rcases h with ⟨k, n, rfl⟩ | ⟨s, rfl⟩ | ⟨b', rfl⟩ <;> cases op <;> simp

theorem pNilEq_ok {P : Program} {T : Tab} (hT : TabOk P T) {w : World} {ok : Nat → Prop} {π : List Value} {op : BinOp} {t : TypeId} {xo yo : Operand} {x y : AV} {a b : Value} (hx : RelV w ok π x a) (hy : RelV w ok π y b) :
    PRok P w ok π (pNilEq T op t (isC xo) (isC yo) x y) (do eqGuard op t xo yo a b; binOp op t a b) := by
  unfold pNilEq
  split
  · trivial
  · rename_i r hr
    have hk := kdTy_of hT hr
    split
    · trivial
    · rename_i hc
      have key : ∀ {bb : Bool}, ((isNilV r.kd a ∧ isNilV r.kd b ∧ bb = true) ∨ (isNilV r.kd a ∧ notNilV r.kd b ∧ bb = false) ∨ (notNilV r.kd a ∧ isNilV r.kd b ∧ bb = false)) → nonArith a ∧ (∀ cs, a ≠ .agg cs) := by
        intro bb h
        have : isNilV r.kd a ∨ notNilV r.kd a := by rcases h with h | h | h <;> simp [h.1]
        rcases this with h | h
        · revert h
          cases r.kd <;> simp only [isNilV] <;> first | (intro h; exact h.elim) | (rintro rfl; exact ⟨trivial, fun _ h => by cases h⟩)
        · revert h
          cases r.kd <;> simp only [notNilV] <;> first | (intro h; exact h.elim) | (rintro ⟨_, rfl⟩; exact ⟨trivial, fun _ h => by cases h⟩) | (rintro ⟨_, _, rfl⟩; exact ⟨trivial, fun _ h => by cases h⟩) | (rintro ⟨_, _, _, rfl⟩; exact ⟨trivial, fun _ h => by cases h⟩)
      have fin : ∀ {bb : Bool}, ((isNilV r.kd a ∧ isNilV r.kd b ∧ bb = true) ∨ (isNilV r.kd a ∧ notNilV r.kd b ∧ bb = false) ∨ (notNilV r.kd a ∧ isNilV r.kd b ∧ bb = false)) →
          (op = .eql → Yields P w ok π (vB bb) (do eqGuard op t xo yo a b; binOp op t a b)) ∧ (op = .neq → Yields P w ok π (vB (!bb)) (do eqGuard op t xo yo a b; binOp op t a b)) := by
        intro bb h
        obtain ⟨h1, h2⟩ := key h
        have he := eq_nil hk h
        constructor
        · rintro rfl
          exact yields_val rfl fun w' => by simp only [Sem.run_bind, guard_nil hc h2, Result.andThen_ok, binOp_eql h1, he, Sem.run_pure]
        · rintro rfl
          exact yields_val rfl fun w' => by simp only [Sem.run_bind, guard_nil hc h2, Result.andThen_ok, binOp_neq h1, he, Sem.run_pure]
      split
      · trivial
      · rename_i h1
        have h1 := nilK_yes h1 hx
        split
        · trivial
        · rename_i h2
          have h2 := nilK_yes h2 hy
          have := fin (.inl ⟨h1, h2, rfl⟩)
          split
          · exact this.1 rfl
          · exact this.2 rfl
          · trivial
        · rename_i h2
          have h2 := nilK_no h2 hy
          have := fin (.inr (.inl ⟨h1, h2, rfl⟩))
          split
          · exact this.1 rfl
          · exact this.2 rfl
          · trivial
      · rename_i h1
        have h1 := nilK_no h1 hx
        split
        · rename_i h2
          have h2 := nilK_yes h2 hy
          have := fin (.inr (.inr ⟨h1, h2, rfl⟩))
          split
          · exact this.1 rfl
          · exact this.2 rfl
          · trivial
        · trivial

theorem does_val {P : Program} {w : World} {ok : Nat → Prop} {π : List Value} {a : AV} {v : Value} (h : RelV w ok π a v) : Does P w ok π a (pure (.value v)) := ⟨v, h, fun _ _ => rfl⟩

theorem pMax_ok {P : Program} {w : World} {ok : Nat → Prop} {π : List Value} {b : Bool} {x y : AV} {v u : Value} (hx : RelV w ok π x v) (hy : RelV w ok π y u) (as : Array TypeId) (ty : TypeId) :
    PRok P w ok π (pMax b x y) (if b = true then Builtin.max_ as ty #[v, u] else Builtin.min_ as ty #[v, u]) := by
  unfold pMax
  split
  · rename_i k a
    cases hx with | d hx => cases hx with | v _ =>
    split
    · rename_i k' c
      cases hy with | d hy => cases hy with | v _ =>
      split
      · refine yields_val rfl fun w' => ?_
        have e : max a c = if c > a then c else a := by rw [Int.max_def]; split <;> split <;> omega
        simp [Builtin.max_, Builtin.max2, e]
      · refine yields_val rfl fun w' => ?_
        have e : min a c = if c < a then c else a := by rw [Int.min_def]; split <;> split <;> omega
        simp [Builtin.min_, Builtin.min2, e]
    · trivial
  · trivial

theorem pCall_ok {P : Program} {T : Tab} (hT : TabOk P T) {X : Nat → Prop} {π : List Value} {objs : List (Option AObj)} {w : World} (m : Mem X π objs w) {env : Env} {tmps : Array Value} {ds : List Deferred} (he : EnvRel w (okOf X π objs) π env tmps) (c : Call) (ty : TypeId) :
    PRdoes P w (okOf X π objs) π (pCall T env objs c) (do let d ← resolve (Act.eval ⟨tmps, ds⟩) c ty; invoke d.target d.args) := by
  obtain ⟨callee, ⟨args⟩, argTypes⟩ := c
  unfold pCall
  split
  · rename_i b hb
    subst hb
    split
    rename_i args' hargs
    have hargs' : args = args' := by simpa using hargs
    subst hargs'
    split
    · trivial
    · rename_i as has
      have hrel := opnds_rel (ds := ds) he has
      split
      · split
        · rename_i x
          split
          · rename_i t rest heq
            have heq' : argTypes = ⟨t :: rest⟩ := heq
            subst heq'
            match args, hrel with
            | [x0], .cons h .nil =>
              have := pLen_ok hT m (t := t) (ty := ty) (as := ⟨t :: rest⟩) h (by simp)
              have h2 := this.does
              simpa [resolve, invoke, builtin] using h2
          · trivial
        · trivial
      · split
        · rename_i x y
          match args, hrel with
          | [x0, y0], .cons h (.cons h' .nil) =>
            have := (pMax_ok (P := P) (b := true) h h' argTypes ty).does
            simpa [resolve, invoke, builtin] using this
        · trivial
      · split
        · rename_i x y
          match args, hrel with
          | [x0, y0], .cons h (.cons h' .nil) =>
            have := (pMax_ok (P := P) (b := false) h h' argTypes ty).does
            simpa [resolve, invoke, builtin] using this
        · trivial
      · trivial
  · trivial

theorem pstep_ok {P : Program} {T : Tab} (hT : TabOk P T) {X : Nat → Prop} {π : List Value} {objs : List (Option AObj)} {w : World} (m : Mem X π objs w) {env : Env} {tmps : Array Value} {ds : List Deferred} (he : EnvRel w (okOf X π objs) π env tmps) (o : Oper) :
    PRdoes P w (okOf X π objs) π (pstep T o env objs) (execOp (Act.eval ⟨tmps, ds⟩) o) := by
  unfold pstep execOp
  split <;> rename_i heq <;> simp only [heq]
  · split
    · rename_i a ha; exact does_val (opnd_rel he ha)
    · trivial
  · split
    · rename_i a ha; exact does_val (opnd_rel he ha)
    · trivial
  · rename_i op t x y yt
    split
    · trivial
    · rename_i a ha
      split
      · trivial
      · rename_i b hb
        have hx := opnd_rel (ds := ds) he ha
        have hy := opnd_rel (ds := ds) he hb
        have h1 := pBin_ok hT (op := op) (t := t) hx hy
        have hg := fun (hne : pBin T op t a b ≠ .no) => guard_plain (P := P) (op := op) (t := t) (xo := x) (yo := y) (b := Act.eval ⟨tmps, ds⟩ y) (pBin_form hx hne)
        split
        · rename_i r hr
          rw [hr] at h1 hg
          obtain ⟨v, e1, e2⟩ := h1
          exact ⟨v, e1, fun w' hw => by simp [hg (by simp) w', e2 w' hw]⟩
        · rename_i c r hr
          rw [hr] at h1 hg
          intro hc
          obtain ⟨v, e1, e2⟩ := h1 hc
          exact ⟨v, e1, fun w' hw => by simp [hg (by simp) w', e2 w' hw]⟩
        · exact (pNilEq_ok hT hx hy).does
  · split
    · rename_i a ha; exact (pUn_ok (opnd_rel he ha)).does
    · trivial
  · split
    · rename_i a ha; exact (pConv_ok hT m (opnd_rel he ha)).does
    · trivial
  · split
    · rename_i a ha; exact (pIface_ok hT (opnd_rel he ha)).does
    · trivial
  · rename_i fn first caps
    split
    · split
      · trivial
      · rename_i as has
        have hr := opnds_rel (ds := ds) he has
        split
        · cases caps with
          | nil => exact ⟨_, .d (.v rfl), fun w' _ => by simp [Instr.makeFunc]⟩
          | cons c cs => cases hr
        · exact ⟨_, .fn hr, fun w' _ => by simp [Instr.makeFunc]⟩
    · trivial
  · split
    · trivial
    · rename_i a ha
      split
      · trivial
      · rename_i l hl
        split
        · trivial
        · rename_i h hh
          split
          · trivial
          · rename_i mm hm
            exact (pSlice_ok hT (opnd_rel he ha) (opndO_rel he hl) (opndO_rel he hh) (opndO_rel he hm)).does
  · split
    · rename_i a ha; exact (pFieldAddr_ok hT (opnd_rel he ha)).does
    · trivial
  · split
    · rename_i a ha; exact (pField_ok hT (opnd_rel he ha)).does
    · trivial
  · split
    · trivial
    · rename_i a ha
      split
      · rename_i b hb; exact (pIndexAddr_ok hT m (opnd_rel he ha) (opnd_rel he hb)).does
      · trivial
  · split
    · trivial
    · rename_i a ha
      split
      · rename_i b hb; exact (pIndex_ok hT (opnd_rel he ha) (opnd_rel he hb)).does
      · trivial
  · split
    · rename_i a ha; exact (pLoad_ok hT m (opnd_rel he ha)).does
    · trivial
  · split
    · rename_i a ha
      have hx := opnd_rel (ds := ds) he ha
      revert hx
      generalize Act.eval ⟨tmps, ds⟩ _ = v
      intro hx
      unfold pNil
      split <;> first
        | trivial
        | (cases hx <;> exact does_val (by constructor <;> assumption))
        | (cases hx with | d hx => cases hx; exact does_val (.d (by constructor <;> assumption)))
    · trivial
  · rename_i t ps
    split
    · rename_i as has
      have := (pBuild_ok hT (t := t) (parts_rel (ds := ds) he has)).does
      simpa using this
    · trivial
  · split
    · rename_i a ha; exact (pExtract_ok (opnd_rel he ha)).does
    · trivial
  · split
    · trivial
    · rename_i b hb
      have hv := litB_rel (ds := ds) he hb
      split
      · split
        · rename_i h1 a ha
          exact ⟨_, opnd_rel (ds := ds) he ha, fun w' _ => by simp [hv, asBool]⟩
        · trivial
      · split
        · rename_i h1 a ha
          exact ⟨_, opnd_rel (ds := ds) he ha, fun w' _ => by simp [hv, asBool]⟩
        · trivial
  · exact pCall_ok hT m he _ _
  · trivial

end Ab
