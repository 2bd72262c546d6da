/- Operations that only read, one by one. -/
import Derived.Test.YtdnpkeahgpbkoaaAb4
namespace Ab
open Go

/-- What stood is as it stood (new blocks may have come). -/
def Ext (w w' : World) : Prop := ∀ b, b < w.heap.size → w'.heap[b]? = w.heap[b]?
theorem Ext.refl (w : World) : Ext w w := fun _ _ => rfl
theorem Ext.cell {w w' : World} (h : Ext w w') {a : Addr} {v : Value} (hc : w.cell? a = some v) : w'.cell? a = some v := by
  have hb := World.block_lt_of_cell? w a hc
  unfold World.cell? at hc ⊢
  rw [h _ hb]
  exact hc

inductive PR where
  | ok (a : AV)
  | iff (c : Prop) (a : AV)
  | no

def Yields (P : Program) (w : World) (ok : Nat → Prop) (π : List Value) (a : AV) (s : Sem Value) : Prop :=
  ∃ v, RelV w ok π a v ∧ ∀ w', Ext w w' → s.run P w' = .ok v w'

def PRok (P : Program) (w : World) (ok : Nat → Prop) (π : List Value) : PR → Sem Value → Prop
  | .ok a, s => Yields P w ok π a s
  | .iff c a, s => c → Yields P w ok π a s
  | .no, _ => True

@[reducible] def vI (k : IntKind) (n : Int) : AV := .d (.v (.int k n))
@[reducible] def vB (b : Bool) : AV := .d (.v (.bool b))
@[reducible] def vS (s : ByteArray) : AV := .d (.v (.string s))

def kbeq : IntKind → IntKind → Bool
  | .i8, .i8 | .i16, .i16 | .i32, .i32 | .i64, .i64 | .u8, .u8 | .u16, .u16 | .u32, .u32 | .u64, .u64 => true
  | _, _ => false
theorem kbeq_eq {a b : IntKind} (h : kbeq a b = true) : a = b := by cases a <;> cases b <;> first | rfl | cases h

def bitI (k : IntKind) (n : Int) : BitVec k.bits := BitVec.ofInt k.bits n

def iBin (op : BinOp) (k : IntKind) (a b : Int) : PR :=
  match op with
  | .add => .ok (vI k (k.wrap (a + b)))
  | .sub => .ok (vI k (k.wrap (a - b)))
  | .mul => .ok (vI k (k.wrap (a * b)))
  | .quo => .iff (b ≠ 0) (vI k (k.wrap (a.tdiv b)))
  | .rem => .iff (b ≠ 0) (vI k (a.tmod b))
  | .and => .ok (vI k (k.wrap (bitI k a &&& bitI k b).toNat))
  | .or => .ok (vI k (k.wrap (bitI k a ||| bitI k b).toNat))
  | .xor => .ok (vI k (k.wrap (bitI k a ^^^ bitI k b).toNat))
  | .andNot => .ok (vI k (k.wrap (bitI k a &&& ~~~ bitI k b).toNat))
  | .eql => .ok (vB (a == b))
  | .neq => .ok (vB (a != b))
  | .lss => .ok (vB (decide (a < b)))
  | .leq => .ok (vB (decide (a ≤ b)))
  | .gtr => .ok (vB (decide (a > b)))
  | .geq => .ok (vB (decide (a ≥ b)))
  | _ => .no

def sBin (op : BinOp) (a b : ByteArray) : PR :=
  match op with
  | .add => .iff (a.size + b.size ≤ 9223372036854775807) (vS (a ++ b))
  | .eql => .ok (vB (a.toList == b.toList))
  | .neq => .ok (vB (!(a.toList == b.toList)))
  | .lss => .ok (vB (Op.bytesLess a.toList b.toList))
  | _ => .no

def isNil : AV → Bool
  | .d (.v .nilIface) | .d (.v .nilFunc) | .d (.v (.pointer none)) | .d (.v (.map none)) => true
  | _ => false

/-- Is it surely no nil? (interfaces, functions, maps, pointers) -/
def notNil (T : Tab) (t : TypeId) (x : AV) : Bool :=
  match tlook T t with
  | some r => match r.kd with
    | .iface _ => match x with | .ifc _ _ => true | .d (.ifc _ _) => true | _ => false
    | .func => match x with | .fn _ _ => true | .d (.v (.func _ _ _)) => true | _ => false
    | .map _ _ => match x with | .mp _ => true | _ => false
    | .ptr => match x with | .ptr _ _ => true | .ge _ _ _ _ => true | .ro _ => true | _ => false
    | _ => false
  | none => false

def pBin (T : Tab) (op : BinOp) (t : TypeId) (x y : AV) : PR :=
  match x with
  | .d (.v (.int k a)) => match y with
    | .d (.v (.int k' b)) => match op with
      | .shl => .iff (0 ≤ b) (vI k (k.wrap (a * 2 ^ (min b.toNat k.bits))))
      | .shr => .iff (0 ≤ b) (vI k (a.fdiv (2 ^ (min b.toNat k.bits))))
      | _ => match kbeq k k' with
        | true => iBin op k a b
        | false => .no
    | _ => .no
  | .d (.v (.string a)) => match y with
    | .d (.v (.string b)) => sBin op a b
    | _ => .no
  | .d (.v (.bool a)) => match y with
    | .d (.v (.bool b)) => match tlook T t with
      | some r => match r.kd with
        | .bool => match op with
          | .eql => .ok (vB (a == b))
          | .neq => .ok (vB (!(a == b)))
          | _ => .no
        | _ => .no
      | none => .no
    | _ => .no
  | _ => .no

theorem yields_val {P : Program} {w : World} {ok : Nat → Prop} {π : List Value} {x : Value} {s : Sem Value} (hf : flat x = true) (h : ∀ w', s.run P w' = .ok x w') : Yields P w ok π (.d (.v x)) s :=
  ⟨x, .d (.v hf), fun w' _ => h w'⟩

theorem iBin_ok {P : Program} {w : World} {ok : Nat → Prop} {π : List Value} {op : BinOp} {t : TypeId} {k : IntKind} {a b : Int} (hs : op ≠ .shl) (hs' : op ≠ .shr) :
    PRok P w ok π (iBin op k a b) (binOp op t (.int k a) (.int k b)) := by
  cases op <;> simp only [iBin, PRok]
  case quo => intro hb; exact yields_val rfl (fun w' => by simp [binOp, Op.intDiv, hb])
  case rem => intro hb; exact yields_val rfl (fun w' => by simp [binOp, Op.intDiv, hb])
  all_goals exact yields_val rfl (fun w' => by simp [binOp, Op.intArith, Op.intBits, Op.intCmp, bitI])

theorem sBin_ok {P : Program} {w : World} {ok : Nat → Prop} {π : List Value} {op : BinOp} {t : TypeId} {a b : ByteArray} :
    PRok P w ok π (sBin op a b) (binOp op t (.string a) (.string b)) := by
  cases op <;> simp only [sBin, PRok]
  case add =>
    intro h
    exact yields_val rfl (fun w' => by
      have := run_string_add_sum (P := P) (w := w') a b h
      simpa [binOp] using this)
  all_goals exact yields_val rfl (fun w' => by simp [binOp, Op.stringOp])

theorem run_eq_bool {P : Program} {t : TypeId} (hd : P.underlying t = some .bool) (a b : Bool) (w : World) : (Op.equal t (.bool a) (.bool b)).run P w = .ok (a == b) w := by
  have h : ∀ d, (Op.equalIn (d + 1) t (.bool a) (.bool b)).run P w = .ok (a == b) w := by
    intro d
    simp only [Op.equalIn, Sem.run_bind, run_underlying hd, Result.andThen_ok, Sem.run_pure]
  exact h 9999

theorem pBin_ok {P : Program} {T : Tab} (hT : TabOk P T) {w : World} {ok : Nat → Prop} {π : List Value} {op : BinOp} {t : TypeId} {x y : AV} {vx vy : Value} (hx : RelV w ok π x vx) (hy : RelV w ok π y vy) :
    PRok P w ok π (pBin T op t x y) (binOp op t vx vy) := by
  unfold pBin
  split
  · rename_i k a
    cases hx with | d hx => cases hx with | v _ =>
    split
    · rename_i k' b
      cases hy with | d hy => cases hy with | v _ =>
      split
      · intro h; exact yields_val rfl (fun w' => by simp [binOp, Op.shift, show ¬ b < 0 by omega])
      · intro h; exact yields_val rfl (fun w' => by simp [binOp, Op.shift, show ¬ b < 0 by omega])
      · rename_i h1 h2
        split
        · rename_i hk
          have := kbeq_eq hk
          subst this
          exact iBin_ok (fun e => h1 e) (fun e => h2 e)
        · trivial
    · trivial
  · rename_i a
    cases hx with | d hx => cases hx with | v _ =>
    split
    · rename_i b
      cases hy with | d hy => cases hy with | v _ =>
      exact sBin_ok
    · trivial
  · rename_i a
    cases hx with | d hx => cases hx with | v _ =>
    split
    · rename_i b
      cases hy with | d hy => cases hy with | v _ =>
      split
      · rename_i r hr
        split
        · rename_i hk
          obtain ⟨i, d, hi, hd, _, _, _, hkd⟩ := (tab_row hT hr).ex
          rw [hk] at hkd
          have hd' : P.underlying t = some .bool := by
            rw [hd]; cases d <;> first | rfl | simp [kdOk] at hkd
          split
          · exact yields_val rfl (fun w' => by simp only [binOp, Sem.run_bind, run_eq_bool hd', Result.andThen_ok, Sem.run_pure])
          · exact yields_val rfl (fun w' => by simp only [binOp, Sem.run_bind, run_eq_bool hd', Result.andThen_ok, Sem.run_pure])
          · trivial
        · trivial
      · trivial
    · trivial
  · trivial

end Ab
