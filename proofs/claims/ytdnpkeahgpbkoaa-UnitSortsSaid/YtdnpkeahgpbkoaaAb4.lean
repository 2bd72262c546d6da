/- Operations that only read: what they come to, and that they do. -/
import Derived.Test.YtdnpkeahgpbkoaaAb3
namespace Ab
open Go

/-! ### The table of types -/
structure Fld where
  off : Nat
  size : Nat
  agg : Bool

inductive TK where
  | bool | int (k : IntKind) | str | ptr | slice (e : TypeId) | array (n : Nat) (e : TypeId) | map (k e : TypeId) | struct (fs : List Fld) | iface (empty : Bool) | func | tuple | other

structure TRow where
  kd : TK
  size : Nat
  bytes : Nat
  zero : List Value

abbrev Tab := List (Nat × TRow)

def tlook : Tab → Nat → Option TRow
  | [], _ => none
  | (k, a) :: r, t => match Nat.beq k t with | true => some a | false => tlook r t

def TRow.isAgg (r : TRow) : Bool := match r.kd with | .struct _ | .array _ _ => true | _ => false

def Pagg (P : Program) (t : TypeId) : Bool := match P.underlying t with | some (.struct _) | some (.array _ _) => true | _ => false

def fldsOk (P : Program) : List Fld → List Field → Bool
  | [], [] => true
  | f :: fs, g :: gs => f.off == g.offset && (match P.info? g.type with | some i => i.size == f.size | none => false) && (P.underlying g.type).isSome && (Pagg P g.type == f.agg) && fldsOk P fs gs
  | _, _ => false

def kdOk (P : Program) : TK → TypeDesc → Bool
  | .bool, .bool => true
  | .int k, .int k' => k == k'
  | .str, .string => true
  | .ptr, .pointer _ => true
  | .slice e, .slice e' => e == e'
  | .array n e, .array n' e' => n == n' && e == e'
  | .map k e, .map k' e' => k == k' && e == e'
  | .struct fs, .struct gs => fldsOk P fs gs.toList
  | .iface b, .interface ms => b == ms.isEmpty
  | .func, .func _ _ _ => true
  | .tuple, .tuple _ => true
  | .other, .float _ => true
  | .other, .complex _ => true
  | .other, .unsafePointer => true
  | .other, .chan _ _ => true
  | _, _ => false

def veq : Value → Value → Bool
  | .bool a, .bool b => a == b
  | .int j a, .int k b => j == k && a == b
  | .string a, .string b => a.data.toList == b.data.toList
  | .pointer none, .pointer none => true
  | .slice none 0 0, .slice none 0 0 => true
  | .map none, .map none => true
  | .nilFunc, .nilFunc => true
  | .nilIface, .nilIface => true
  | _, _ => false

theorem veq_eq {a b : Value} (h : veq a b = true) : a = b := by
  unfold veq at h
  split at h <;> simp_all
  rename_i x y
  cases x; cases y; simp_all

def vseq : List Value → List Value → Bool
  | [], [] => true
  | a :: r, b :: s => veq a b && vseq r s
  | _, _ => false
theorem vseq_eq : ∀ {a b : List Value}, vseq a b = true → a = b
  | [], [], _ => rfl
  | a :: r, b :: s, h => by
    simp only [vseq, Bool.and_eq_true] at h
    rw [veq_eq h.1, vseq_eq h.2]
  | [], _ :: _, h => by simp [vseq] at h
  | _ :: _, [], h => by simp [vseq] at h

def zeroOk (r : TRow) : Option Value → Bool
  | some (.agg cs) => r.isAgg && vseq r.zero cs.toList
  | some v => !r.isAgg && vseq r.zero [v]
  | none => false

def rowOk (P : Program) (t : TypeId) (r : TRow) : Bool :=
  match P.info? t, P.underlying t with
  | some i, some d => i.size == r.size && i.bytes == r.bytes && zeroOk r i.zero && kdOk P r.kd d && r.zero.length == r.size
  | _, _ => false

def TabOk (P : Program) (T : Tab) : Prop := T.all (fun x => rowOk P x.1 x.2) = true

theorem tlook_mem : ∀ {T : Tab} {t : Nat} {r : TRow}, tlook T t = some r → (t, r) ∈ T
  | [], _, _, h => by simp [tlook] at h
  | (k, a) :: r, t, x, h => by
    simp only [tlook] at h
    split at h
    · rename_i e
      have e' : k = t := by simpa using e
      cases h
      subst e'
      exact List.mem_cons_self
    · exact List.mem_cons_of_mem _ (tlook_mem h)

structure RowOk (P : Program) (t : TypeId) (r : TRow) : Prop where
  ex : ∃ i d, P.info? t = some i ∧ P.underlying t = some d ∧ i.size = r.size ∧ i.bytes = r.bytes ∧ zeroOk r i.zero = true ∧ kdOk P r.kd d = true
  zl : r.zero.length = r.size

theorem tab_row {P : Program} {T : Tab} (h : TabOk P T) {t : Nat} {r : TRow} (hl : tlook T t = some r) : RowOk P t r := by
  have := List.all_eq_true.1 h _ (tlook_mem hl)
  simp only [rowOk] at this
  split at this
  · rename_i i d hi hd
    simp only [Bool.and_eq_true, beq_iff_eq] at this
    exact ⟨⟨i, d, hi, hd, this.1.1.1.1, this.1.1.1.2, this.1.1.2, this.1.2⟩, this.2⟩
  · cases this

theorem RowOk.agg {P : Program} {t : TypeId} {r : TRow} (h : RowOk P t r) (w : World) : (isAgg t).run P w = .ok r.isAgg w := by
  obtain ⟨⟨i, d, hi, hd, _, _, _, hk⟩, _⟩ := h
  simp only [isAgg, Sem.run_bind, run_underlying hd, Result.andThen_ok]
  unfold TRow.isAgg
  revert hk
  cases r.kd <;> cases d <;> simp [kdOk]

theorem RowOk.sizeOf {P : Program} {t : TypeId} {r : TRow} (h : RowOk P t r) (w : World) : (Go.sizeOf t).run P w = .ok r.size w := by
  obtain ⟨⟨i, d, hi, hd, hs, _⟩, _⟩ := h
  simp [Go.sizeOf, run_typeInfo w hi, Result.andThen, hs]

end Ab
