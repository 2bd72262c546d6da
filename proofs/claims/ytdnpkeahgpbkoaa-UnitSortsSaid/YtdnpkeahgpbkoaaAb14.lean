/- Equality with nil; the pure step and its soundness. -/
import Derived.Test.YtdnpkeahgpbkoaaAb13
namespace Ab
open Go

theorem run_equal_of {P : Program} {w : World} {t : TypeId} {a b : Value} {r : Bool} (h : ∀ d, (Op.equalIn (d + 1) t a b).run P w = .ok r w) : (Op.equal t a b).run P w = .ok r w := h 9999

def isNilV : TK → Value → Prop
  | .iface _, v => v = .nilIface
  | .func, v => v = .nilFunc
  | .ptr, v => v = .pointer none
  | .slice _, v => v = .slice none 0 0
  | _, _ => False
def notNilV : TK → Value → Prop
  | .iface _, v => ∃ t u, v = .iface t u
  | .func, v => ∃ f a b, v = .func f a b
  | .ptr, v => ∃ a, v = .pointer (some a)
  | _, _ => False

theorem nilK_yes {w : World} {ok : Nat → Prop} {π : List Value} {k : TK} {x : AV} {v : Value} (h : nilK k x = .yes) (hx : RelV w ok π x v) : isNilV k v := by
  unfold nilK at h
  split at h <;> (try split at h) <;> first | (cases h; done) | (cases hx with | d hx => cases hx with | v _ => rfl)
theorem nilK_no {w : World} {ok : Nat → Prop} {π : List Value} {k : TK} {x : AV} {v : Value} (h : nilK k x = .no) (hx : RelV w ok π x v) : notNilV k v := by
  unfold nilK at h
  split at h <;> (try split at h) <;> first | (cases h; done) | (cases hx with | d hx => cases hx with | v _ => exact ⟨_, _, _, rfl⟩) | (cases hx with | d hx => cases hx with | ifc _ => exact ⟨_, _, rfl⟩) | (cases hx; exact ⟨_, _, rfl⟩) | (cases hx; exact ⟨_, _, _, rfl⟩) | (cases hx; exact ⟨_, rfl⟩)

def kdTy (P : Program) (t : TypeId) : TK → Prop
  | .iface _ => ∃ ms, P.underlying t = some (.interface ms)
  | .func => ∃ a b c, P.underlying t = some (.func a b c)
  | .ptr => ∃ e, P.underlying t = some (.pointer e)
  | .slice e => P.underlying t = some (.slice e)
  | _ => True
theorem kdTy_of {P : Program} {T : Tab} (hT : TabOk P T) {t : TypeId} {r : TRow} (hr : tlook T t = some r) : kdTy P t r.kd := by
  obtain ⟨i, d, hi, hd, _, _, _, hkd⟩ := (tab_row hT hr).ex
  cases hk : r.kd <;> rw [hk] at hkd <;> first
    | trivial
    | (cases d <;> first | exact ⟨_, hd⟩ | exact ⟨_, _, _, hd⟩ | (simp only [kdOk, beq_iff_eq] at hkd; subst hkd; exact hd) | (exact absurd hkd (by simp [kdOk])))

theorem eq_nil {P : Program} {t : TypeId} {k : TK} (hk : kdTy P t k) {a b : Value} {r : Bool} (h : (isNilV k a ∧ isNilV k b ∧ r = true) ∨ (isNilV k a ∧ notNilV k b ∧ r = false) ∨ (notNilV k a ∧ isNilV k b ∧ r = false)) (w : World) :
    (Op.equal t a b).run P w = .ok r w := by
  refine run_equal_of fun d => ?_
  cases k <;> simp only [isNilV, notNilV, kdTy, false_and, or_self, false_or, and_false] at h hk
  case ptr =>
    obtain ⟨e, he⟩ := hk
    rcases h with ⟨rfl, rfl, rfl⟩ | ⟨rfl, ⟨x, rfl⟩, rfl⟩ | ⟨⟨x, rfl⟩, rfl, rfl⟩ <;> simp [Op.equalIn, run_underlying he]
  case slice =>
    rcases h with ⟨rfl, rfl, rfl⟩ | h
    · simp [Op.equalIn, run_underlying hk]
    · simp at h
  case iface =>
    obtain ⟨ms, he⟩ := hk
    rcases h with ⟨rfl, rfl, rfl⟩ | ⟨rfl, ⟨x, y, rfl⟩, rfl⟩ | ⟨⟨x, y, rfl⟩, rfl, rfl⟩ <;> simp [Op.equalIn, run_underlying he]
  case func =>
    obtain ⟨a', b', c', he⟩ := hk
    rcases h with ⟨rfl, rfl, rfl⟩ | ⟨rfl, ⟨x, y, z, rfl⟩, rfl⟩ | ⟨⟨x, y, z, rfl⟩, rfl, rfl⟩ <;> simp [Op.equalIn, run_underlying he]

def nonArith (v : Value) : Prop := match v with | .int _ _ | .float _ _ | .complex _ _ _ | .string _ => False | _ => True
theorem binOp_eql {t : TypeId} {a b : Value} (h : nonArith a) : binOp .eql t a b = (do pure (.bool (← Op.equal t a b))) := by
  cases a <;> first | exact h.elim | (cases b <;> rfl)
theorem binOp_neq {t : TypeId} {a b : Value} (h : nonArith a) : binOp .neq t a b = (do pure (.bool (!(← Op.equal t a b)))) := by
  cases a <;> first | exact h.elim | (cases b <;> rfl)

theorem guard_nil {P : Program} {op : BinOp} {t : TypeId} {xo yo : Operand} {a b : Value} (hc : (isC xo || isC yo) = true) (ha : ∀ cs, a ≠ .agg cs) (w : World) : (eqGuard op t xo yo a b).run P w = .ok () w := by
  unfold eqGuard
  cases op <;> simp
  all_goals
    cases a <;> cases b <;> simp
    · cases xo <;> cases yo <;> simp_all [isC]
    · exact absurd rfl (ha _)

end Ab
