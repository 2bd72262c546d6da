/- A part of the proof: B1. -/
import Derived.Test.YtjjlipbddlignaaGreatDoorP16
import Derived.Laws.Externs
set_option linter.unusedVariables false
set_option linter.unusedSimpArgs false
namespace Go.Proofs.YtjjlipbddlignaaGreatDoor
open Go Ab
set_option maxRecDepth 100000
set_option linter.unusedVariables false
set_option linter.unusedSimpArgs false

/-! ### strings.Builder -/
@[reducible] def adrB (a : Bool) : AV := match a with | true => .ptr 0 0 | false => .d (.v (.pointer none))
@[reducible] def nilS : AV := .d (.v (.slice none 0 0))
@[reducible] def gB (bs : List UInt8) : AObj := gL 5 1 eU8 0 bs
/-- Never written to; or 'addr' is set, the buffer nil. -/
@[reducible] def bF (a : Bool) : AObj := .cells 49 [adrB a, nilS]
@[reducible] def bW : AObj := .cells 49 [.ptr 0 0, .gs 1]

theorem NoEscape_call (o0 : AObj) : ACall Tryz.prog 54 [.ptr 0 0] [some o0] (fun r o => r = .ptr 0 0 ∧ o = [some o0]) := by
  intro X π w vs hgk hm hv
  cases hv with | cons h1 hv =>
  cases hv
  rename_i v
  refine .inr ⟨v, w, ?_, v, _, _, π, rfl, ⟨rfl, rfl⟩, hm, h1, .refl _ _ _⟩
  show (callFunc 54 #[v]).run Tryz.prog w = _
  rw [run_callFunc_extern (e := Extern.AbiNoEscape.same) Tryz.func54 rfl rfl (by kernel_rfl) (by kernel_rfl), Go.Lib.run_noEscape]
  rfl

theorem copyF_call (a : Bool) : ACall Tryz.prog 36 [.ptr 0 0] [some (bF a)] (fun r o => r = .tp [] ∧ o = [some (bF true)]) := by
  cases a with
  | false =>
    refine acall_enter Tryz.func36 rfl rfl (Nat.le_of_ble_eq_true rfl) fun C hC hCl hDs hGk => ?_
    refine sat_branch tabOk Tryz.func36 rfl trivial (fun _ => ?_) (fun h => by cases h)
    refine sat_goto tabOk Tryz.func36 rfl trivial ?_
    refine sat_toUnsafe rfl rfl rfl rfl rfl (by decide) Tryz.underlying47 Tryz.underlying87 (sz := 1) (by kernel_rfl) rfl ?_
    refine sat_callG [0] tabOk Tryz.func36 rfl trivial (NoEscape_call (bF false)) ⟨⟨_, rfl, .refl _⟩, trivial⟩ (.refl _) rfl rfl rfl ⟨_, rfl⟩ ?_
    rintro r o ⟨rfl, rfl⟩
    refine sat_goto tabOk Tryz.func36 rfl trivial ?_
    refine sat_fromUnsafe rfl rfl rfl rfl rfl Tryz.underlying87 Tryz.underlying47 (sz := 2) (by kernel_rfl) (by kernel_rfl) rfl ?_
    exact sat_retL tabOk Tryz.func36 rfl trivial hC hCl (.refl _) (o2 := [some (bF true)]) ⟨.refl _, trivial⟩ rfl rfl (Nat.le_refl _) ⟨rfl, rfl⟩
  | true =>
    refine acall_enter Tryz.func36 rfl rfl (Nat.le_of_ble_eq_true rfl) fun C hC hCl hDs hGk => ?_
    refine sat_branch tabOk Tryz.func36 rfl trivial (fun h => by cases h) (fun _ => ?_)
    refine sat_goto tabOk Tryz.func36 rfl trivial ?_
    refine sat_neqSame rfl rfl rfl rfl rfl rfl Tryz.underlying47 (sz := 2) (by kernel_rfl) rfl ?_
    exact sat_retL tabOk Tryz.func36 rfl trivial hC hCl (.refl _) (o2 := [some (bF true)]) ⟨.refl _, trivial⟩ rfl rfl (Nat.le_refl _) ⟨rfl, rfl⟩
theorem copyW_call (bs : List UInt8) : ACall Tryz.prog 36 [.ptr 0 0] [some bW, some (gB bs)] (fun r o => r = .tp [] ∧ o = [some bW, some (gB bs)]) := by
  refine acall_enter Tryz.func36 rfl rfl (Nat.le_of_ble_eq_true rfl) fun C hC hCl hDs hGk => ?_
  refine sat_branch tabOk Tryz.func36 rfl trivial (fun h => by cases h) (fun _ => ?_)
  refine sat_goto tabOk Tryz.func36 rfl trivial ?_
  refine sat_neqSame rfl rfl rfl rfl rfl rfl Tryz.underlying47 (sz := 2) (by kernel_rfl) rfl ?_
  exact sat_retL tabOk Tryz.func36 rfl trivial hC hCl (.refl _) (o2 := [some bW, some (gB bs)]) ⟨.refl _, .refl _, trivial⟩ rfl rfl (Nat.le_refl _) ⟨rfl, rfl⟩

theorem StringW_call (bs : List UInt8) (hne : bs ≠ []) : ACall Tryz.prog 23 [.ptr 0 0] [some bW, some (gB bs)] (fun r o => r = vS ⟨bs.toArray⟩ ∧ o = [none, none]) := by
  refine acall_enter Tryz.func23 rfl rfl (Nat.le_of_ble_eq_true rfl) fun C hC hCl hDs hGk => ?_
  refine sat_drawT 10 tabOk Tryz.func23 rfl rfl trivial (by kernel_rfl) ?_
  refine ds_steps 4 tabOk rfl trivial ?_
  refine ds_data rfl rfl rfl rfl rfl rfl hne rfl ?_
  refine ds_done tabOk rfl trivial ?_
  refine sat_bytes rfl rfl rfl rfl rfl rfl hne (by rw [List.length_map]) Tryz.underlying73 (by kernel_rfl) rfl ?_
  exact sat_retL tabOk Tryz.func23 rfl trivial hC hCl (.refl _) (o2 := [none, none]) trivial rfl rfl (Nat.le_refl _) ⟨rfl, rfl⟩
end Go.Proofs.YtjjlipbddlignaaGreatDoor
