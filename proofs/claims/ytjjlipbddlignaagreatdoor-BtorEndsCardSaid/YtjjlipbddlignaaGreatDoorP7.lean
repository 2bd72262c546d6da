/- A part of the proof: Ab52, K30, Ab78, Ab35. -/
import Derived.Test.YtjjlipbddlignaaGreatDoorP6
import Derived.Below
set_option linter.unusedVariables false
set_option linter.unusedSimpArgs false
set_option linter.unusedSectionVars false
namespace Ab
open Go Go.RowKit
variable [Draws]

/-- The same of a contract that leans on tables. -/
theorem below_acallT {P : Program} [Globals P] (hdr : ∀ w w' : World, dr w ≤ dr w') {f : FuncId} {az : List AV} {vs : List Value} {v : Value} (hfl : flat v = true) (haz : ∀ w ok π us, RelVs w ok π az us → us = vs) (eg : ∀ args w, (callFunc f args).run P w = .ok (.enter f args) w)
    (h : ∀ w, Globals.tb P w → Calls P f vs.toArray w fun e w' => e = .returned v ∧ Below w.heap.size w w') : ACall P f az [] (fun r o => r = .d (.v v)) := by
  intro X π w us g m hv
  obtain rfl := haz _ _ _ _ hv
  refine .inl ⟨eg _ _, (h w g.tb).mono ?_⟩
  rintro e w' ⟨rfl, b⟩
  have t := tr_plain m b.os b.tape ⟨b.output, hdr _ _⟩ b.size b.block
  exact ⟨v, _, [], π, rfl, rfl, t.mem, .d (.v hfl), t.hist⟩
end Ab
namespace Go.Proofs.YtjjlipbddlignaaGreatDoor
open Go Ab Go.RowKit
set_option maxRecDepth 100000
set_option linter.unusedVariables false

theorem below_grow (w : World) (k : Nat) (os : Array Obj) : Below w.heap.size w (Go.Sort.grow (w.drewN k) os) := by
  refine ⟨rfl, rfl, rfl, by simp [Go.Sort.grow, World.drewN], fun b hb => ?_⟩
  show (w.heap ++ os)[b]? = _
  rw [Array.getElem?_append_left hb]
@[reducible] def tItoa (n : Int) : List UInt8 := Go.Lib.itoa n
@[reducible] def vTx (l : List UInt8) : AV := .d (.v (.string ⟨l.toArray⟩))
theorem FormatInt_call (n : Int) (h0 : -9223372036854775808 ≤ n) (h1 : n ≤ 9223372036854775807) : ACall Tryz.prog 53 [vI .i64 n, vI .i64 10] [] (fun r o => r = vTx (tItoa n)) :=
  below_acallT (fun _ _ => Nat.le_refl _) rfl (vs := [.int .i64 n, .int .i64 10]) (fun w ok π us h => by
    cases h with | cons h1 h => cases h with | cons h2 h => cases h with | nil =>
    cases h1 with | d h1 => cases h1 with | v _ => cases h2 with | d h2 => cases h2 with | v _ => rfl) (fun args w => callFunc_run Tryz.func53 rfl rfl args w) fun w ht => (Any.internal_strconv_FormatInt_10 Tryz.itoaL n h0 h1 w (tb_pow ht)).mono fun e w' ⟨he, k, os, hw⟩ => ⟨he, hw ▸ below_grow w k os⟩
theorem iItoa_call (n : Int) (h0 : -9223372036854775808 ≤ n) (h1 : n ≤ 9223372036854775807) : ACall Tryz.prog 34 [vI .i64 n] [] (fun r o => r = vTx (tItoa n)) := by
  refine acall_enter Tryz.func34 rfl rfl (Nat.le_of_ble_eq_true rfl) fun C hC hCl hDs hGk => ?_
  refine sat_call tabOk Tryz.func34 rfl trivial (FormatInt_call n h0 h1) (.refl _) rfl ⟨_, rfl⟩ (by rintro r o rfl; rfl) ?_
  rintro _ o rfl
  exact sat_ret tabOk Tryz.func34 rfl trivial rfl
theorem Itoa_call (n : Int) (h0 : -9223372036854775808 ≤ n) (h1 : n ≤ 9223372036854775807) : ACall Tryz.prog 19 [vI .i64 n] [] (fun r o => r = vTx (tItoa n)) := by
  refine acall_enter Tryz.func19 rfl rfl (Nat.le_of_ble_eq_true rfl) fun C hC hCl hDs hGk => ?_
  refine sat_call tabOk Tryz.func19 rfl trivial (iItoa_call n h0 h1) (.refl _) rfl ⟨_, rfl⟩ (by rintro r o rfl; rfl) ?_
  rintro _ o rfl
  exact sat_ret tabOk Tryz.func19 rfl trivial rfl
end Go.Proofs.YtjjlipbddlignaaGreatDoor
set_option linter.unusedSimpArgs false
set_option linter.unusedVariables false
set_option linter.unusedSectionVars false
namespace Ab
open Go
variable [Draws]

section
variable {α : Type} [Inhabited α] {enc : α → Value}

theorem relE_enc {w : World} {ok : Nat → Prop} : ∀ {l : List α} {us : List Value}, RelE w ok 1 (l.map fun x => D.v (enc x)) us → us = l.map enc
  | [], us, h => by
    simp only [List.map_nil] at h
    cases h; rfl
  | x :: r, us, h => by
    simp only [List.map_cons] at h
    cases h with
    | cons h hl t =>
      cases h with
      | cons h hf t' =>
        cases t'
        cases h
        rw [relE_enc t]
        rfl
end
end Ab
set_option linter.unusedSimpArgs false
set_option linter.unusedVariables false
set_option linter.unusedSectionVars false
namespace Ab
open Go
variable [Draws]

section
variable {P : Program} [Globals P] {T : Tab} {f : FuncId} {fn : Func} {n : Nat} {C : Cx} {R R1 : AV → List (Option AObj) → Prop} {todo todo' : List Item} {env env' : Env} {objs objs' : List (Option AObj)} {nd : Prop}

/-! ### A slice's header is kept -/
end
end Ab
