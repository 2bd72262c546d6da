/- A part of the proof: Ab52. -/
import Derived.Test.YtcenfhcemmlaeaaGreatDoorP13
import Derived.Below
set_option linter.unusedVariables false
set_option linter.unusedSimpArgs false
namespace Ab
open Go Go.RowKit

theorem below_acall {P : Program} {f : FuncId} {az : List AV} {vs : List Value} {v : Value} (hfl : flat v = true) (haz : ∀ w ok π us, RelVs w ok π az us → us = vs) (eg : ∀ args w, (callFunc f args).run P w = .ok (.enter f args) w)
    (h : ∀ w, Calls P f vs.toArray w fun e w' => e = .returned v ∧ Below w.heap.size w w') : ACall P f az [] (fun r o => r = .d (.v v)) := by
  intro X π w us m hv
  obtain rfl := haz _ _ _ _ hv
  refine .inl ⟨eg _ _, (h w).mono ?_⟩
  rintro e w' ⟨rfl, b⟩
  have t := tr_plain m b.os b.tape ⟨b.output, dr_le _ _⟩ b.size b.block
  exact ⟨v, _, [], π, rfl, rfl, t.mem, .d (.v hfl), t.hist⟩
end Ab
