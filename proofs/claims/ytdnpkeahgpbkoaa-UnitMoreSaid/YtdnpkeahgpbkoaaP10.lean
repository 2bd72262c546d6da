/- A part of the proof: UR0. -/
import Derived.Test.YtdnpkeahgpbkoaaP9
import Derived.Test.YtdnpkeahgpbkoaaRows
import Derived.OpenShut
set_option linter.unusedVariables false
set_option linter.unusedSimpArgs false
namespace Go.Proofs.Ytdnpkeahgpbkoaa
open Go Ab Go.ChangeShapes Go.WideShapes Go.ChangeAt Go.RowKit
set_option linter.unusedVariables false
theorem own : ownKnob Try.prog.godebug = none := by kernel_rfl
theorem laidOut : laidOutB Try.prog = true := by kernel_rfl
theorem rdI : Reads Try.prog 3 eI (fun n => (Lit.int .i64 n).wf = true) := reads_int Try.underlying3 (by kernel_rfl)
theorem rdB : Reads Try.prog 4 (fun b => D.v (.bool b)) (fun _ => True) := reads_bool Try.underlying4 (by kernel_rfl)
def QIs (l : List Int) : Prop := (∀ a ∈ l, (Lit.int .i64 a).wf = true) ∧ l.length ≤ maxLen
def QIss (l : List (List Int)) : Prop := (∀ a ∈ l, QIs a) ∧ l.length ≤ maxLen
theorem rdIs : Reads Try.prog 23 (eL 1 eI 0) QIs := reads_slice 0 Try.underlying23 (by kernel_rfl) (by kernel_rfl) (by decide) rdI
theorem rdIss : Reads Try.prog 22 (eL 1 (eL 1 eI 0) []) QIss := reads_slice [] Try.underlying22 (by kernel_rfl) (by kernel_rfl) (by decide) rdIs
theorem rdBs : Reads Try.prog 30 (eL 1 (fun b : Bool => D.v (.bool b)) false) (fun l => (∀ a ∈ l, True) ∧ l.length ≤ maxLen) := reads_slice false Try.underlying30 (by kernel_rfl) (by kernel_rfl) (by decide) rdB
end Go.Proofs.Ytdnpkeahgpbkoaa
