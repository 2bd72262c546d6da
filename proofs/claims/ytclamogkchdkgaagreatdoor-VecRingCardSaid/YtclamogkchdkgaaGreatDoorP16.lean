/- A part of the proof: VR0. -/
import Derived.Test.YtclamogkchdkgaaGreatDoorP15
import Derived.Test.YtclamogkchdkgaaGreatDoorRows
import Derived.Test.YtclamogkchdkgaaGreatDoorCards
import Derived.Test.YtclamogkchdkgaaGreatDoorTie
import Derived.ProofKit
import Derived.OpenShut
import Derived.LaidMore
import Derived.Lay
import Derived.SevenTiedAt
import Derived.Stop.Joined
set_option linter.unusedVariables false
set_option linter.unusedSimpArgs false
namespace Go.Proofs.YtclamogkchdkgaaGreatDoor
open Go Ab Go.ChangeShapes Go.WideShapes Go.ChangeAt Go.RowKit
set_option linter.unusedVariables false
theorem own : ownKnob Tryz.prog.godebug = none := by kernel_rfl
theorem laidOut : laidOutB Tryz.prog = true := by kernel_rfl
theorem rdI : Reads Tryz.prog 3 eI (fun n => (Lit.int .i64 n).wf = true) := reads_int Tryz.underlying3 (by kernel_rfl)
theorem rdB : Reads Tryz.prog 4 (fun b => D.v (.bool b)) (fun _ => True) := reads_bool Tryz.underlying4 (by kernel_rfl)
theorem rdS : Reads Tryz.prog 9 (fun b : ByteArray => D.v (.string b)) (fun b => b.size ≤ maxLen) := reads_string Tryz.underlying9 (by kernel_rfl)
theorem rdU0 : Reads Tryz.prog 65 (fun n : Int => D.v (.int .u64 n)) (fun n => (Lit.int .u64 n).wf = true) := reads_int Tryz.underlying65 (by kernel_rfl)
theorem wfU {a : Int} (h : (Lit.int .u64 a).wf = true) : ∃ n : Nat, a = n ∧ n < 18446744073709551616 := by
  have h : (decide ((0 : Int) ≤ a) && decide (a ≤ 18446744073709551615)) = true := h
  simp only [Bool.and_eq_true, decide_eq_true_eq] at h
  exact ⟨a.toNat, by omega, by omega⟩
theorem rdU : Reads Tryz.prog 65 eU (fun n => n < 18446744073709551616) where
  len a := rdU0.len (a : Int)
  rd eH w fuel cs x ok hok h := by
    obtain ⟨a, qa, ra⟩ := rdU0.rd eH w fuel cs x ok hok h
    obtain ⟨n, rfl, hn⟩ := wfU qa
    exact ⟨n, hn, ra⟩
def QV (l : List Nat) : Prop := lims l ∧ l.length ≤ maxLen
theorem rdUs : Reads Tryz.prog 22 (eL 1 eU 0) QV := reads_slice 0 Tryz.underlying22 (by kernel_rfl) (by kernel_rfl) (by decide) rdU
theorem rdV : Reads Tryz.prog 24 (fun a : Int × List Nat × Unit => D.ag ((eI a.1).cells ++ ((eL 1 eU 0 a.2.1).cells ++ []))) (fun a => (Lit.int .i64 a.1).wf = true ∧ QV a.2.1 ∧ True) := by
  have h := reads_struct (P := Tryz.prog) Tryz.underlying24 (by kernel_rfl) (readsF_cons (s := 1) rfl (by kernel_rfl) rdI (readsF_cons (s := 1) rfl (by kernel_rfl) rdUs readsF_nil))
  exact h
end Go.Proofs.YtclamogkchdkgaaGreatDoor
