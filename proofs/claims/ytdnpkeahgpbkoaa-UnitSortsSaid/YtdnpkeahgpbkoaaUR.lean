/- Whatever the input, vidimuslaw04.UnitSorts returns true and what came in reads as it did. Conditions: none. -/
import Derived.Test.YtdnpkeahgpbkoaaU14
import Derived.Test.YtdnpkeahgpbkoaaAb37
import Derived.Test.YtdnpkeahgpbkoaaRows
import Derived.OpenShut
namespace Go.Proofs.Ytdnpkeahgpbkoaa
open Go Ab Go.ChangeShapes Go.WideShapes Go.ChangeAt Go.RowKit
set_option linter.unusedVariables false
theorem own : ownKnob Try.prog.godebug = none := by kernel_rfl
theorem laidOut : laidOutB Try.prog = true := by kernel_rfl
theorem rdI : Reads Try.prog 3 eI (fun n => (Lit.int .i64 n).wf = true) := reads_int Try.underlying3 (by kernel_rfl)
theorem rdIs : Reads Try.prog 23 (eL 1 eI 0) (fun l => (∀ a ∈ l, (Lit.int .i64 a).wf = true) ∧ l.length ≤ maxLen) := reads_slice 0 Try.underlying23 (by kernel_rfl) (by kernel_rfl) (by decide) rdI
theorem rdIss : Reads Try.prog 22 (eL 1 (eL 1 eI 0) []) (fun l => (∀ a ∈ l, (∀ b ∈ a, (Lit.int .i64 b).wf = true) ∧ a.length ≤ maxLen) ∧ l.length ≤ maxLen) := reads_slice [] Try.underlying22 (by kernel_rfl) (by kernel_rfl) (by decide) rdIs

set_option maxRecDepth 100000 in
theorem unitSorts_lifted (os : Os) (started : os.Started) (H : Type) (enc : TypeId × Value → H) :
    ReturnsInHanded {} Try.checked os 9 .any (Rows.unitSortsSpec.pre6 enc Try.prog Try.f9 Rows.unitSortsRow.domain false) (Rows.unitSortsSpec.post enc Try.prog Try.f9 false true false false) := by
  refine returnsInHanded_of_change (C := Try.checked) own started (by kernel_rfl) Try.func9
    (ChangeSpec.witness6 (enc := enc) (C := Try.checked) false ⟨#[], #[.int .i64 0, .slice none 0 0], []⟩ 8 (by kernel_rfl) (by kernel_rfl) (by kernel_rfl) (by kernel_rfl)) ?_
  intro W base args ds gs before hval0 hW hcnd _
  have hval : ∀ (j : Nat) t v, Try.f9.params[j]? = some t → args[j]? = some v → Value.okWide Try.prog W .any base t v := hval0
  have hW' := hW
  obtain ⟨p, q, hA0, hV, rfl, hfz, hnd⟩ := hW
  have hA : DataW.TrodAll enc Try.prog W 0 (fun _ => true) true Try.f9.params.toList args.toList ds p := hA0
  rw [Try.params9] at hA hval
  obtain ⟨v0, vs0, d0, ds0, p0, q0, hargs, rfl, rfl, h0, r0⟩ := trodAll_cons hA
  obtain ⟨v1, vs1, d1, ds1, p1, q1, rfl, rfl, rfl, h1, r1⟩ := trodAll_cons r0
  obtain ⟨rfl, rfl, rfl⟩ := trodAll_nil r1
  obtain rfl : args = #[v0, v1] := by cases args; simp_all
  obtain ⟨rfl, rfl⟩ := trodVars_none hV
  have l0 : ∀ x ∈ p0, x.block < W.heap.size := by obtain ⟨m, hm⟩ := h0; exact DataW.trod_lt m _ _ _ hm
  have l1 : ∀ x ∈ p1, x.block < W.heap.size := by obtain ⟨m, hm⟩ := h1; exact DataW.trod_lt m _ _ _ hm
  obtain ⟨n, w0, y0⟩ := rdI.arg h0 (by obtain ⟨_, rfl, _, _, _⟩ := open_int Try.underlying3 (hval 0 3 v0 rfl rfl) h0; exact fun cs e => by cases e) _ ok_all
  obtain ⟨c, w1, y1⟩ := rdIs.arg h1 (by obtain ⟨_, _, _, rfl⟩ := okWide_slice Try.underlying23 (hval 1 23 v1 rfl rfl); exact fun cs e => by cases e) _ ok_all
  refine (law_calls Try.func9 rfl rfl (UnitSorts_law n c w1.2) (.cons (relV_of rfl y0) (.cons (relV_of rfl y1) .nil))).mono fun e W' ⟨he, bel⟩ => ?_
  subst he
  exact ⟨_, rfl, _, _, _, [], _, [], hW', trodAll_mk1 (shut_bool Try.underlying4 _), trodAll_cons_mk (Below.trod laidOut (by kernel_rfl) (of_decide_eq_true (by kernel_rfl)) h0 bel l0) (trodAll_cons_mk (Below.trod laidOut (by kernel_rfl) (of_decide_eq_true (by kernel_rfl)) h1 bel l1) trodAll_mk0), rfl, bel.frame _, fun h => by cases h⟩

theorem unitSorts_holds : Rows.UnitSortsSaid :=
  OpenClaim.holds_of_wide 9 Try.f9 rfl rfl rfl rfl rfl rfl rfl ⟨rfl, rfl, rfl, rfl, rfl⟩ rfl rfl rfl rfl rfl (by kernel_rfl) Try.func9 (by kernel_rfl)
    (of_decide_eq_true (by kernel_rfl)) (by unfold Func.isWrapper; first | (rw [if_pos (by decide +kernel)]; kernel_rfl) | (rw [if_neg (by decide +kernel)]; exact ⟨rfl, rfl⟩))
    (fun os started H enc _ => unitSorts_lifted os started H enc)
end Go.Proofs.Ytdnpkeahgpbkoaa
