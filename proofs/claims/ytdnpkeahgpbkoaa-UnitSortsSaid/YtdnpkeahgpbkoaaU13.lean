/- A part of the proof. -/
import Derived.Test.YtdnpkeahgpbkoaaU12
namespace Go.Proofs.Ytdnpkeahgpbkoaa
open Go Ab
set_option maxRecDepth 100000
set_option linter.unusedVariables false
set_option linter.unusedSimpArgs false

theorem exL_ok : ∀ c ∈ exL, ∀ x ∈ c, litOk 3 x := by decide
theorem exL_vle : VLe (.d (.sl 1 (exL.map fun c => .sl 1 (c.map eI) (litRd (c.map eI))) (litRd (exL.map fun c => .sl 1 (c.map eI) (litRd (c.map eI)))))) (.d (eIss exL)) := .sl_c (lit_rows eI 0 exL 1)

theorem shown_call : ACall Try.prog 10 [] [] (fun r o => r = vB true) := by
  refine acall_enter Try.func10 rfl rfl (Nat.le_of_ble_eq_true rfl) fun C hC hCl => ?_
  refine sat_call tabOk Try.func10 rfl trivial (Close_call 3 exL [-2] (by decide) exL_ok (by decide) (by decide) delOk) ⟨.refl _, exL_vle, .eL rfl, trivial⟩ rfl ⟨_, rfl⟩ ?_ ?_
  · rintro r o ⟨s, h1, _, rfl⟩
    simp only [closeEnd, (ex1 h1).1]
    rfl
  rintro r o ⟨s, h1, _, rfl⟩
  have e1 : closeEnd s = .tp [.d (eIs [1, -2, 3]), vB false] := by
    simp only [closeEnd, (ex1 h1).1, (ex1 h1).2]
    rfl
  rw [e1]
  refine sat_call tabOk Try.func10 rfl trivial (Close_call 3 exL [-2, -3] (by decide) exL_ok (by decide) (by decide) delOk) ⟨.refl _, exL_vle, .eL rfl, trivial⟩ rfl ⟨_, rfl⟩ ?_ ?_
  · rintro r o ⟨s, h1, _, rfl⟩
    simp only [closeEnd, ex2 h1]
    rfl
  rintro r o ⟨s2, h2, _, rfl⟩
  have e2 : closeEnd s2 = .tp [.d (.v (.slice none 0 0)), vB true] := by
    simp only [closeEnd, ex2 h2]
    rfl
  rw [e2]
  refine sat_branch tabOk Try.func10 rfl trivial (fun _ => ?_) (fun h => by cases h)
  refine sat_call tabOk Try.func10 rfl trivial (Ints_call [1, -2, 3] [1, -2, 3]) ⟨.refl _, .eL rfl, trivial⟩ rfl ⟨_, rfl⟩ (by rintro r o rfl; rfl) ?_
  rintro r o rfl
  refine sat_branch tabOk Try.func10 rfl trivial (fun _ => ?_) (fun h => by simp at h)
  refine sat_branch tabOk Try.func10 rfl trivial (fun _ => ?_) (fun h => by cases h)
  refine sat_call tabOk Try.func10 rfl trivial (Refutes_call 3 exL [2, 3] (by decide) exL_ok (by decide) (by decide) (by decide)) ⟨.refl _, exL_vle, .eL rfl, trivial⟩ rfl ⟨_, rfl⟩ (by rintro r o ⟨s, _, _, rfl⟩; rfl) ?_
  rintro r o ⟨s3, h3, _, rfl⟩
  rw [ex2 h3]
  refine sat_branch tabOk Try.func10 rfl trivial (fun _ => ?_) (fun h => by cases h)
  refine sat_call tabOk Try.func10 rfl trivial (Refutes_call 3 exL [2] (by decide) exL_ok (by decide) (by decide) (by decide)) ⟨.refl _, exL_vle, .eL rfl, trivial⟩ rfl ⟨_, rfl⟩ (by rintro r o ⟨s, _, _, rfl⟩; rfl) ?_
  rintro r o ⟨s4, h4, _, rfl⟩
  rw [(ex1 h4).1]
  refine sat_branch tabOk Try.func10 rfl trivial (fun _ => ?_) (fun h => by cases h)
  refine sat_call tabOk Try.func10 rfl trivial (Sort_call [2, -1, 2, 1] (by decide) (by decide)) ⟨.eL rfl, trivial⟩ rfl ⟨_, rfl⟩ (by rintro r o rfl; rfl) ?_
  rintro r o rfl
  rw [ex4]
  refine sat_call tabOk Try.func10 rfl trivial (Ints_call [-1, 1, 2] [-1, 1, 2]) ⟨.refl _, .eL rfl, trivial⟩ rfl ⟨_, rfl⟩ (by rintro r o rfl; rfl) ?_
  rintro r o rfl
  refine sat_ret tabOk Try.func10 rfl trivial ?_
  show vB _ = vB true
  simp

def mayP (n : Int) (l : List (List Int)) (c : List Int) : Prop := 0 ≤ n ∧ n ≤ 60 ∧ l.length ≤ 40 ∧ (∀ d ∈ l, d.length ≤ 40 ∧ ∀ x ∈ d, litOk n x) ∧ c.length ≤ 40 ∧ ∀ x ∈ c, litOk n x
def mayR (n : Int) (l : List (List Int)) (c : List Int) (r : AV) (_ : List (Option AObj)) : Prop := ∃ b, r = vB b ∧ (b = true → mayP n l c)
theorem may_call (n : Int) (l : List (List Int)) (c : List Int) (hll : l.length ≤ maxLen) (hlc : ∀ c ∈ l, c.length ≤ maxLen) (hcl : c.length ≤ maxLen) :
    ACall Try.prog 11 [vI .i64 n, .d (eIss l), .d (eIs c)] [] (mayR n l c) := by
  refine acall_enter Try.func11 rfl rfl (Nat.le_of_ble_eq_true rfl) fun C hC hCl => ?_
  have no : ∀ {nd : Prop} {todo env objs o}, srun tab Try.f11.ntmps Try.f11.results.toList 2000 True todo env objs = .ret nd (vB false) o → nd → ASat Try.prog 11 Try.f11.ntmps C todo env objs (mayR n l c) := fun h1 h2 => sat_ret tabOk Try.func11 h1 h2 ⟨false, rfl, fun h => by cases h⟩
  refine sat_branch tabOk Try.func11 rfl trivial (fun h1 => ?_) (fun h1 => ?_)
  · have h1 : n ≤ 60 := by simpa using h1
    refine sat_call tabOk Try.func11 rfl trivial (Small_call n l 40 hll) ⟨.refl _, .refl _, trivial⟩ rfl ⟨_, rfl⟩ (by rintro r o rfl; rfl) ?_
    rintro r o rfl
    refine sat_branch tabOk Try.func11 rfl trivial (fun h2 => ?_) (fun h2 => ?_)
    · refine sat_call tabOk Try.func11 rfl trivial (Right_call n l hll hlc) ⟨.refl _, trivial⟩ rfl ⟨_, rfl⟩ (by rintro r o rfl; rfl) ?_
      rintro r o rfl
      refine sat_branch tabOk Try.func11 rfl trivial (fun h3 => ?_) (fun h3 => ?_)
      · refine sat_call tabOk Try.func11 rfl trivial (Small_call n [c] 40 (Nat.le_of_ble_eq_true rfl)) ⟨.dag ⟨.refl _, .eL rfl, trivial⟩, .refl _, trivial⟩ rfl ⟨_, rfl⟩ (by rintro r o rfl; rfl) ?_
        rintro r o rfl
        refine sat_branch tabOk Try.func11 rfl trivial (fun h4 => ?_) (fun h4 => ?_)
        · refine sat_call tabOk Try.func11 rfl trivial (Right_call n [c] (Nat.le_of_ble_eq_true rfl) (by simpa using hcl)) ⟨.dag ⟨.refl _, .eL rfl, trivial⟩, trivial⟩ rfl ⟨_, rfl⟩ (by rintro r o rfl; rfl) ?_
          rintro r o rfl
          refine sat_ret tabOk Try.func11 rfl trivial ⟨rightB n [c], rfl, fun h5 => ?_⟩
          simp [rightB, clOk] at h2 h3 h4 h5
          refine ⟨h3.1.1, h1, by omega, fun d hd => ⟨by have := h2.2 d hd; omega, fun x hx => (h3.2 d hd).2 x hx⟩, by omega, h5.2.2⟩
        · exact no rfl trivial
      · refine sat_branch tabOk Try.func11 rfl trivial (fun h => by cases h) (fun _ => ?_)
        exact no rfl trivial
    · refine sat_branch tabOk Try.func11 rfl trivial (fun h => by cases h) (fun _ => ?_)
      refine sat_branch tabOk Try.func11 rfl trivial (fun h => by cases h) (fun _ => ?_)
      exact no rfl trivial
  · refine sat_branch tabOk Try.func11 rfl trivial (fun h => by cases h) (fun _ => ?_)
    refine sat_branch tabOk Try.func11 rfl trivial (fun h => by cases h) (fun _ => ?_)
    refine sat_branch tabOk Try.func11 rfl trivial (fun h => by cases h) (fun _ => ?_)
    exact no rfl trivial
end Go.Proofs.Ytdnpkeahgpbkoaa
