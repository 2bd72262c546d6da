/- A part of the proof. -/
import Derived.Test.YtdnpkeahgpbkoaaU7
namespace Go.Proofs.Ytdnpkeahgpbkoaa
open Go Ab
set_option maxRecDepth 100000
set_option linter.unusedVariables false
set_option linter.unusedSimpArgs false

theorem Ints_call (a b : List Int) : ACall Try.prog 14 [.d (eIs a), .d (eIs b)] [] (fun r o => r = vB (decide (a = b))) := by
  refine acall_enter Try.func14 rfl rfl (Nat.le_of_ble_eq_true rfl) fun C hC hCl => ?_
  refine sat_len (t := 0) rfl fun hlen => ?_
  rw [List.length_map] at hlen
  refine sat_branch tabOk Try.func14 rfl trivial (fun h => ?_) (fun h => ?_)
  · refine sat_ret tabOk Try.func14 rfl trivial ?_
    show vB false = vB _
    have : a ≠ b := by rintro rfl; simp at h
    simp [this]
  · have hl : a.length = b.length := by simp at h; omega
    refine sat_stop tabOk Try.func14 rfl trivial ?_
    refine sat_while (α := Nat) (fun i => [(0, .d (eIs a)), (1, .d (eIs b)), (5, vI .i64 i)]) (fun _ => []) (fun i => i ≤ a.length ∧ a.take i = b.take i) (fun i => a.length - i) 0 ⟨Nat.zero_le _, rfl⟩ ?_ ?_
    · exact fun h => sat_le h hC hCl ⟨⟨_, rfl, .refl _⟩, ⟨_, rfl, .refl _⟩, ⟨_, rfl, .refl _⟩, trivial⟩ trivial rfl rfl (Nat.zero_le _)
    · rintro i ⟨hi, hc⟩ ih
      refine sat_branch tabOk Try.func14 rfl trivial (fun hb => ?_) (fun hb => ?_) <;> simp only [decide_eq_true_eq, decide_eq_false_iff_not, List.length_map] at hb
      · have hlt : i < a.length := by omega
        have hlb : i < b.length := by omega
        refine sat_draw tabOk Try.func14 rfl rfl trivial (by kernel_rfl) rfl ?_ ?_
        · simp only [Int.toNat_natCast, List.length_map]; exact ⟨⟨by omega, by omega⟩, ⟨by omega, by omega⟩, trivial⟩
        have ea : a.getD i 0 = a[i] := by simp [hlt]
        have eb : b.getD i 0 = b[i] := by simp [hlb]
        refine sat_branch tabOk Try.func14 rfl trivial (fun hb2 => ?_) (fun hb2 => ?_)
        · have hb2 : a.getD i 0 ≠ b.getD i 0 := by simpa using hb2
          refine sat_ret tabOk Try.func14 rfl trivial ?_
          show vB false = vB _
          have : a ≠ b := by rintro rfl; exact hb2 rfl
          simp [this]
        · have hb2 : a.getD i 0 = b.getD i 0 := by simpa using hb2
          rw [ea, eb] at hb2
          refine sat_stop tabOk Try.func14 rfl trivial ?_
          refine sat_le (ih (i + 1) ⟨by omega, ?_⟩ (by omega)) hC hCl ⟨⟨_, rfl, .refl _⟩, ⟨_, rfl, .refl _⟩, ⟨_, rfl, .of (by rw [wrap_id (by omega) (by omega)]; rfl)⟩, trivial⟩ trivial rfl rfl (Nat.zero_le _)
          rw [List.take_add_one, List.take_add_one, hc, List.getElem?_eq_getElem hlt, List.getElem?_eq_getElem hlb, hb2]
      · obtain rfl : i = a.length := by omega
        rw [List.take_length, hl, List.take_length] at hc
        refine sat_ret tabOk Try.func14 rfl trivial ?_
        show vB true = vB _
        simp [hc]

/-! ### Formulas -/
@[reducible] def eCnf (n : Int) (l : List (List Int)) : D := .ag [eI n, eIss l]
theorem Small_call (n : Int) (l : List (List Int)) (m : Int) (hll : l.length ≤ maxLen) : ACall Try.prog 22 [.d (eCnf n l), vI .i64 m] [] (fun r o => r = vB (decide ((l.length : Int) ≤ m) && l.all (fun c => decide ((c.length : Int) ≤ m)))) := by
  have hml : maxLen = 9223372036854775807 := rfl
  refine acall_enter Try.func22 rfl rfl (Nat.le_of_ble_eq_true rfl) fun C hC hCl => ?_
  refine sat_branch tabOk Try.func22 rfl trivial (fun h => ?_) (fun h => ?_)
  · refine sat_ret tabOk Try.func22 rfl trivial ?_
    show vB false = vB _
    have : ¬ (l.length : Int) ≤ m := by simpa using h
    simp [this]
  · have hm : (l.length : Int) ≤ m := by simpa using h
    refine sat_stop tabOk Try.func22 rfl trivial ?_
    refine sat_while (α := Nat) (fun i => [(1, vI .i64 m), (2, .ptr 0 0), (5, vI .i64 i)]) (fun _ => [some (.cells 35 [.d (eI n), .d (eIss l)])]) (fun i => i ≤ l.length ∧ l.all (fun c => decide ((c.length : Int) ≤ m)) = (l.drop i).all (fun c => decide ((c.length : Int) ≤ m))) (fun i => l.length - i) 0 ⟨Nat.zero_le _, rfl⟩ ?_ ?_
    · exact fun h => sat_le h hC hCl ⟨⟨_, rfl, .refl _⟩, ⟨_, rfl, .refl _⟩, ⟨_, rfl, .refl _⟩, trivial⟩ ⟨.refl _, trivial⟩ rfl rfl (Nat.zero_le _)
    · rintro i ⟨hi, hc⟩ ih
      refine sat_branch tabOk Try.func22 rfl trivial (fun hb => ?_) (fun hb => ?_) <;> simp only [decide_eq_true_eq, decide_eq_false_iff_not, List.length_map] at hb
      · have hlt : i < l.length := by omega
        have hget : l.getD i [] = l[i] := by simp [hlt]
        rw [List.drop_eq_getElem_cons hlt, List.all_cons] at hc
        generalize hx : l[i] = c at *
        refine sat_branch tabOk Try.func22 rfl ?_ (fun hb2 => ?_) (fun hb2 => ?_)
        · simp only [Int.toNat_natCast, List.length_map]; exact ⟨⟨by omega, by omega⟩, trivial⟩
        · have hb2 : ¬ (c.length : Int) ≤ m := by rw [← hget]; simpa using hb2
          refine sat_ret tabOk Try.func22 rfl trivial ?_
          show vB false = vB _
          rw [hc]
          simp [hb2]
        · have hb2 : (c.length : Int) ≤ m := by rw [← hget]; simpa using hb2
          refine sat_stop tabOk Try.func22 rfl trivial ?_
          refine sat_le (ih (i + 1) ⟨by omega, ?_⟩ (by omega)) hC hCl ⟨⟨_, rfl, .refl _⟩, ⟨_, rfl, .refl _⟩, ⟨_, rfl, .of (by rw [wrap_id (by omega) (by omega)]; rfl)⟩, trivial⟩ ⟨.refl _, trivial⟩ rfl rfl (Nat.zero_le _)
          rw [hc]
          simp [hb2]
      · obtain rfl : i = l.length := by omega
        rw [List.drop_length] at hc
        refine sat_ret tabOk Try.func22 rfl trivial ?_
        show vB true = vB _
        rw [hc]
        simp [hm]
end Go.Proofs.Ytdnpkeahgpbkoaa
