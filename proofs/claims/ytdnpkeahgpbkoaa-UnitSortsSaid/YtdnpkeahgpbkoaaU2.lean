/- A part of the proof. -/
import Derived.Test.YtdnpkeahgpbkoaaU1
namespace Go.Proofs.Ytdnpkeahgpbkoaa
open Go Ab
set_option maxRecDepth 100000
set_option linter.unusedVariables false

theorem isNaN_call (x : Int) : ACall Try.prog 48 [vI .i64 x] [] (fun r o => r = vB false) := by
  refine acall_enter Try.func48 rfl rfl (Nat.le_of_ble_eq_true rfl) fun C hC hCl => ?_
  refine sat_ret tabOk Try.func48 rfl trivial ?_
  show vB _ = vB _
  simp
def cmpI (a b : Int) : Int := if a < b then -1 else if b < a then 1 else 0
theorem Compare_call (a b : Int) : ACall Try.prog 37 [vI .i64 a, vI .i64 b] [] (fun r o => r = vI .i64 (cmpI a b)) := by
  refine acall_enter Try.func37 rfl rfl (Nat.le_of_ble_eq_true rfl) fun C hC hCl => ?_
  refine sat_call tabOk Try.func37 rfl trivial (isNaN_call a) (.refl _) rfl ⟨_, rfl⟩ (by rintro r o rfl; rfl) fun r o hr => ?_
  subst hr
  refine sat_call tabOk Try.func37 rfl trivial (isNaN_call b) (.refl _) rfl ⟨_, rfl⟩ (by rintro r o rfl; rfl) fun r o hr => ?_
  subst hr
  refine sat_branch tabOk Try.func37 rfl trivial (fun h => by cases h) (fun _ => ?_)
  refine sat_branch tabOk Try.func37 rfl trivial (fun h => by cases h) (fun _ => ?_)
  refine sat_branch tabOk Try.func37 rfl trivial (fun h => ?_) (fun h => ?_)
  · refine sat_ret tabOk Try.func37 rfl trivial ?_
    show vI .i64 _ = vI .i64 _
    simp at h
    simp [cmpI, h]
  · simp only [decide_eq_false_iff_not] at h
    refine sat_branch tabOk Try.func37 rfl trivial (fun h2 => ?_) (fun h2 => ?_) <;> simp only [decide_eq_true_eq, decide_eq_false_iff_not] at h2
    · refine sat_ret tabOk Try.func37 rfl trivial ?_
      show vI .i64 _ = vI .i64 _
      rw [cmpI, if_neg h, if_pos (by omega)]
    · refine sat_ret tabOk Try.func37 rfl trivial ?_
      show vI .i64 _ = vI .i64 _
      rw [cmpI, if_neg h, if_neg (by omega)]
theorem Or_call (a b : Int) : ACall Try.prog 36 [.d (.sl 1 [.v (.int .i64 a), .v (.int .i64 b)] (litRd [.v (.int .i64 a), .v (.int .i64 b)]))] [] (fun r o => r = vI .i64 (if a = 0 then b else a)) := by
  refine acall_enter Try.func36 rfl rfl (Nat.le_of_ble_eq_true rfl) fun C hC hCl => ?_
  refine sat_stop tabOk Try.func36 rfl trivial (sat_loop1 ?_)
  refine sat_branch tabOk Try.func36 rfl trivial (fun h => ?_) (fun h => by simp at h)
  refine sat_branch tabOk Try.func36 rfl (by simp) (fun h => ?_) (fun h => ?_)
  · have h : a ≠ 0 := by simpa using h
    refine sat_ret tabOk Try.func36 rfl trivial ?_
    show vI .i64 a = vI .i64 _
    rw [if_neg h]
  · have h : a = 0 := by simpa using h
    refine sat_stop tabOk Try.func36 rfl trivial (sat_in1 ?_)
    refine sat_branch tabOk Try.func36 rfl trivial (fun h2 => ?_) (fun h2 => by simp [wrap_id] at h2)
    refine sat_branch tabOk Try.func36 rfl (by simp [wrap_id]) (fun h2 => ?_) (fun h2 => ?_)
    · refine sat_ret tabOk Try.func36 rfl trivial ?_
      show vI .i64 b = vI .i64 _
      rw [if_pos h]
    · have h2 : b = 0 := by simpa using h2
      refine sat_stop tabOk Try.func36 rfl trivial (sat_in1 ?_)
      refine sat_branch tabOk Try.func36 rfl trivial (fun h3 => by simp [wrap_id] at h3) (fun h3 => ?_)
      refine sat_ret tabOk Try.func36 rfl trivial ?_
      show vI .i64 0 = vI .i64 _
      rw [if_pos h, h2]
def byI (a b : Int) : Int := if cmpI (max a (-a)) (max b (-b)) = 0 then cmpI a b else cmpI (max a (-a)) (max b (-b))
theorem by_call (a b : Int) (ha : -1000000 ≤ a ∧ a ≤ 1000000) (hb : -1000000 ≤ b ∧ b ≤ 1000000) : ACall Try.prog 31 [vI .i64 a, vI .i64 b] [] (fun r o => r = vI .i64 (byI a b)) := by
  refine acall_enter Try.func31 rfl rfl (Nat.le_of_ble_eq_true rfl) fun C hC hCl => ?_
  refine sat_call tabOk Try.func31 rfl trivial (Compare_call (max a (-a)) (max b (-b))) ?_ rfl ⟨_, rfl⟩ (by rintro r o rfl; rfl) fun r o hr => ?_
  · exact ⟨.of (by show vI .i64 (max a (IntKind.i64.wrap (0 - a))) = _; rw [wrap_id (by omega) (by omega), Int.zero_sub]), .of (by show vI .i64 (max b (IntKind.i64.wrap (0 - b))) = _; rw [wrap_id (by omega) (by omega), Int.zero_sub]), trivial⟩
  subst hr
  refine sat_call tabOk Try.func31 rfl trivial (Compare_call a b) (.refl _) rfl ⟨_, rfl⟩ (by rintro r o rfl; rfl) fun r o hr => ?_
  subst hr
  refine sat_call tabOk Try.func31 rfl trivial (Or_call _ _) (.refl _) rfl ⟨_, rfl⟩ (by rintro r o rfl; rfl) fun r o hr => ?_
  subst hr
  refine sat_ret tabOk Try.func31 rfl trivial ?_
  rfl
end Go.Proofs.Ytdnpkeahgpbkoaa
