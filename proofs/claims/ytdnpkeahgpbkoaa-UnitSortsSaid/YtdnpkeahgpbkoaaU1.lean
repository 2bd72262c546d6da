/- A part of the proof. -/
import Derived.Test.YtdnpkeahgpbkoaaU0
import Derived.Test.YtdnpkeahgpbkoaaAb30
namespace Go.Proofs.Ytdnpkeahgpbkoaa
open Go Ab
set_option maxRecDepth 100000


theorem In_call (l : List Int) (x : Int) : ACall Try.prog 21 [.d (eIs l), vI .i64 x] [] (fun r o => r = vB (l.contains x)) := by
  refine acall_enter Try.func21 rfl rfl (by show 2 ≤ 18; decide) fun C hC hCl => ?_
  refine sat_len (t := 0) rfl fun hlen => ?_
  rw [List.length_map] at hlen
  refine sat_stop tabOk Try.func21 rfl trivial ?_
  refine sat_while (α := Nat) (fun i => [(0, .d (eIs l)), (1, vI .i64 x), (5, vI .i64 i)]) (fun _ => []) (fun i => i ≤ l.length ∧ l.contains x = (l.drop i).contains x) (fun i => l.length - i) 0 ⟨Nat.zero_le _, rfl⟩ ?_ ?_
  · exact fun h => sat_le h hC hCl ⟨⟨_, rfl, .refl _⟩, ⟨_, rfl, .refl _⟩, ⟨_, rfl, .refl _⟩, trivial⟩ trivial rfl rfl (Nat.zero_le _)
  · rintro i ⟨hi, hc⟩ ih
    refine sat_branch tabOk Try.func21 rfl trivial (fun hb => ?_) (fun hb => ?_)
    · simp only [decide_eq_true_eq, List.length_map] at hb
      have hlt : i < l.length := by omega
      rw [List.drop_eq_getElem_cons hlt] at hc
      refine sat_branch tabOk Try.func21 rfl (by simp [hlt]) (fun hb2 => ?_) (fun hb2 => ?_)
      · simp [hlt] at hb2
        refine sat_ret tabOk Try.func21 rfl trivial ?_
        show vB true = vB (l.contains x)
        rw [hc]
        simp [hb2]
      · simp [hlt] at hb2
        refine sat_stop tabOk Try.func21 rfl trivial ?_
        refine sat_le (ih (i + 1) ⟨by omega, ?_⟩ (by omega)) hC hCl ⟨⟨_, rfl, .refl _⟩, ⟨_, rfl, .refl _⟩, ⟨_, rfl, .of (by rw [wrap_id (by omega) (by omega)]; rfl)⟩, trivial⟩ trivial rfl rfl (Nat.zero_le _)
        have : (x == l[i]) = false := by simp; exact fun e => hb2 e.symm
        rw [hc, List.contains_cons, this, Bool.false_or]
    · simp only [decide_eq_false_iff_not, List.length_map] at hb
      obtain rfl : i = l.length := by omega
      refine sat_ret tabOk Try.func21 rfl trivial ?_
      show vB false = vB (l.contains x)
      rw [hc]
      simp
end Go.Proofs.Ytdnpkeahgpbkoaa
