/- A part of the proof. -/
import Derived.Test.YtdnpkeahgpbkoaaU9
import Derived.Test.YtdnpkeahgpbkoaaAb38
namespace Go.Proofs.Ytdnpkeahgpbkoaa
open Go Ab
set_option maxRecDepth 100000
set_option linter.unusedVariables false
set_option linter.unusedSimpArgs false

theorem negs_set (c : List Int) (i : Nat) (hi : i < c.length) : ((c.take i).map (fun x => -x) ++ List.replicate (c.length - i) 0).set i (-c[i]) = (c.take (i + 1)).map (fun x => -x) ++ List.replicate (c.length - (i + 1)) 0 := by
  apply List.ext_getElem?
  intro j
  have hl : ((c.take i).map (fun x => -x)).length = i := by simp; omega
  have hl1 : ((c.take (i + 1)).map (fun x => -x)).length = i + 1 := by simp; omega
  rw [List.getElem?_set]
  by_cases e : i = j
  · subst e
    rw [if_pos rfl, if_pos (by simp; omega), List.getElem?_append_left (by omega)]
    simp [hi]
  · rw [if_neg e]
    rcases Nat.lt_or_ge j i with h | h
    · rw [List.getElem?_append_left (by omega), List.getElem?_append_left (by omega)]
      simp [List.getElem?_take, h, Nat.lt_succ_of_lt h]
    · rw [List.getElem?_append_right (by omega), List.getElem?_append_right (by omega), hl, hl1]
      rw [List.getElem?_replicate, List.getElem?_replicate]
      by_cases h2 : j < c.length
      · rw [if_pos (by omega), if_pos (by omega)]
      · rw [if_neg (by omega), if_neg (by omega)]

theorem litOk_neg {n x : Int} (h : litOk n x) : litOk n (-x) := by unfold litOk at *; omega

theorem Refutes_call (n : Int) (l : List (List Int)) (c : List Int) (hn : 0 ≤ n ∧ n ≤ 100000) (hl : ∀ c ∈ l, ∀ x ∈ c, litOk n x) (hc : ∀ x ∈ c, litOk n x) (hb : lits l ≤ 1000000) (hcl : c.length ≤ 1000000) :
    ACall Try.prog 15 [vI .i64 n, .d (eIss l), .d (eIs c)] [] (fun r o => ∃ s, CloseRel n l (c.map fun x => -x) s ∧ WkV n s ∧ r = vB s.clash) := by
  refine acall_enter Try.func15 rfl rfl (Nat.le_of_ble_eq_true rfl) fun C hC hCl => ?_
  refine sat_stop tabOk Try.func15 rfl ?_ ?_
  · refine ⟨?_, trivial⟩
    rw [List.length_map]
    refine ⟨by omega, Int.le_refl _, ?_⟩
    show (c.length : Int) * (8 : Int) ≤ _
    omega
  refine sat_while (α := Nat) (fun i => [(0, vI .i64 n), (1, .d (eIss l)), (2, .d (eIs c)), (7, .gs 0), (15, .d (eIs c)), (16, vI .i64 c.length), (17, vI .i64 i)]) (fun i => [some (gIs ((c.take i).map (fun x => -x) ++ List.replicate (c.length - i) 0))]) (fun i => i ≤ c.length) (fun i => c.length - i) 0 (Nat.zero_le _) ?_ ?_
  · refine fun h => sat_le h hC hCl ?_ ⟨.gL ?_, trivial⟩ rfl rfl (Nat.zero_le _)
    · exact ⟨⟨_, rfl, .refl _⟩, ⟨_, rfl, .refl _⟩, ⟨_, rfl, .refl _⟩, ⟨_, rfl, .refl _⟩, ⟨_, rfl, .refl _⟩, ⟨_, rfl, .of (by rw [List.length_map])⟩, ⟨_, rfl, .refl _⟩, trivial⟩
    · simp only [List.take_zero, List.map_nil, List.nil_append, List.length_map, Int.toNat_natCast, Nat.sub_zero, List.map_replicate]
      rfl
  · rintro i hi ih
    refine sat_branch tabOk Try.func15 rfl trivial (fun hbr => ?_) (fun hbr => ?_) <;> simp only [decide_eq_true_eq, decide_eq_false_iff_not] at hbr
    · have hlt : i < c.length := by omega
      have hget : c.getD i 0 = c[i] := by simp [hlt]
      have hx := hc _ (List.getElem_mem hlt)
      obtain ⟨x0, x1, x2⟩ := hx
      have w1 : IntKind.i64.wrap (0 - c.getD i 0) = -c[i] := by rw [hget, wrap_id (by omega) (by omega), Int.zero_sub]
      refine sat_stop tabOk Try.func15 rfl ?_ ?_
      · simp only [andP, Int.toNat_natCast, List.length_map, List.length_append, List.length_replicate, List.length_take]
        exact ⟨by omega, ⟨by omega, by omega⟩, ⟨by omega, by omega⟩, trivial⟩
      refine sat_le (ih (i + 1) (by omega) (by omega)) hC hCl ?_ ⟨.gL ?_, trivial⟩ rfl rfl (Nat.zero_le _)
      · exact ⟨⟨_, rfl, .refl _⟩, ⟨_, rfl, .refl _⟩, ⟨_, rfl, .refl _⟩, ⟨_, rfl, .refl _⟩, ⟨_, rfl, .refl _⟩, ⟨_, rfl, .refl _⟩, ⟨_, rfl, .of (by rw [wrap_id (by omega) (by omega)]; rfl)⟩, trivial⟩
      · rw [← negs_set c i hlt, List.map_set, ← w1]
        rfl
    · obtain rfl : i = c.length := by omega
      refine sat_freeze 0 rfl ?_
      have e1 : (c.take c.length).map (fun x => -x) ++ List.replicate (c.length - c.length) 0 = c.map fun x => -x := by simp
      rw [e1]
      refine sat_call tabOk Try.func15 rfl trivial (Close_call n l (c.map fun x => -x) hn hl (by intro x hx; obtain ⟨y, hy, rfl⟩ := List.mem_map.1 hx; exact litOk_neg (hc y hy)) hb delOk) (.refl _) rfl ⟨_, rfl⟩ ?_ ?_
      · rintro r o ⟨s, _, _, rfl⟩
        unfold closeEnd
        split <;> rfl
      · rintro r o ⟨s, h1, h2, rfl⟩
        cases hcl : s.clash with
        | true =>
          have : closeEnd s = .tp [.d (.v (.slice none 0 0)), vB true] := by simp [closeEnd, hcl]
          rw [this]
          exact sat_ret tabOk Try.func15 rfl trivial ⟨s, h1, h2, by rw [hcl]; rfl⟩
        | false =>
          have : closeEnd s = .tp [.d (eIs (s.forced.filter (· ≠ 0))), vB false] := by simp [closeEnd, hcl]
          rw [this]
          exact sat_ret tabOk Try.func15 rfl trivial ⟨s, h1, h2, by rw [hcl]; rfl⟩
end Go.Proofs.Ytdnpkeahgpbkoaa
