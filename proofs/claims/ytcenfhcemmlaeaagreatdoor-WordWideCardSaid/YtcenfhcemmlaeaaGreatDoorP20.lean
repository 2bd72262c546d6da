/- A part of the proof: Y2. -/
import Derived.Test.YtcenfhcemmlaeaaGreatDoorP19
set_option linter.unusedVariables false
set_option linter.unusedSimpArgs false
namespace Go.Proofs.YtcenfhcemmlaeaaGreatDoor
open Go Ab
set_option maxRecDepth 100000
set_option linter.unusedVariables false
set_option linter.unusedSimpArgs false
set_option maxHeartbeats 4000000

theorem wL_nm {l : List Nd} (ty : Ty l) {v : List (Nat × Nat)} (hv : VOk l v l.length) {i : Nat} (hi : i < l.length) : (wL l l.length).getD i 0 = ((nm v i).1 : Int) ∧ (0 < (nm v i).1 → (nm v i).1 ≤ 128 ∧ (nm v i).2 < 2 ^ (nm v i).1) := by
  rw [wL_get hi, wN]
  cases h : isVal (nd l i).op with
  | false =>
    rw [hv.no i hi h]
    exact ⟨rfl, fun h => absurd h (by decide)⟩
  | true =>
    obtain ⟨h1, h2⟩ := hv.yes i hi h
    have := val_wd ty hi h
    exact ⟨by rw [if_pos rfl]; exact h1.symm, fun _ => ⟨by omega, h2⟩⟩
theorem nextL_len (l : List Nd) (v : List (Nat × Nat)) : (nextL l v).length = (allL l kState l.length).length := by simp [nextL]
theorem flagL_all (l : List Nd) (op : List UInt8) (v : List (Nat × Nat)) : (flagL l op v l.length).length = (allL l op l.length).length := by simp [flagL]
theorem rRightM_call (w x : Nat) (hx : x < 2 ^ w) (h1 : 1 ≤ w) (h2 : w ≤ 128) : ACall Tryz.prog 24 [.d (vN w x)] [] (fun r o => r = vB true) := by
  have := rRight_call w (lmb (limbsN w) x) (lmb_lims _ _) (by rw [lmb_len]; unfold limbsN maxLen; omega)
  rwa [right_of_lmb h1 h2 hx] at this
theorem WordWide_law (l : List Nd) (st inp : List Vr) (hm : MdB l) (hl : l.length < 2000000000000) (hq : ∀ a ∈ st, QVr a) (hi : ∀ a ∈ inp, QVr a) : ACall Tryz.prog 4 [.d (eBt l), .d (eRow st), .d (eRow inp)] [] (fun r o => r = vB true) := by
  refine acall_enter Tryz.func4 rfl rfl (Nat.le_of_ble_eq_true rfl) fun C hC hCl hDs => ?_
  refine sat_call tabOk Tryz.func4 rfl trivial shown15_call (.refl _) rfl ⟨_, rfl⟩ (by rintro r o rfl; rfl) ?_
  rintro _ o rfl
  refine sat_call tabOk Tryz.func4 rfl trivial (typed14_call l hm 40 (by decide) hl) (.refl _) rfl ⟨_, rfl⟩ (by rintro r o ⟨b, rfl, -⟩; rfl) ?_
  rintro r o ⟨b, rfl, hb⟩
  refine sat_branch tabOk Tryz.func4 rfl trivial (fun h1 => ?_) (fun h1 => ?_)
  · refine sat_branch tabOk Tryz.func4 rfl trivial (fun _ => ?_) (fun h => by cases h)
    exact sat_ret tabOk Tryz.func4 rfl trivial rfl
  have ty := (hb (by simpa using h1)).2
  have hlb := ty.small
  refine sat_call tabOk Tryz.func4 rfl trivial (Few_call [st, inp] 2 (by decide)) ⟨VLe.eL_c (CLes.refl _), .refl _, trivial⟩ rfl ⟨_, rfl⟩ (by rintro r o ⟨b, rfl, -⟩; rfl) ?_
  rintro r o ⟨b2, rfl, -⟩
  refine sat_branch tabOk Tryz.func4 rfl trivial (fun h2 => ?_) (fun h2 => ?_)
  · exact sat_ret tabOk Tryz.func4 rfl trivial rfl
  cases hF : (fitB l kState st && fitB l kInput inp) with
  | false =>
    refine sat_call tabOk Tryz.func4 rfl trivial (Values_no l hm ty st inp hq hi hF) (.refl _) rfl ⟨_, rfl⟩ (by rintro r o rfl; rfl) ?_
    rintro _ o rfl
    refine sat_call tabOk Tryz.func4 rfl trivial (Step_no l hm ty st inp hq hi hF) (.refl _) rfl ⟨_, rfl⟩ (by rintro r o rfl; rfl) ?_
    rintro _ o rfl
    refine sat_branch tabOk Tryz.func4 rfl trivial (fun _ => ?_) (fun h => by cases h)
    refine sat_branch tabOk Tryz.func4 rfl trivial (fun _ => ?_) (fun h => by cases h)
    refine sat_branch tabOk Tryz.func4 rfl trivial (fun _ => ?_) (fun h => by cases h)
    refine sat_branch tabOk Tryz.func4 rfl trivial (fun _ => ?_) (fun h => by cases h)
    exact sat_ret tabOk Tryz.func4 rfl trivial rfl
  | true =>
    rw [Bool.and_eq_true] at hF
    obtain ⟨e1, f1⟩ := fit_nums hq hF.1
    obtain ⟨e2, f2⟩ := fit_nums hi hF.2
    have hv := valL_ok ty f1 f2 l.length (Nat.le_refl _)
    have c1 := Values_ok l hm ty _ _ f1 f2
    have c2 := Step_ok l hm ty _ _ f1 f2
    have hstl : st.length = (allL l kState l.length).length := by rw [← f1.len]; simp [numsOf]
    rw [← eRow_nums, ← eRow_nums, ← e1, ← e2] at c1 c2
    have hn := next_fit ty hv
    have c3 := Step_ok l hm ty _ _ hn f2
    rw [← eRow_nums (numsOf inp), ← e2] at c3
    have hnl := nextL_len l (valL l (numsOf st) (numsOf inp) l.length)
    generalize valL l (nextL l (valL l (numsOf st) (numsOf inp) l.length)) (numsOf inp) l.length = v2 at *
    generalize valL l (numsOf st) (numsOf inp) l.length = v at *
    have hfl1 := flagL_all l kBad v
    have hfl2 := flagL_all l kConstraint v
    unfold stepA at c2 c3
    generalize nextL l v = nx at *
    generalize flagL l kBad v l.length = b1 at *
    generalize flagL l kConstraint v l.length = b3 at *
    have hvl := hv.len
    refine sat_call tabOk Tryz.func4 rfl trivial c1 (.refl _) rfl ⟨_, rfl⟩ (by rintro r o rfl; rfl) ?_
    rintro _ o rfl
    refine sat_call tabOk Tryz.func4 rfl trivial c2 (.refl _) rfl ⟨_, rfl⟩ (by rintro r o rfl; rfl) ?_
    rintro _ o rfl
    refine sat_branch tabOk Tryz.func4 rfl trivial (fun h => by cases h) (fun _ => ?_)
    refine sat_call tabOk Tryz.func4 rfl trivial (widths14_ok l hm ty) (.refl _) rfl ⟨_, rfl⟩ (by rintro r o ⟨q, rfl⟩; rfl) ?_
    rintro r o ⟨q, rfl⟩
    refine sat_branch tabOk Tryz.func4 rfl trivial (fun h3 => ?_) (fun _ => ?_)
    · have h3 : (((v.map fun p : Nat × Nat => vN p.1 p.2).length : Int) != (((wL l l.length).map eI).length : Int)) = true := h3
      rw [List.length_map, List.length_map, wL_len, hvl] at h3
      simp at h3
    refine sat_branch tabOk Tryz.func4 rfl trivial (fun h => by cases h) (fun _ => ?_)
    refine sat_branch tabOk Tryz.func4 rfl trivial (fun h3 => ?_) (fun _ => ?_)
    · have h3 : (((nx.map fun p : Nat × Nat => vN p.1 p.2).length : Int) != ((st.map eVr).length : Int)) = true := h3
      rw [List.length_map, List.length_map, hnl, hstl] at h3
      simp at h3
    refine sat_stop tabOk Tryz.func4 rfl trivial ?_
    refine sat_while (α := Nat) (fun i => [(2, .d (eRow inp)), (3, .ptr 0 0), (7, vB true), (8, .d (eNums v)), (10, .d (eNums nx)), (11, .ptr 1 0), (13, .d (eIs (wL l l.length))), (16, vI .i64 (i : Int))]) (fun i => [some (bBt l), some (.cells 36 [.d (eBs b1), .d (eBs b3)])]) (fun i => i ≤ l.length) (fun i => l.length - i) 0 (Nat.zero_le _) ?_ ?_
    · exact fun h => sat_le h hC hCl ⟨⟨_, rfl, .refl _⟩, ⟨_, rfl, .refl _⟩, ⟨_, rfl, .refl _⟩, ⟨_, rfl, .refl _⟩, ⟨_, rfl, .refl _⟩, ⟨_, rfl, .refl _⟩, ⟨_, rfl, .refl _⟩, ⟨_, rfl, .refl _⟩, trivial⟩ ⟨.refl _, .refl _, trivial⟩ rfl rfl (Nat.zero_le _)
    rintro i hi2 ih
    refine sat_branch tabOk Tryz.func4 rfl trivial (fun hb => ?_) (fun hb => ?_) <;> simp only [List.length_map, wL_len, decide_eq_true_eq, decide_eq_false_iff_not] at hb
    · have hlt : i < l.length := by omega
      obtain ⟨w1, w2⟩ := wL_nm ty hv hlt
      have hwl := wL_len l l.length
      refine sat_drawT 19 tabOk Tryz.func4 rfl rfl trivial (by kernel_rfl) ?_
      refine ds_branch tabOk rfl ?_ (fun h => ?_) (fun _ => ?_)
      · simp only [List.length_map, hvl, hwl]
        exact ⟨⟨by omega, by omega⟩, ⟨by omega, by omega⟩, trivial⟩
      · have h : (((nm v i).1 : Int) != (wL l l.length).getD i 0) = true := h
        rw [w1] at h
        simp at h
      refine ds_branch tabOk rfl ?_ (fun h => ?_) (fun h => ?_)
      · simp only [List.length_map, hwl]
        exact ⟨⟨by omega, by omega⟩, trivial⟩
      · have h : decide ((wL l l.length).getD i 0 > 0) = true := h
        rw [w1, decide_eq_true_eq] at h
        obtain ⟨w3, w4⟩ := w2 (by omega)
        refine ds_done tabOk rfl trivial ?_
        refine sat_call tabOk Tryz.func4 rfl (by rw [List.length_map, hvl]; exact ⟨⟨by omega, by omega⟩, trivial⟩) (rRightM_call (nm v i).1 (nm v i).2 w4 (by omega) w3) (.refl _) rfl ⟨_, rfl⟩ (by rintro r o rfl; rfl) ?_
        rintro _ o rfl
        refine sat_branch tabOk Tryz.func4 rfl trivial (fun h => by cases h) (fun _ => ?_)
        refine sat_stop tabOk Tryz.func4 rfl trivial ?_
        exact sat_le (ih (i + 1) (by omega) (by omega)) hC hCl ⟨⟨_, rfl, .refl _⟩, ⟨_, rfl, .refl _⟩, ⟨_, rfl, .refl _⟩, ⟨_, rfl, .refl _⟩, ⟨_, rfl, .refl _⟩, ⟨_, rfl, .refl _⟩, ⟨_, rfl, .refl _⟩, ⟨_, rfl, .of (by rw [wrap_id (by omega) (by omega)]; rfl)⟩, trivial⟩ ⟨.refl _, .refl _, trivial⟩ rfl rfl (Nat.zero_le _)
      · have h : decide ((wL l l.length).getD i 0 > 0) = false := h
        refine ds_done tabOk rfl trivial ?_
        refine sat_branch tabOk Tryz.func4 rfl trivial (fun h => by cases h) (fun _ => ?_)
        refine sat_stop tabOk Tryz.func4 rfl trivial ?_
        exact sat_le (ih (i + 1) (by omega) (by omega)) hC hCl ⟨⟨_, rfl, .refl _⟩, ⟨_, rfl, .refl _⟩, ⟨_, rfl, .refl _⟩, ⟨_, rfl, .refl _⟩, ⟨_, rfl, .refl _⟩, ⟨_, rfl, .refl _⟩, ⟨_, rfl, .refl _⟩, ⟨_, rfl, .of (by rw [wrap_id (by omega) (by omega)]; rfl)⟩, trivial⟩ ⟨.refl _, .refl _, trivial⟩ rfl rfl (Nat.zero_le _)
    · refine sat_call tabOk Tryz.func4 rfl trivial c3 (.refl _) rfl ⟨_, rfl⟩ (by rintro r o rfl; rfl) ?_
      rintro _ o rfl
      refine sat_drawT 21 tabOk Tryz.func4 rfl rfl trivial (by kernel_rfl) ?_
      refine ds_branch tabOk rfl trivial (fun _ => ?_) (fun h => by cases h)
      refine ds_branch tabOk rfl trivial (fun _ => ?_) (fun h => absurd h (by decide))
      refine ds_call tabOk rfl trivial (all14_call l kBad hlb) (callFunc_run Tryz.func25 rfl rfl) (by rintro r o rfl; rfl) (.refl _) rfl rfl ⟨_, rfl⟩ ?_
      refine ds_branch tabOk rfl trivial (fun _ => ?_) (fun h => ?_)
      rotate_left
      · have h : (((b1.map eB).length : Int) == (((allL l kBad l.length).map eI).length : Int)) = false := h
        rw [List.length_map, List.length_map, hfl1] at h
        simp at h
      refine ds_call tabOk rfl trivial (all14_call l kConstraint hlb) (callFunc_run Tryz.func25 rfl rfl) (by rintro r o rfl; rfl) (.refl _) rfl rfl ⟨_, rfl⟩ ?_
      refine ds_done tabOk rfl trivial ?_
      refine sat_ret tabOk Tryz.func4 rfl trivial ?_
      show vB (((b3.map eB).length : Int) == (((allL l kConstraint l.length).map eI).length : Int)) = _
      rw [List.length_map, List.length_map, hfl2, beq_self_eq_true]
end Go.Proofs.YtcenfhcemmlaeaaGreatDoor
