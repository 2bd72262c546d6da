/- A part of the proof: Y1, Y2, Y3. -/
import Derived.Test.YtcenfhcemmlaeaaGreatDoorP19
set_option linter.unusedVariables false
set_option linter.unusedSimpArgs false
namespace Go.Proofs.YtcenfhcemmlaeaaGreatDoor
open Go Ab
set_option maxRecDepth 100000
set_option linter.unusedVariables false
set_option linter.unusedSimpArgs false
set_option maxHeartbeats 4000000

/-! ### Both answers are one -/
theorem fit_ns {l : List Nd} {op : List UInt8} {v : List (Nat × Nat)} (h : Fit l op v) : OkNs v := by
  intro p hp
  obtain ⟨i, hi, rfl⟩ := List.getElem_of_mem hp
  have := h.at_ i hi
  rw [show nm v i = v[i] by simp [nm, hi]] at this
  exact ⟨this.2.1, this.2.2.2⟩
theorem fit_len {l : List Nd} (ty : Ty l) {op : List UInt8} {v : List (Nat × Nat)} (h : Fit l op v) : v.length ≤ 1000000 := by
  have h1 := allL_len l op l.length
  have h2 := ty.small
  rw [h.len]
  omega
theorem Vecs_self {a : List (Nat × Nat)} (h : OkNs a) (hl : a.length ≤ 1000000) : ACall Tryz.prog 20 [.d (eNums a), .d (eNums a)] [] (fun r o => r = vB true) := by
  have := Vecs_call a a h h hl
  rwa [decide_eq_true (rfl : a = a)] at this
theorem Rows_self {a : List (List (Nat × Nat))} (h : ∀ r ∈ a, OkNs r ∧ r.length ≤ 1000000) (hl : a.length ≤ 1000000) : ACall Tryz.prog 22 [.d (eNss a), .d (eNss a)] [] (fun r o => r = vB true) := by
  have := Rows_call a a h (fun r hr => (h r hr).1) hl
  rwa [decide_eq_true (rfl : a = a)] at this
theorem stt_rows {l : List Nd} (ty : Ty l) {s : List (Nat × Nat)} (hs : Fit l kState s) {ins : List (List Vr)} (hq : QRows ins) (hf : inFit l ins = true) : ∀ i, i ≤ ins.length → Fit l kState (stt l s ins i) := fun i hi => stt_fit ty hs hq i hi fun q h => List.all_eq_true.1 hf _ (inRow_mem (by omega))
theorem sttL_rows {l : List Nd} (ty : Ty l) {s : List (Nat × Nat)} (hs : Fit l kState s) {ins : List (List Vr)} (hq : QRows ins) (hf : inFit l ins = true) {k : Nat} (hk : k ≤ ins.length + 1) : ∀ r ∈ sttL l s ins k, OkNs r ∧ r.length ≤ 1000000 := by
  intro r hr
  obtain ⟨i, hi, rfl⟩ := List.mem_map.1 hr
  have := stt_rows ty hs hq hf i (by have := List.mem_range.1 hi; omega)
  exact ⟨fit_ns this, fit_len ty this⟩
end Go.Proofs.YtcenfhcemmlaeaaGreatDoor
namespace Go.Proofs.YtcenfhcemmlaeaaGreatDoor
open Go Ab
set_option maxRecDepth 100000
set_option linter.unusedVariables false
set_option linter.unusedSimpArgs false
set_option maxHeartbeats 4000000

end Go.Proofs.YtcenfhcemmlaeaaGreatDoor
namespace Go.Proofs.YtcenfhcemmlaeaaGreatDoor
open Go Ab
set_option maxRecDepth 100000
set_option linter.unusedVariables false
set_option linter.unusedSimpArgs false
set_option maxHeartbeats 4000000

theorem start_idem (l : List Nd) (f : List (Nat × Nat)) (n : Nat) : startL l (startL l f n) n = startL l f n := by
  unfold startL
  refine List.map_congr_left fun i hi => ?_
  have hi := List.mem_range.1 hi
  show start1 l (startL l f n) i = start1 l f i
  rw [start1, startL_nm hi]
  by_cases h : (ofJ l kInit ((allL l kState l.length).getD i 0)).isSome = true
  · rw [if_pos h, start1, if_pos h]
  · rw [if_neg h]
theorem inRow_take {ins : List (List Vr)} {k q : Nat} (h : q < k) : inRow (ins.take k) q = inRow ins q := by
  simp [inRow, List.getD_eq_getElem?_getD, List.getElem?_take, h]
theorem stt_take (l : List Nd) (s : List (Nat × Nat)) (ins : List (List Vr)) (k : Nat) : ∀ i, i ≤ k → stt l s (ins.take k) i = stt l s ins i
  | 0, _ => rfl
  | i + 1, h => by
    rw [stt, stt, stt_take l s ins k i (by omega), inRow_take (by omega)]
theorem sttL_take (l : List Nd) (s : List (Nat × Nat)) (ins : List (List Vr)) {k n : Nat} (h : k ≤ n) : sttL l s (ins.take k) (k + 1) = (sttL l s ins (n + 1)).take (k + 1) := by
  unfold sttL
  rw [← List.map_take, List.take_range, Nat.min_eq_left (by omega)]
  exact List.map_congr_left fun i hi => stt_take l s ins k i (by have := List.mem_range.1 hi; omega)
theorem sttL_at {l : List Nd} {s : List (Nat × Nat)} {ins : List (List Vr)} {n i : Nat} (h : i < n) : (sttL l s ins n).getD i [] = stt l s ins i := by simp [sttL, h]
theorem inFit_take {l : List Nd} {ins : List (List Vr)} (h : inFit l ins = true) (k : Nat) : inFit l (ins.take k) = true := List.all_eq_true.2 fun r hr => List.all_eq_true.1 h r (List.mem_of_mem_take hr)
@[reducible] def vU8 (n : Nat) : D := .v (.int .u8 (n : Int))

theorem WordRuns_law (l : List Nd) (f : List Vr) (ins : List (List Vr)) (a : Nat) (ha : a < 256) (hm : MdB l) (hl : l.length < 2000000000000) (hq : ∀ a ∈ f, QVr a) (hi : QRows ins) : ACall Tryz.prog 5 [.d (.ag [eNds l, eRow f, eRows ins, vU8 a])] [] (fun r o => r = vB true) := by
  refine acall_enter Tryz.func5 rfl rfl (Nat.le_of_ble_eq_true rfl) fun C hC hCl hDs => ?_
  refine sat_call tabOk Tryz.func5 rfl trivial shown15_call (.refl _) rfl ⟨_, rfl⟩ (by rintro r o rfl; rfl) ?_
  rintro _ o rfl
  refine sat_call tabOk Tryz.func5 rfl trivial (typed14_call l hm 40 (by decide) hl) (.refl _) rfl ⟨_, rfl⟩ (by rintro r o ⟨b, rfl, -⟩; rfl) ?_
  rintro r o ⟨b, rfl, hb⟩
  refine sat_branch tabOk Tryz.func5 rfl trivial (fun h1 => ?_) (fun h1 => ?_)
  · refine sat_branch tabOk Tryz.func5 rfl trivial (fun _ => ?_) (fun h => by cases h)
    refine sat_branch tabOk Tryz.func5 rfl trivial (fun _ => ?_) (fun h => by cases h)
    exact sat_ret tabOk Tryz.func5 rfl trivial rfl
  have ty := (hb (by simpa using h1)).2
  have hlb := ty.small
  refine sat_call tabOk Tryz.func5 rfl trivial (Few_call [f] 1 (by decide)) ⟨VLe.eL_c (CLes.refl _), .refl _, trivial⟩ rfl ⟨_, rfl⟩ (by rintro r o ⟨b, rfl, -⟩; rfl) ?_
  rintro r o ⟨b2, rfl, -⟩
  refine sat_branch tabOk Tryz.func5 rfl trivial (fun h2 => ?_) (fun h2 => ?_)
  · refine sat_branch tabOk Tryz.func5 rfl trivial (fun _ => ?_) (fun h => by cases h)
    exact sat_ret tabOk Tryz.func5 rfl trivial rfl
  refine sat_call tabOk Tryz.func5 rfl trivial (Few_call ins 20 (by decide)) (.refl _) rfl ⟨_, rfl⟩ (by rintro r o ⟨b, rfl, -⟩; rfl) ?_
  rintro r o ⟨b3, rfl, hb3⟩
  refine sat_branch tabOk Tryz.func5 rfl trivial (fun h3 => ?_) (fun h3 => ?_)
  · exact sat_ret tabOk Tryz.func5 rfl trivial rfl
  have hil := hb3 (by simpa using h3)
  cases hF : fitB l kState f with
  | false =>
    refine sat_call tabOk Tryz.func5 rfl trivial (Run_no l hm ty f hq hF ins) (.refl _) rfl ⟨_, rfl⟩ (by rintro r o rfl; rfl) ?_
    rintro _ o rfl
    refine sat_branch tabOk Tryz.func5 rfl trivial (fun _ => ?_) (fun h => by cases h)
    refine sat_branch tabOk Tryz.func5 rfl trivial (fun _ => ?_) (fun h => by cases h)
    refine sat_branch tabOk Tryz.func5 rfl trivial (fun _ => ?_) (fun h => by cases h)
    exact sat_ret tabOk Tryz.func5 rfl trivial rfl
  | true =>
    obtain ⟨e1, f1⟩ := fit_nums hq hF
    have hs := start_fit ty f1
    have c1 := Run_ok l hm ty _ f1 ins hi (by omega)
    have c2 := Run_ok l hm ty _ f1 (ins.take (a % (ins.length + 1))) (fun r hr => hi r (List.mem_of_mem_take hr)) (by rw [List.length_take]; omega)
    have c3 := Run_ok l hm ty _ hs ins hi (by omega)
    have c4 := Start_ok l hm ty _ hs
    rw [start_idem] at c3 c4
    rw [← eRow_nums (numsOf f), ← e1] at c1 c2
    generalize startL l (numsOf f) (allL l kState l.length).length = s at *
    rw [runA] at c1 c2 c3
    cases hf : inFit l ins with
    | false =>
      rw [if_neg (by rw [hf]; decide)] at c1
      refine sat_call tabOk Tryz.func5 rfl trivial c1 (.refl _) rfl ⟨_, rfl⟩ (by rintro r o rfl; rfl) ?_
      rintro _ o rfl
      refine sat_branch tabOk Tryz.func5 rfl trivial (fun _ => ?_) (fun h => by cases h)
      refine sat_branch tabOk Tryz.func5 rfl trivial (fun _ => ?_) (fun h => by cases h)
      refine sat_branch tabOk Tryz.func5 rfl trivial (fun _ => ?_) (fun h => by cases h)
      exact sat_ret tabOk Tryz.func5 rfl trivial rfl
    | true =>
      have hkl : a % (ins.length + 1) ≤ ins.length := by have := Nat.mod_lt a (show 0 < ins.length + 1 by omega); omega
      rw [if_pos hf] at c1 c3
      rw [if_pos (inFit_take hf _), List.length_take, Nat.min_eq_left hkl, sttL_take l s ins hkl] at c2
      have hst := stt_rows ty hs hi hf
      have hrl := sttL_len l s ins (ins.length + 1)
      have hrow := sttL_rows ty hs hi hf (Nat.le_refl (ins.length + 1))
      have hat : ∀ i, i ≤ ins.length → (sttL l s ins (ins.length + 1)).getD i [] = stt l s ins i := fun i hi => sttL_at (by omega)
      generalize sttL l s ins (ins.length + 1) = R at *
      refine sat_call tabOk Tryz.func5 rfl trivial c1 (.refl _) rfl ⟨_, rfl⟩ (by rintro r o rfl; rfl) ?_
      rintro _ o rfl
      refine sat_branch tabOk Tryz.func5 rfl trivial (fun h => by cases h) (fun _ => ?_)
      refine sat_branch tabOk Tryz.func5 rfl trivial (fun h => ?_) (fun _ => ?_)
      · have h : (((R.map eNums).length : Int) != IntKind.i64.wrap (((ins.map eRow).length : Int) + 1)) = true := h
        rw [List.length_map, List.length_map, wrap_id (by omega) (by omega), hrl] at h
        simp at h
      refine sat_stop tabOk Tryz.func5 rfl trivial ?_
      refine sat_while (α := Nat) (fun i => [(3, .ptr 1 0), (4, .d (eRow f)), (5, .d (eRows ins)), (6, .d (vU8 a)), (7, vB true), (8, .d (eNss R)), (10, vI .i64 (i : Int))]) (fun i => [none, some (bBt l)]) (fun i => i ≤ ins.length) (fun i => ins.length - i) 0 (Nat.zero_le _) ?_ ?_
      · exact fun h => sat_le h hC hCl ⟨⟨_, rfl, .refl _⟩, ⟨_, rfl, .refl _⟩, ⟨_, rfl, .refl _⟩, ⟨_, rfl, .refl _⟩, ⟨_, rfl, .refl _⟩, ⟨_, rfl, .refl _⟩, ⟨_, rfl, .refl _⟩, trivial⟩ ⟨.refl _, trivial⟩ rfl rfl (Nat.zero_le _)
      rintro i hi2 ih
      refine sat_branch tabOk Tryz.func5 rfl trivial (fun hb => ?_) (fun hb => ?_) <;> simp only [List.length_map, decide_eq_true_eq, decide_eq_false_iff_not] at hb
      · have hlt : i < ins.length := by omega
        have hri := hi _ (inRow_mem hlt)
        have hfr : fitB l kInput (inRow ins i) = true := List.all_eq_true.1 hf _ (inRow_mem hlt)
        have hfi := (fit_nums hri hfr).2
        have e1 : IntKind.i64.wrap ((i : Int) + 1) = ((i + 1 : Nat) : Int) := by rw [wrap_id (by omega) (by omega)]; omega
        refine sat_draw1S 17 14 16 (c := none) (a := .dead) (o2 := .cells 36 [.d (eBs (flagL l kBad (valL l (stt l s ins i) (numsOf (inRow ins i)) l.length) l.length)), .d (eBs (flagL l kConstraint (valL l (stt l s ins i) (numsOf (inRow ins i)) l.length) l.length))]) tabOk Tryz.func5 rfl rfl trivial (by kernel_rfl) (by kernel_rfl) rfl rfl rfl (by kernel_rfl) (by rw [hCl, hC]; exact Nat.zero_le _) rfl rfl rfl rfl rfl rfl
          (fun _ => ds_call tabOk rfl (by simp only [Int.toNat_natCast, List.length_map]; exact ⟨⟨by omega, by omega⟩, ⟨by omega, by omega⟩, trivial⟩) (step_row hri hfr (Step_ok l hm ty (stt l s ins i) (numsOf (inRow ins i)) (hst i hi2) hfi)) (callFunc_run Tryz.func14 rfl rfl) (by rintro r o rfl; rfl) ⟨.refl _, .of (by show AV.d (eNums (R.getD i [])) = _; rw [hat i hi2]), .refl _, trivial⟩ rfl rfl ⟨_, rfl⟩ (ds_done tabOk rfl trivial rfl))
          (by rfl) (by rfl) (by rfl) (by rfl) trivial ?_
        refine sat_branch tabOk Tryz.func5 rfl trivial (fun h => by cases h) (fun _ => ?_)
        refine sat_call tabOk Tryz.func5 rfl ?nd (Vecs_self (fit_ns (hst (i + 1) hlt)) (fit_len ty (hst (i + 1) hlt))) ⟨.refl _, .of ?_, trivial⟩ rfl ⟨_, rfl⟩ (by rintro r o rfl; rfl) ?_
        case nd =>
          rw [e1, List.length_map, hrl]
          exact ⟨⟨by omega, by omega⟩, trivial⟩
        · show AV.d (eNums (R.getD (IntKind.i64.wrap ((i : Int) + 1)).toNat [])) = _
          rw [e1, Int.toNat_natCast, hat (i + 1) hlt]
        rintro _ o rfl
        refine sat_branch tabOk Tryz.func5 rfl trivial (fun h => by cases h) (fun _ => ?_)
        refine sat_stop tabOk Tryz.func5 rfl trivial ?_
        exact sat_le (ih (i + 1) (by omega) (by omega)) hC hCl ⟨⟨_, rfl, .refl _⟩, ⟨_, rfl, .refl _⟩, ⟨_, rfl, .refl _⟩, ⟨_, rfl, .refl _⟩, ⟨_, rfl, .refl _⟩, ⟨_, rfl, .refl _⟩, ⟨_, rfl, .of (by rw [wrap_id (by omega) (by omega)]; rfl)⟩, trivial⟩ ⟨.refl _, trivial⟩ rfl rfl (Nat.zero_le _)
      · obtain rfl : i = ins.length := by omega
        obtain ⟨k, hk⟩ : ∃ k, a % (ins.length + 1) = k := ⟨_, rfl⟩
        have ek : (IntKind.i64.wrap (a : Int)).tmod (IntKind.i64.wrap (((ins.map eRow).length : Int) + 1)) = (k : Int) := by
          rw [List.length_map, wrap_id (by omega) (by omega), wrap_id (by omega) (by omega), ← hk]
          rfl
        rw [hk] at c2 hkl
        refine sat_drawT 10 tabOk Tryz.func5 rfl rfl ?nd (by kernel_rfl) ?_
        case nd =>
          rw [List.length_map, wrap_id (by omega) (by omega)]
          exact ⟨by omega, trivial⟩
        refine ds_call tabOk rfl ?nd2 c2 (callFunc_run Tryz.func18 rfl rfl) (by rintro r o rfl; rfl) ⟨.refl _, .refl _, ?le, trivial⟩ rfl rfl ⟨_, rfl⟩ ?kk
        case nd2 =>
          rw [ek, List.length_map]
          exact ⟨⟨by decide, by omega, by omega⟩, trivial⟩
        case le =>
          refine VLe.sl ?_ (map_rd eRow [] _)
          rw [show Int.toNat 0 = 0 from rfl, List.drop_zero, ek, Int.sub_zero, Int.toNat_natCast, List.map_take]
        case kk =>
        refine ds_done tabOk rfl trivial ?_
        have h0 : R.getD 0 [] = s := hat 0 (Nat.zero_le _)
        refine sat_drawT 10 tabOk Tryz.func5 rfl rfl trivial (by kernel_rfl) ?_
        refine ds_call tabOk rfl ?nd2 c3 (callFunc_run Tryz.func18 rfl rfl) (by rintro r o rfl; rfl) ⟨.refl _, .of (by show AV.d (eNums (R.getD 0 [])) = _; rw [h0]), .refl _, trivial⟩ rfl rfl ⟨_, rfl⟩ ?kk
        case nd2 =>
          rw [List.length_map, hrl]
          exact ⟨⟨by decide, by omega⟩, trivial⟩
        case kk =>
        refine ds_done tabOk rfl trivial ?_
        refine sat_drawT 9 tabOk Tryz.func5 rfl rfl trivial (by kernel_rfl) ?_
        refine ds_call tabOk rfl ?nd2 c4 (callFunc_run Tryz.func16 rfl rfl) (by rintro r o rfl; rfl) ⟨.refl _, .of (by show AV.d (eNums (R.getD 0 [])) = _; rw [h0]), trivial⟩ rfl rfl ⟨_, rfl⟩ ?kk
        case nd2 =>
          rw [List.length_map, hrl]
          exact ⟨⟨by decide, by omega⟩, trivial⟩
        case kk =>
        refine ds_done tabOk rfl trivial ?_
        refine sat_branch tabOk Tryz.func5 rfl trivial (fun _ => ?_) (fun h => by cases h)
        refine sat_branch tabOk Tryz.func5 rfl trivial (fun _ => ?_) (fun h => by cases h)
        refine sat_branch tabOk Tryz.func5 rfl trivial (fun _ => ?_) (fun h => by cases h)
        refine sat_branch tabOk Tryz.func5 rfl trivial (fun _ => ?_) (fun h => by cases h)
        refine sat_call tabOk Tryz.func5 rfl ?nd2 (Rows_self (a := R.take (k + 1)) (fun r hr => hrow r (List.mem_of_mem_take hr)) (by rw [List.length_take, hrl]; omega)) ⟨.refl _, ?le, trivial⟩ rfl ⟨_, rfl⟩ (by rintro r o rfl; rfl) ?kk
        case nd2 =>
          rw [ek, List.length_map, wrap_id (by omega) (by omega), hrl]
          exact ⟨⟨by decide, by omega, by omega⟩, trivial⟩
        case le =>
          refine VLe.sl ?_ (map_rd eNums [] _)
          rw [show Int.toNat 0 = 0 from rfl, List.drop_zero, ek, Int.sub_zero, wrap_id (by omega) (by omega), show ((k : Int) + 1).toNat = k + 1 by omega, List.map_take]
        case kk =>
        rintro _ o rfl
        refine sat_branch tabOk Tryz.func5 rfl trivial (fun _ => ?_) (fun h => by cases h)
        refine sat_call tabOk Tryz.func5 rfl trivial (Rows_self hrow (by rw [hrl]; omega)) (.refl _) rfl ⟨_, rfl⟩ (by rintro r o rfl; rfl) ?_
        rintro _ o rfl
        refine sat_branch tabOk Tryz.func5 rfl trivial (fun _ => ?_) (fun h => by cases h)
        refine sat_call tabOk Tryz.func5 rfl ?nd2 (Vecs_self (fit_ns hs) (fit_len ty hs)) ⟨.refl _, .of (by show AV.d (eNums (R.getD 0 [])) = _; rw [h0]), trivial⟩ rfl ⟨_, rfl⟩ (by rintro r o rfl; rfl) ?kk
        case nd2 =>
          rw [List.length_map, hrl]
          exact ⟨⟨by decide, by omega⟩, trivial⟩
        case kk =>
        rintro _ o rfl
        exact sat_ret tabOk Tryz.func5 rfl trivial rfl
end Go.Proofs.YtcenfhcemmlaeaaGreatDoor
