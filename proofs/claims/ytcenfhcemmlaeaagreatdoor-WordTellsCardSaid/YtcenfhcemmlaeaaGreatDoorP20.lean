/- A part of the proof: X14, X15, X16, Ab66, X17, X18, Y1. -/
import Derived.Test.YtcenfhcemmlaeaaGreatDoorP19
set_option linter.unusedVariables false
set_option linter.unusedSimpArgs false
namespace Go.Proofs.YtcenfhcemmlaeaaGreatDoor
open Go Ab
set_option maxRecDepth 100000
set_option linter.unusedVariables false
set_option linter.unusedSimpArgs false
set_option maxHeartbeats 4000000

/-! ### A state at first; runs -/
def start1 (l : List Nd) (f : List (Nat × Nat)) (i : Nat) : Nat × Nat :=
  if (ofJ l kInit ((allL l kState l.length).getD i 0)).isSome = true then ((ln l (ofV l kInit ((allL l kState l.length).getD i 0))).t.length, mkN (ln l (ofV l kInit ((allL l kState l.length).getD i 0))).t) else nm f i
def startL (l : List Nd) (f : List (Nat × Nat)) (k : Nat) : List (Nat × Nat) := (List.range k).map (start1 l f)
theorem startL_succ (l : List Nd) (f : List (Nat × Nat)) (k : Nat) : startL l f (k + 1) = startL l f k ++ [start1 l f k] := by simp [startL, List.range_succ]
theorem startL_nm {l : List Nd} {f : List (Nat × Nat)} {k i : Nat} (h : i < k) : nm (startL l f k) i = start1 l f i := by simp [nm, startL, h]
theorem const_mk {l : List Nd} (ty : Ty l) {id : Int} (h1 : 1 ≤ id) (h2 : id ≤ l.length) (h3 : (ln l id).op = kConst) : mkok (ln l id).t = true ∧ ((ln l id).t.length : Int) = wdN l (ln l id) := by
  have hk := ty.node (id - 1).toNat (by omega)
  have hln := ty.ty.ln (id - 1).toNat (by omega)
  have h3' : (nd l (id - 1).toNat).op = kConst := h3
  have hs := (val_s ty (j := (id - 1).toNat) (by omega) (by rw [h3']; rfl)).1
  refine ⟨hk.txt (by rw [h3']; decide), ?_⟩
  have := hln.ask.const h3'
  rwa [wOf, if_pos hs] at this
theorem start_ok {l : List Nd} (ty : Ty l) {f : List (Nat × Nat)} (hf : Fit l kState f) {i : Nat} (hi : i < (allL l kState l.length).length) :
    ((start1 l f i).1 : Int) = wdN l (ln l ((allL l kState l.length).getD i 0)) ∧ (start1 l f i).2 < 2 ^ (start1 l f i).1 ∧ 1 ≤ (start1 l f i).1 ∧ (start1 l f i).1 ≤ 128 := by
  unfold start1
  split
  · rename_i h
    obtain ⟨j, hj⟩ := Option.isSome_iff_exists.1 h
    obtain ⟨h1, h2, h3, h4, h5⟩ := of_line ty (.inl rfl) hj
    obtain ⟨m1, m2⟩ := const_mk ty h1 h2 (h5 rfl)
    have hw : 1 ≤ wdN l (ln l (ofV l kInit ((allL l kState l.length).getD i 0))) ∧ wdN l (ln l (ofV l kInit ((allL l kState l.length).getD i 0))) ≤ 128 := val_wd ty (j := (ofV l kInit ((allL l kState l.length).getD i 0) - 1).toNat) (by omega) h3
    rw [← m2] at hw
    exact ⟨by rw [← h4]; exact m2, mk_lt _, Int.ofNat_le.1 hw.1, Int.ofNat_le.1 hw.2⟩
  · exact hf.at_ i (by rw [hf.len]; exact hi)
theorem start_fit {l : List Nd} (ty : Ty l) {f : List (Nat × Nat)} (hf : Fit l kState f) : Fit l kState (startL l f (allL l kState l.length).length) := by
  refine ⟨by simp [startL], fun i hi => ?_⟩
  have hi' : i < (allL l kState l.length).length := by simpa [startL] using hi
  rw [startL_nm hi']
  exact start_ok ty hf hi'

theorem Start_ok (l : List Nd) (hm : MdB l) (ty : Ty l) (f : List (Nat × Nat)) (hf : Fit l kState f) : ACall Tryz.prog 16 [.d (eBt l), .d (eNums f)] [] (fun r o => r = tupOf [.d (eNums (startL l f (allL l kState l.length).length)), vI .i64 0]) := by
  refine acall_enter Tryz.func16 rfl rfl (Nat.le_of_ble_eq_true rfl) fun C hC hCl hDs => ?_
  have hl := ty.small
  have hfit := fits_call l ty kState rfl (f.map vr) (fitQ hf)
  rw [eRow_nums, fit_of hf] at hfit
  refine sat_call tabOk Tryz.func16 rfl trivial (tWidths_call l hm ty) (.refl _) rfl ⟨_, rfl⟩ (by rintro r o rfl; rfl) ?_
  rintro _ o rfl
  refine sat_call tabOk Tryz.func16 rfl trivial hfit (.refl _) rfl ⟨_, rfl⟩ (by rintro r o rfl; rfl) ?_
  rintro _ o rfl
  refine sat_branch tabOk Tryz.func16 rfl trivial (fun h => by cases h) (fun _ => ?_)
  refine sat_call tabOk Tryz.func16 rfl trivial (tAll_call l kState hl) (.refl _) rfl ⟨_, rfl⟩ (by rintro r o rfl; rfl) ?_
  rintro _ o rfl
  have hal := allL_len l kState l.length
  have hfl := hf.len
  refine sat_stop tabOk Tryz.func16 rfl trivial ?_
  refine sat_own (s := 2) (e := 56) (t := 9) (.inl rfl) (fun i => vN (nm [] i).1 (nm [] i).2) ?_
  refine sat_while (α := Nat) (fun i => [(1, .d (eNums f)), (2, .ptr 0 0), (9, .gs 1), (27, .d (eIs (allL l kState l.length))), (28, vI .i64 ((allL l kState l.length).length : Int)), (29, vI .i64 (i : Int))]) (fun i => [some (bBt l), some (gNums (startL l f i))]) (fun i => i ≤ (allL l kState l.length).length) (fun i => (allL l kState l.length).length - i) 0 (Nat.zero_le _) ?_ ?_
  · exact fun h => sat_le h hC hCl ⟨⟨_, rfl, .refl _⟩, ⟨_, rfl, .refl _⟩, ⟨_, rfl, .refl _⟩, ⟨_, rfl, .refl _⟩, ⟨_, rfl, .of (by rw [List.length_map])⟩, ⟨_, rfl, .refl _⟩, trivial⟩ ⟨.refl _, .gL rfl, trivial⟩ rfl rfl (Nat.zero_le _)
  rintro i hi ih
  have hsl : (startL l f i).length = i := by simp [startL]
  have room : ∀ a : D, (((startL l f i).map (fun p : Nat × Nat => vN p.1 p.2)).length + [a].length) * 32 ≤ 140737488355328 ∧ True := fun a => by
    rw [List.length_map, hsl]
    exact ⟨by show (i + 1) * 32 ≤ _; omega, trivial⟩
  refine sat_branch tabOk Tryz.func16 rfl trivial (fun hb => ?_) (fun hb => ?_) <;> simp only [decide_eq_true_eq, decide_eq_false_iff_not] at hb
  · have hlt : i < (allL l kState l.length).length := by omega
    obtain ⟨s, hs⟩ : ∃ s, (allL l kState l.length).getD i 0 = s := ⟨_, rfl⟩
    have hst := startL_succ l f i
    rw [start1, hs] at hst
    have hof := tOf_call l kInit s hl (of_two ty (.inl rfl))
    rw [← hs] at hof
    refine sat_call tabOk Tryz.func16 rfl (by simp only [andP, and_true, true_and, Int.toNat_natCast, List.length_map, List.length_append, List.length_cons, List.length_nil, List.length_replicate]; omega) hof (.refl _) rfl ⟨_, rfl⟩ (by rintro r o rfl; rfl) ?_
    rintro _ o rfl
    rw [hs]
    refine sat_branch tabOk Tryz.func16 rfl trivial (fun hj => ?_) (fun hj => ?_)
    · have hj : (ofJ l kInit s).isSome = true := hj
      obtain ⟨j, hj2⟩ := Option.isSome_iff_exists.1 hj
      obtain ⟨h1, h2, h3, h4, h5⟩ := of_line ty (.inl rfl) hj2
      obtain ⟨m1, m2⟩ := const_mk ty h1 h2 (h5 rfl)
      rw [if_pos hj] at hst
      have e1 : IntKind.i64.wrap (ofV l kInit s - 1) = ofV l kInit s - 1 := wrap_id (by omega) (by omega)
      refine sat_call tabOk Tryz.func16 rfl ?nd ((Make_call (ln l (ofV l kInit s)).t (Nat.le_trans (mkok_len m1) (by decide))).mono fun r o hr => hr.trans (show mkR _ = tupOf [.d (vN (ln l (ofV l kInit s)).t.length (mkN (ln l (ofV l kInit s)).t)), vI .i64 0] by rw [mkR, if_pos m1])) ⟨.of ?_, trivial⟩ rfl ⟨_, rfl⟩ (by rintro r o rfl; rfl) ?_
      case nd =>
        simp only [e1, List.length_map]
        exact ⟨⟨by omega, by omega⟩, trivial⟩
      · show vSL (l.getD (IntKind.i64.wrap (ofV l kInit s - 1)).toNat default).t = _
        rw [e1]
      rintro _ o rfl
      refine sat_stop tabOk Tryz.func16 rfl (room _) ?_
      refine sat_le (ih (i + 1) (by omega) (by omega)) hC hCl ⟨⟨_, rfl, .refl _⟩, ⟨_, rfl, .refl _⟩, ⟨_, rfl, .refl _⟩, ⟨_, rfl, .refl _⟩, ⟨_, rfl, .refl _⟩, ⟨_, rfl, .of (by rw [wrap_id (by omega) (by omega)]; rfl)⟩, trivial⟩ ⟨.refl _, .gL ?_, trivial⟩ rfl rfl (Nat.zero_le _)
      rw [hst, List.map_append]
      rfl
    · have hj : (ofJ l kInit s).isSome = false := hj
      rw [if_neg (by rw [hj]; decide)] at hst
      refine sat_stop tabOk Tryz.func16 rfl (room _) ?_
      refine sat_le (ih (i + 1) (by omega) (by omega)) hC hCl ⟨⟨_, rfl, .refl _⟩, ⟨_, rfl, .refl _⟩, ⟨_, rfl, .refl _⟩, ⟨_, rfl, .refl _⟩, ⟨_, rfl, .refl _⟩, ⟨_, rfl, .of (by rw [wrap_id (by omega) (by omega)]; rfl)⟩, trivial⟩ ⟨.refl _, .gL ?_, trivial⟩ rfl rfl (Nat.zero_le _)
      rw [hst, List.map_append]
      rfl
  · obtain rfl : i = (allL l kState l.length).length := by omega
    refine sat_freeze 1 rfl ?_
    exact sat_ret tabOk Tryz.func16 rfl trivial rfl
theorem Start_no (l : List Nd) (hm : MdB l) (ty : Ty l) (f : List Vr) (hq : ∀ a ∈ f, QVr a) (hno : fitB l kState f = false) : ACall Tryz.prog 16 [.d (eBt l), .d (eRow f)] [] (fun r o => r = tupOf [.d (.v (.slice none 0 0)), vI .i64 7]) := by
  refine acall_enter Tryz.func16 rfl rfl (Nat.le_of_ble_eq_true rfl) fun C hC hCl hDs => ?_
  refine sat_call tabOk Tryz.func16 rfl trivial (tWidths_call l hm ty) (.refl _) rfl ⟨_, rfl⟩ (by rintro r o rfl; rfl) ?_
  rintro _ o rfl
  refine sat_call tabOk Tryz.func16 rfl trivial (fits_call l ty kState rfl f hq) (.refl _) rfl ⟨_, rfl⟩ (by rintro r o rfl; rfl) ?_
  rintro _ o rfl
  rw [hno]
  refine sat_branch tabOk Tryz.func16 rfl trivial (fun _ => ?_) (fun h => by cases h)
  exact sat_ret tabOk Tryz.func16 rfl trivial rfl

theorem rStart_ok (l : List Nd) (hm : MdB l) (ty : Ty l) (f : List (Nat × Nat)) (hf : Fit l kState f) : ACall Tryz.prog 17 [.d (eBt l), .d (eNums f)] [] (fun r o => r = tupOf [.d (eNums (startL l f (allL l kState l.length).length)), vI .i64 0]) := by
  refine acall_enter Tryz.func17 rfl rfl (Nat.le_of_ble_eq_true rfl) fun C hC hCl hDs => ?_
  have hl := ty.small
  have hfit := rfits_call l hm ty kState rfl (f.map vr) (fitQ hf)
  rw [eRow_nums, fit_of hf] at hfit
  refine sat_call tabOk Tryz.func17 rfl trivial hfit (.refl _) rfl ⟨_, rfl⟩ (by rintro r o rfl; rfl) ?_
  rintro _ o rfl
  refine sat_branch tabOk Tryz.func17 rfl trivial (fun h => by cases h) (fun _ => ?_)
  refine sat_call tabOk Tryz.func17 rfl trivial (all14_call l kState hl) (.refl _) rfl ⟨_, rfl⟩ (by rintro r o rfl; rfl) ?_
  rintro _ o rfl
  have hal := allL_len l kState l.length
  have hfl := hf.len
  refine sat_stop tabOk Tryz.func17 rfl trivial ?_
  refine sat_own (s := 2) (e := 56) (t := 7) (.inl rfl) (fun i => vN (nm [] i).1 (nm [] i).2) ?_
  refine sat_while (α := Nat) (fun i => [(1, .d (eNums f)), (2, .ptr 0 0), (7, .gs 1), (8, .d (eIs (allL l kState l.length))), (9, vI .i64 (i : Int))]) (fun i => [some (bBt l), some (gNums (startL l f i))]) (fun i => i ≤ (allL l kState l.length).length) (fun i => (allL l kState l.length).length - i) 0 (Nat.zero_le _) ?_ ?_
  · exact fun h => sat_le h hC hCl ⟨⟨_, rfl, .refl _⟩, ⟨_, rfl, .refl _⟩, ⟨_, rfl, .refl _⟩, ⟨_, rfl, .refl _⟩, ⟨_, rfl, .refl _⟩, trivial⟩ ⟨.refl _, .gL rfl, trivial⟩ rfl rfl (Nat.zero_le _)
  rintro i hi ih
  have hsl : (startL l f i).length = i := by simp [startL]
  have room : ∀ a : D, (((startL l f i).map (fun p : Nat × Nat => vN p.1 p.2)).length + [a].length) * 32 ≤ 140737488355328 := fun a => by
    rw [List.length_map, hsl]
    show (i + 1) * 32 ≤ _
    omega
  refine sat_branch tabOk Tryz.func17 rfl trivial (fun hb => ?_) (fun hb => ?_) <;> simp only [List.length_map, decide_eq_true_eq, decide_eq_false_iff_not] at hb
  · have hlt : i < (allL l kState l.length).length := by omega
    obtain ⟨s, hs⟩ : ∃ s, (allL l kState l.length).getD i 0 = s := ⟨_, rfl⟩
    have hst := startL_succ l f i
    rw [start1, hs] at hst
    have hof := of14_call l kInit s hl (of_two ty (.inl rfl))
    rw [← hs] at hof
    refine sat_drawT 10 tabOk Tryz.func17 rfl rfl trivial (by kernel_rfl) ?_
    refine ds_call tabOk rfl (by simp only [andP, and_true, true_and, Int.toNat_natCast, List.length_map, List.length_append, List.length_cons, List.length_nil, List.length_replicate]; omega) hof (callFunc_run Tryz.func26 rfl rfl) (by rintro r o rfl; rfl) (.refl _) rfl rfl ⟨_, rfl⟩ ?_
    refine ds_done tabOk rfl trivial ?_
    rw [hs]
    refine sat_branch tabOk Tryz.func17 rfl trivial (fun hj => ?_) (fun hj => ?_)
    · have hj : (ofJ l kInit s).isSome = true := hj
      obtain ⟨j, hj2⟩ := Option.isSome_iff_exists.1 hj
      obtain ⟨h1, h2, h3, h4, h5⟩ := of_line ty (.inl rfl) hj2
      obtain ⟨m1, m2⟩ := const_mk ty h1 h2 (h5 rfl)
      rw [if_pos hj] at hst
      have e1 : IntKind.i64.wrap (ofV l kInit s - 1) = ofV l kInit s - 1 := wrap_id (by omega) (by omega)
      refine sat_call tabOk Tryz.func17 rfl ?nd ((rMake_call (ln l (ofV l kInit s)).t (Nat.le_trans (mkok_len m1) (by decide))).mono fun r o hr => hr.trans (show mkR _ = tupOf [.d (vN (ln l (ofV l kInit s)).t.length (mkN (ln l (ofV l kInit s)).t)), vI .i64 0] by rw [mkR, if_pos m1])) ⟨.of ?_, trivial⟩ rfl ⟨_, rfl⟩ (by rintro r o rfl; rfl) ?_
      case nd =>
        simp only [e1, List.length_map]
        exact ⟨⟨by omega, by omega⟩, trivial⟩
      · show vSL (l.getD (IntKind.i64.wrap (ofV l kInit s - 1)).toNat default).t = _
        rw [e1]
      rintro _ o rfl
      refine sat_stop tabOk Tryz.func17 rfl ⟨room _, trivial⟩ ?_
      refine sat_le (ih (i + 1) (by omega) (by omega)) hC hCl ⟨⟨_, rfl, .refl _⟩, ⟨_, rfl, .refl _⟩, ⟨_, rfl, .refl _⟩, ⟨_, rfl, .refl _⟩, ⟨_, rfl, .of (by rw [wrap_id (by omega) (by omega)]; rfl)⟩, trivial⟩ ⟨.refl _, .gL ?_, trivial⟩ rfl rfl (Nat.zero_le _)
      rw [hst, List.map_append]
      rfl
    · have hj : (ofJ l kInit s).isSome = false := hj
      rw [if_neg (by rw [hj]; decide)] at hst
      refine sat_stop tabOk Tryz.func17 rfl ?nd ?_
      case nd =>
        refine ⟨room _, ?_⟩
        simp only [andP, List.length_map]
        exact ⟨⟨by omega, by omega⟩, trivial⟩
      refine sat_le (ih (i + 1) (by omega) (by omega)) hC hCl ⟨⟨_, rfl, .refl _⟩, ⟨_, rfl, .refl _⟩, ⟨_, rfl, .refl _⟩, ⟨_, rfl, .refl _⟩, ⟨_, rfl, .of (by rw [wrap_id (by omega) (by omega)]; rfl)⟩, trivial⟩ ⟨.refl _, .gL ?_, trivial⟩ rfl rfl (Nat.zero_le _)
      rw [hst, List.map_append]
      rfl
  · obtain rfl : i = (allL l kState l.length).length := by omega
    refine sat_freeze 1 rfl ?_
    exact sat_ret tabOk Tryz.func17 rfl trivial rfl
theorem rStart_no (l : List Nd) (hm : MdB l) (ty : Ty l) (f : List Vr) (hq : ∀ a ∈ f, QVr a) (hno : fitB l kState f = false) : ACall Tryz.prog 17 [.d (eBt l), .d (eRow f)] [] (fun r o => r = tupOf [.d (.v (.slice none 0 0)), vI .i64 7]) := by
  refine acall_enter Tryz.func17 rfl rfl (Nat.le_of_ble_eq_true rfl) fun C hC hCl hDs => ?_
  refine sat_call tabOk Tryz.func17 rfl trivial (rfits_call l hm ty kState rfl f hq) (.refl _) rfl ⟨_, rfl⟩ (by rintro r o rfl; rfl) ?_
  rintro _ o rfl
  rw [hno]
  refine sat_branch tabOk Tryz.func17 rfl trivial (fun _ => ?_) (fun h => by cases h)
  exact sat_ret tabOk Tryz.func17 rfl trivial rfl
end Go.Proofs.YtcenfhcemmlaeaaGreatDoor
namespace Go.Proofs.YtcenfhcemmlaeaaGreatDoor
open Go Ab
set_option maxRecDepth 100000
set_option linter.unusedVariables false
set_option linter.unusedSimpArgs false
set_option maxHeartbeats 4000000

@[reducible] def gNss (l : List (List (Nat × Nat))) : AObj := gL 25 1 eNums [] l
@[reducible] def inRow (ins : List (List Vr)) (i : Nat) : List Vr := ins.getD i []
/-- The state after some steps. -/
def stt (l : List Nd) (s : List (Nat × Nat)) (ins : List (List Vr)) : Nat → List (Nat × Nat)
  | 0 => s
  | i + 1 => nextL l (valL l (stt l s ins i) (numsOf (inRow ins i)) l.length)
def sttL (l : List Nd) (s : List (Nat × Nat)) (ins : List (List Vr)) (k : Nat) : List (List (Nat × Nat)) := (List.range k).map (stt l s ins)
theorem sttL_succ (l : List Nd) (s : List (Nat × Nat)) (ins : List (List Vr)) (k : Nat) : sttL l s ins (k + 1) = sttL l s ins k ++ [stt l s ins k] := by simp [sttL, List.range_succ]
theorem sttL_len (l : List Nd) (s : List (Nat × Nat)) (ins : List (List Vr)) (k : Nat) : (sttL l s ins k).length = k := by simp [sttL]
def inFit (l : List Nd) (ins : List (List Vr)) : Bool := ins.all (fitB l kInput)
@[reducible] def QRows (ins : List (List Vr)) : Prop := ∀ r ∈ ins, ∀ a ∈ r, QVr a
theorem inRow_mem {ins : List (List Vr)} {i : Nat} (h : i < ins.length) : inRow ins i ∈ ins := getD_mem [] h
theorem stt_fit {l : List Nd} (ty : Ty l) {s : List (Nat × Nat)} (hs : Fit l kState s) {ins : List (List Vr)} (hq : QRows ins) : ∀ i, i ≤ ins.length → (∀ q, q < i → fitB l kInput (inRow ins q) = true) → Fit l kState (stt l s ins i)
  | 0, _, _ => hs
  | i + 1, hi, h => by
    have ih := stt_fit ty hs hq i (by omega) fun q hq => h q (by omega)
    exact next_fit ty (valL_ok ty ih (fit_nums (hq _ (inRow_mem (by omega))) (h i (by omega))).2 l.length (Nat.le_refl _))
theorem step_row {l : List Nd} {f : FuncId} {R : AV → List (Option AObj) → Prop} {s : List (Nat × Nat)} {r : List Vr} (hq : ∀ a ∈ r, QVr a) (hf : fitB l kInput r = true) (h : ACall Tryz.prog f [.d (eBt l), .d (eNums s), .d (eNums (numsOf r))] [] R) : ACall Tryz.prog f [.d (eBt l), .d (eNums s), .d (eRow r)] [] R := by
  have := (fit_nums hq hf).1
  rw [this, eRow_nums]
  exact h
theorem step_bad {l : List Nd} {f : FuncId} {R : AV → List (Option AObj) → Prop} {s : List (Nat × Nat)} {r : List Vr} (h : ACall Tryz.prog f [.d (eBt l), .d (eRow (s.map vr)), .d (eRow r)] [] R) : ACall Tryz.prog f [.d (eBt l), .d (eNums s), .d (eRow r)] [] R := by
  rwa [eRow_nums] at h
def runA (l : List Nd) (s : List (Nat × Nat)) (ins : List (List Vr)) : AV := if inFit l ins = true then tupOf [.d (eNss (sttL l s ins (ins.length + 1))), vI .i64 0] else tupOf [.d (.v (.slice none 0 0)), vI .i64 7]

theorem Run_ok (l : List Nd) (hm : MdB l) (ty : Ty l) (f : List (Nat × Nat)) (hf : Fit l kState f) (ins : List (List Vr)) (hq : QRows ins) (hil : ins.length ≤ 1000000) : ACall Tryz.prog 18 [.d (eBt l), .d (eNums f), .d (eRows ins)] [] (fun r o => r = runA l (startL l f (allL l kState l.length).length) ins) := by
  refine acall_enter Tryz.func18 rfl rfl (Nat.le_of_ble_eq_true rfl) fun C hC hCl hDs => ?_
  have hl := ty.small
  refine sat_call tabOk Tryz.func18 rfl trivial (Start_ok l hm ty f hf) (.refl _) rfl ⟨_, rfl⟩ (by rintro r o rfl; rfl) ?_
  rintro _ o rfl
  have hs := start_fit ty hf
  generalize startL l f (allL l kState l.length).length = s at *
  refine sat_branch tabOk Tryz.func18 rfl trivial (fun h => by cases h) (fun _ => ?_)
  refine sat_steps 5 tabOk Tryz.func18 rfl trivial ?_
  refine sat_litG _ tabOk rfl rfl rfl rfl rfl trivial rfl ?_
  have hinl : inFit l ins = false → ∀ i, i < ins.length → fitB l kInput (inRow ins i) = false → runA l s ins = tupOf [.d (.v (.slice none 0 0)), vI .i64 7] := fun h _ _ _ => by rw [runA, if_neg (by rw [h]; decide)]
  have hbad : ∀ i, i < ins.length → fitB l kInput (inRow ins i) = false → runA l s ins = tupOf [.d (.v (.slice none 0 0)), vI .i64 7] := fun i hi h => by
    have : inFit l ins = false := List.all_eq_false.2 ⟨_, inRow_mem hi, by rw [h]; decide⟩
    exact hinl this i hi h
  have hgood : (∀ q, q < ins.length → fitB l kInput (inRow ins q) = true) → inFit l ins = true := fun h => List.all_eq_true.2 fun r hr => by
    obtain ⟨i, hi, rfl⟩ := List.getElem_of_mem hr
    have := h i hi
    rwa [inRow, getD_at hi] at this
  refine sat_stop tabOk Tryz.func18 rfl trivial ?_
  refine sat_while (α := Nat) (fun i => [(3, .ptr 0 0), (8, .d (eNums (stt l s ins i))), (10, .gs 1), (24, .d (eRows ins)), (25, vI .i64 (ins.length : Int)), (26, vI .i64 (i : Int))]) (fun i => [some (bBt l), some (gNss (sttL l s ins (i + 1)))])
    (fun i => i ≤ ins.length ∧ ∀ q, q < i → fitB l kInput (inRow ins q) = true) (fun i => ins.length - i) 0 ⟨Nat.zero_le _, fun q hq => by omega⟩ ?_ ?_
  · exact fun h => sat_le h hC hCl ⟨⟨_, rfl, .refl _⟩, ⟨_, rfl, .refl _⟩, ⟨_, rfl, .refl _⟩, ⟨_, rfl, .refl _⟩, ⟨_, rfl, .of (by rw [List.length_map])⟩, ⟨_, rfl, .refl _⟩, trivial⟩ ⟨.refl _, .gL rfl, trivial⟩ rfl rfl (Nat.zero_le _)
  rintro i ⟨hi, hall⟩ ih
  have room : ∀ a : D, (((sttL l s ins (i + 1)).map eNums).length + [a].length) * 24 ≤ 140737488355328 ∧ True := fun a => by
    rw [List.length_map, sttL_len]
    exact ⟨by show (i + 1 + 1) * 24 ≤ _; omega, trivial⟩
  have hfit := stt_fit ty hs hq i hi hall
  refine sat_branch tabOk Tryz.func18 rfl trivial (fun hb => ?_) (fun hb => ?_) <;> simp only [decide_eq_true_eq, decide_eq_false_iff_not] at hb
  · have hlt : i < ins.length := by omega
    have hqr := hq _ (inRow_mem hlt)
    cases hfr : fitB l kInput (inRow ins i) with
    | false =>
      refine sat_call tabOk Tryz.func18 rfl (by simp only [andP, and_true, true_and, Int.toNat_natCast, List.length_map, List.length_append, List.length_cons, List.length_nil, List.length_replicate]; omega) (step_bad (Step_no l hm ty ((stt l s ins i).map vr) (inRow ins i) (fitQ hfit) hqr (by rw [hfr, Bool.and_false]))) (.refl _) rfl ⟨_, rfl⟩ (by rintro r o rfl; rfl) ?_
      rintro _ o rfl
      refine sat_branch tabOk Tryz.func18 rfl trivial (fun _ => ?_) (fun h => by cases h)
      refine sat_ret tabOk Tryz.func18 rfl trivial ?_
      rw [hbad i hlt hfr]
    | true =>
      obtain ⟨_, hfi⟩ := fit_nums hqr hfr
      refine sat_call tabOk Tryz.func18 rfl (by simp only [andP, and_true, true_and, Int.toNat_natCast, List.length_map, List.length_append, List.length_cons, List.length_nil, List.length_replicate]; omega) (step_row hqr hfr (Step_ok l hm ty (stt l s ins i) (numsOf (inRow ins i)) hfit hfi)) (.refl _) rfl ⟨_, rfl⟩ (by rintro r o rfl; rfl) ?_
      rintro _ o rfl
      refine sat_branch tabOk Tryz.func18 rfl trivial (fun h => by cases h) (fun _ => ?_)
      refine sat_stop tabOk Tryz.func18 rfl (room _) ?_
      refine sat_le (ih (i + 1) ⟨by omega, fun q hq => ?_⟩ (by omega)) hC hCl ⟨⟨_, rfl, .refl _⟩, ⟨_, rfl, .refl _⟩, ⟨_, rfl, .refl _⟩, ⟨_, rfl, .refl _⟩, ⟨_, rfl, .refl _⟩, ⟨_, rfl, .of (by rw [wrap_id (by omega) (by omega)]; rfl)⟩, trivial⟩ ⟨.refl _, .gL ?_, trivial⟩ rfl rfl (Nat.zero_le _)
      · rcases Nat.lt_or_ge q i with h | h
        · exact hall q h
        · obtain rfl : q = i := by omega
          exact hfr
      · rw [sttL_succ l s ins (i + 1), List.map_append]
        rfl
  · obtain rfl : i = ins.length := by omega
    refine sat_freeze 1 rfl ?_
    refine sat_ret tabOk Tryz.func18 rfl trivial ?_
    rw [runA, if_pos (hgood hall)]
    rfl
theorem Run_no (l : List Nd) (hm : MdB l) (ty : Ty l) (f : List Vr) (hq : ∀ a ∈ f, QVr a) (hno : fitB l kState f = false) (ins : List (List Vr)) : ACall Tryz.prog 18 [.d (eBt l), .d (eRow f), .d (eRows ins)] [] (fun r o => r = tupOf [.d (.v (.slice none 0 0)), vI .i64 7]) := by
  refine acall_enter Tryz.func18 rfl rfl (Nat.le_of_ble_eq_true rfl) fun C hC hCl hDs => ?_
  refine sat_call tabOk Tryz.func18 rfl trivial (Start_no l hm ty f hq hno) (.refl _) rfl ⟨_, rfl⟩ (by rintro r o rfl; rfl) ?_
  rintro _ o rfl
  refine sat_branch tabOk Tryz.func18 rfl trivial (fun _ => ?_) (fun h => by cases h)
  exact sat_ret tabOk Tryz.func18 rfl trivial rfl

theorem rRun_ok (l : List Nd) (hm : MdB l) (ty : Ty l) (f : List (Nat × Nat)) (hf : Fit l kState f) (ins : List (List Vr)) (hq : QRows ins) (hil : ins.length ≤ 1000000) : ACall Tryz.prog 19 [.d (eBt l), .d (eNums f), .d (eRows ins)] [] (fun r o => r = runA l (startL l f (allL l kState l.length).length) ins) := by
  refine acall_enter Tryz.func19 rfl rfl (Nat.le_of_ble_eq_true rfl) fun C hC hCl hDs => ?_
  have hl := ty.small
  refine sat_call tabOk Tryz.func19 rfl trivial (rStart_ok l hm ty f hf) (.refl _) rfl ⟨_, rfl⟩ (by rintro r o rfl; rfl) ?_
  rintro _ o rfl
  have hs := start_fit ty hf
  generalize startL l f (allL l kState l.length).length = s at *
  refine sat_branch tabOk Tryz.func19 rfl trivial (fun h => by cases h) (fun _ => ?_)
  refine sat_steps 5 tabOk Tryz.func19 rfl trivial ?_
  refine sat_litG _ tabOk rfl rfl rfl rfl rfl trivial rfl ?_
  have hinl : inFit l ins = false → ∀ i, i < ins.length → fitB l kInput (inRow ins i) = false → runA l s ins = tupOf [.d (.v (.slice none 0 0)), vI .i64 7] := fun h _ _ _ => by rw [runA, if_neg (by rw [h]; decide)]
  have hbad : ∀ i, i < ins.length → fitB l kInput (inRow ins i) = false → runA l s ins = tupOf [.d (.v (.slice none 0 0)), vI .i64 7] := fun i hi h => by
    have : inFit l ins = false := List.all_eq_false.2 ⟨_, inRow_mem hi, by rw [h]; decide⟩
    exact hinl this i hi h
  have hgood : (∀ q, q < ins.length → fitB l kInput (inRow ins q) = true) → inFit l ins = true := fun h => List.all_eq_true.2 fun r hr => by
    obtain ⟨i, hi, rfl⟩ := List.getElem_of_mem hr
    have := h i hi
    rwa [inRow, getD_at hi] at this
  refine sat_stop tabOk Tryz.func19 rfl trivial ?_
  refine sat_while (α := Nat) (fun i => [(3, .ptr 0 0), (8, .d (eNums (stt l s ins i))), (10, .gs 1), (2, .d (eRows ins)), (11, vI .i64 (i : Int))]) (fun i => [some (bBt l), some (gNss (sttL l s ins (i + 1)))])
    (fun i => i ≤ ins.length ∧ ∀ q, q < i → fitB l kInput (inRow ins q) = true) (fun i => ins.length - i) 0 ⟨Nat.zero_le _, fun q hq => by omega⟩ ?_ ?_
  · exact fun h => sat_le h hC hCl ⟨⟨_, rfl, .refl _⟩, ⟨_, rfl, .refl _⟩, ⟨_, rfl, .refl _⟩, ⟨_, rfl, .refl _⟩, ⟨_, rfl, .refl _⟩, trivial⟩ ⟨.refl _, .gL rfl, trivial⟩ rfl rfl (Nat.zero_le _)
  rintro i ⟨hi, hall⟩ ih
  have room : ∀ a : D, (((sttL l s ins (i + 1)).map eNums).length + [a].length) * 24 ≤ 140737488355328 ∧ True := fun a => by
    rw [List.length_map, sttL_len]
    exact ⟨by show (i + 1 + 1) * 24 ≤ _; omega, trivial⟩
  have hfit := stt_fit ty hs hq i hi hall
  refine sat_branch tabOk Tryz.func19 rfl trivial (fun hb => ?_) (fun hb => ?_) <;> simp only [List.length_map, decide_eq_true_eq, decide_eq_false_iff_not] at hb
  · have hlt : i < ins.length := by omega
    have hqr := hq _ (inRow_mem hlt)
    cases hfr : fitB l kInput (inRow ins i) with
    | false =>
      refine sat_draw1S 14 11 13 (c := none) (a := .dead) (o2 := .cells 36 [.d (.v (.slice none 0 0)), .d (.v (.slice none 0 0))]) tabOk Tryz.func19 rfl rfl trivial (by kernel_rfl) (by kernel_rfl) rfl rfl rfl (by kernel_rfl) (by rw [hCl, hC]; exact Nat.zero_le _) rfl rfl rfl rfl rfl rfl
        (fun _ => ds_call tabOk rfl (by simp only [andP, and_true, true_and, Int.toNat_natCast, List.length_map, List.length_append, List.length_cons, List.length_nil, List.length_replicate]; omega) (step_bad (rStep_no l hm ty ((stt l s ins i).map vr) (inRow ins i) (fitQ hfit) hqr (by rw [hfr, Bool.and_false]))) (callFunc_run Tryz.func15 rfl rfl) (by rintro r o rfl; rfl) (.refl _) rfl rfl ⟨_, rfl⟩ (ds_done tabOk rfl trivial rfl))
        (by rfl) (by rfl) (by rfl) (by rfl) trivial ?_
      refine sat_branch tabOk Tryz.func19 rfl trivial (fun _ => ?_) (fun h => by cases h)
      refine sat_ret tabOk Tryz.func19 rfl trivial ?_
      rw [hbad i hlt hfr]
    | true =>
      obtain ⟨_, hfi⟩ := fit_nums hqr hfr
      refine sat_draw1S 14 11 13 (c := none) (a := .dead) (o2 := .cells 36 [.d (eBs (flagL l kBad (valL l (stt l s ins i) (numsOf (inRow ins i)) l.length) l.length)), .d (eBs (flagL l kConstraint (valL l (stt l s ins i) (numsOf (inRow ins i)) l.length) l.length))]) tabOk Tryz.func19 rfl rfl trivial (by kernel_rfl) (by kernel_rfl) rfl rfl rfl (by kernel_rfl) (by rw [hCl, hC]; exact Nat.zero_le _) rfl rfl rfl rfl rfl rfl
        (fun _ => ds_call tabOk rfl (by simp only [andP, and_true, true_and, Int.toNat_natCast, List.length_map, List.length_append, List.length_cons, List.length_nil, List.length_replicate]; omega) (step_row hqr hfr (rStep_ok l hm ty (stt l s ins i) (numsOf (inRow ins i)) hfit hfi)) (callFunc_run Tryz.func15 rfl rfl) (by rintro r o rfl; rfl) (.refl _) rfl rfl ⟨_, rfl⟩ (ds_done tabOk rfl trivial rfl))
        (by rfl) (by rfl) (by rfl) (by rfl) trivial ?_
      refine sat_branch tabOk Tryz.func19 rfl trivial (fun h => by cases h) (fun _ => ?_)
      refine sat_stop tabOk Tryz.func19 rfl (room _) ?_
      refine sat_le (ih (i + 1) ⟨by omega, fun q hq => ?_⟩ (by omega)) hC hCl ⟨⟨_, rfl, .refl _⟩, ⟨_, rfl, .refl _⟩, ⟨_, rfl, .refl _⟩, ⟨_, rfl, .refl _⟩, ⟨_, rfl, .of (by rw [wrap_id (by omega) (by omega)]; rfl)⟩, trivial⟩ ⟨.refl _, .gL ?_, trivial⟩ rfl rfl (Nat.zero_le _)
      · rcases Nat.lt_or_ge q i with h | h
        · exact hall q h
        · obtain rfl : q = i := by omega
          exact hfr
      · rw [sttL_succ l s ins (i + 1), List.map_append]
        rfl
  · obtain rfl : i = ins.length := by omega
    refine sat_freeze 1 rfl ?_
    refine sat_ret tabOk Tryz.func19 rfl trivial ?_
    rw [runA, if_pos (hgood hall)]
    rfl
theorem rRun_no (l : List Nd) (hm : MdB l) (ty : Ty l) (f : List Vr) (hq : ∀ a ∈ f, QVr a) (hno : fitB l kState f = false) (ins : List (List Vr)) : ACall Tryz.prog 19 [.d (eBt l), .d (eRow f), .d (eRows ins)] [] (fun r o => r = tupOf [.d (.v (.slice none 0 0)), vI .i64 7]) := by
  refine acall_enter Tryz.func19 rfl rfl (Nat.le_of_ble_eq_true rfl) fun C hC hCl hDs => ?_
  refine sat_call tabOk Tryz.func19 rfl trivial (rStart_no l hm ty f hq hno) (.refl _) rfl ⟨_, rfl⟩ (by rintro r o rfl; rfl) ?_
  rintro _ o rfl
  refine sat_branch tabOk Tryz.func19 rfl trivial (fun _ => ?_) (fun h => by cases h)
  exact sat_ret tabOk Tryz.func19 rfl trivial rfl
end Go.Proofs.YtcenfhcemmlaeaaGreatDoor
namespace Go.Proofs.YtcenfhcemmlaeaaGreatDoor
open Go Ab
set_option maxRecDepth 100000
set_option linter.unusedVariables false
set_option linter.unusedSimpArgs false
set_option maxHeartbeats 4000000

/-! ### Rows compared -/
def OkN (p : Nat × Nat) : Prop := p.2 < 2 ^ p.1 ∧ p.1 ≤ 128
@[reducible] def OkNs (a : List (Nat × Nat)) : Prop := ∀ p ∈ a, OkN p
theorem okN0 : OkN (0, 0) := by unfold OkN; decide
theorem okNs_nm {a : List (Nat × Nat)} (h : OkNs a) (i : Nat) : OkN (nm a i) := by
  rcases Nat.lt_or_ge i a.length with hi | hi
  · exact h _ (getD_mem _ hi)
  · rw [show nm a i = (0, 0) by simp [nm, List.getD_eq_getElem?_getD, List.getElem?_eq_none hi]]
    exact okN0
theorem take_eq_all {α : Type} {a b : List α} (hl : a.length = b.length) (h : a.take a.length = b.take a.length) : a = b := by
  rw [List.take_length, hl, List.take_length] at h
  exact h
theorem take_succ_eq {α : Type} (d : α) {a b : List α} {i : Nat} (ha : i < a.length) (hb : i < b.length) (h : a.take i = b.take i) (he : a.getD i d = b.getD i d) : a.take (i + 1) = b.take (i + 1) := by
  rw [List.take_succ_eq_append_getElem ha, List.take_succ_eq_append_getElem hb, h, ← getD_at (d := d) ha, ← getD_at (d := d) hb, he]
theorem Vecs_call (a b : List (Nat × Nat)) (ha : OkNs a) (hb : OkNs b) (hal : a.length ≤ 1000000) : ACall Tryz.prog 20 [.d (eNums a), .d (eNums b)] [] (fun r o => r = vB (decide (a = b))) := by
  refine acall_enter Tryz.func20 rfl rfl (Nat.le_of_ble_eq_true rfl) fun C hC hCl hDs => ?_
  refine sat_branch tabOk Tryz.func20 rfl trivial (fun h => ?_) (fun h => ?_)
  · have h : (((a.map fun p : Nat × Nat => vN p.1 p.2).length : Int) != ((b.map fun p : Nat × Nat => vN p.1 p.2).length : Int)) = true := h
    refine sat_ret tabOk Tryz.func20 rfl trivial ?_
    have : a ≠ b := fun e => by simp [e] at h
    rw [decide_eq_false this]
    rfl
  have h : (((a.map fun p : Nat × Nat => vN p.1 p.2).length : Int) != ((b.map fun p : Nat × Nat => vN p.1 p.2).length : Int)) = false := h
  have hl : a.length = b.length := by simp at h; omega
  refine sat_stop tabOk Tryz.func20 rfl trivial ?_
  refine sat_while (α := Nat) (fun i => [(0, .d (eNums a)), (1, .d (eNums b)), (5, vI .i64 (i : Int))]) (fun i => []) (fun i => i ≤ a.length ∧ a.take i = b.take i) (fun i => a.length - i) 0 ⟨Nat.zero_le _, rfl⟩ ?_ ?_
  · exact fun h => sat_le h hC hCl ⟨⟨_, rfl, .refl _⟩, ⟨_, rfl, .refl _⟩, ⟨_, rfl, .refl _⟩, trivial⟩ trivial rfl rfl (Nat.zero_le _)
  rintro i ⟨hi, ht⟩ ih
  refine sat_branch tabOk Tryz.func20 rfl trivial (fun hb => ?_) (fun hb => ?_) <;> simp only [List.length_map, decide_eq_true_eq, decide_eq_false_iff_not] at hb
  · have hlt : i < a.length := by omega
    refine sat_drawT 8 tabOk Tryz.func20 rfl rfl trivial (by kernel_rfl) ?_
    refine ds_done tabOk rfl (by simp only [andP, and_true, true_and, Int.toNat_natCast, List.length_map, List.length_append, List.length_cons, List.length_nil, List.length_replicate]; omega) ?_
    refine sat_call tabOk Tryz.func20 rfl trivial (rSameN_call (nm a i).1 (nm a i).2 (nm b i).1 (nm b i).2 (okNs_nm ha i).1 (okNs_nm ‹OkNs b› i).1 (by have := (okNs_nm ha i).2; omega)) (.refl _) rfl ⟨_, rfl⟩ (by rintro r o rfl; rfl) ?_
    rintro _ o rfl
    refine sat_branch tabOk Tryz.func20 rfl trivial (fun h3 => ?_) (fun h3 => ?_)
    · have h3 : (decide ((nm a i).1 = (nm b i).1) && decide ((nm a i).2 = (nm b i).2)) = false := by cases hq : (decide ((nm a i).1 = (nm b i).1) && decide ((nm a i).2 = (nm b i).2)) with | false => rfl | true => rw [hq] at h3; cases h3
      refine sat_ret tabOk Tryz.func20 rfl trivial ?_
      have : a ≠ b := fun e => by simp [e] at h3
      rw [decide_eq_false this]
      rfl
    · have h3 : (decide ((nm a i).1 = (nm b i).1) && decide ((nm a i).2 = (nm b i).2)) = true := by cases hq : (decide ((nm a i).1 = (nm b i).1) && decide ((nm a i).2 = (nm b i).2)) with | true => rfl | false => rw [hq] at h3; cases h3
      rw [Bool.and_eq_true, decide_eq_true_eq, decide_eq_true_eq] at h3
      refine sat_stop tabOk Tryz.func20 rfl trivial ?_
      exact sat_le (ih (i + 1) ⟨by omega, take_succ_eq (0, 0) hlt (by omega) ht (Prod.ext h3.1 h3.2)⟩ (by omega)) hC hCl ⟨⟨_, rfl, .refl _⟩, ⟨_, rfl, .refl _⟩, ⟨_, rfl, .of (by rw [wrap_id (by omega) (by omega)]; rfl)⟩, trivial⟩ trivial rfl rfl (Nat.zero_le _)
  · obtain rfl : i = a.length := by omega
    refine sat_ret tabOk Tryz.func20 rfl trivial ?_
    rw [decide_eq_true (take_eq_all hl ht)]
    rfl

theorem Rows_call (a b : List (List (Nat × Nat))) (ha : ∀ r ∈ a, OkNs r ∧ r.length ≤ 1000000) (hb : ∀ r ∈ b, OkNs r) (hal : a.length ≤ 1000000) : ACall Tryz.prog 22 [.d (eNss a), .d (eNss b)] [] (fun r o => r = vB (decide (a = b))) := by
  refine acall_enter Tryz.func22 rfl rfl (Nat.le_of_ble_eq_true rfl) fun C hC hCl hDs => ?_
  refine sat_branch tabOk Tryz.func22 rfl trivial (fun h => ?_) (fun h => ?_)
  · have h : (((a.map eNums).length : Int) != ((b.map eNums).length : Int)) = true := h
    refine sat_ret tabOk Tryz.func22 rfl trivial ?_
    have : a ≠ b := fun e => by simp [e] at h
    rw [decide_eq_false this]
    rfl
  have h : (((a.map eNums).length : Int) != ((b.map eNums).length : Int)) = false := h
  have hl : a.length = b.length := by simp at h; omega
  refine sat_stop tabOk Tryz.func22 rfl trivial ?_
  refine sat_while (α := Nat) (fun i => [(0, .d (eNss a)), (1, .d (eNss b)), (5, vI .i64 (i : Int))]) (fun i => []) (fun i => i ≤ a.length ∧ a.take i = b.take i) (fun i => a.length - i) 0 ⟨Nat.zero_le _, rfl⟩ ?_ ?_
  · exact fun h => sat_le h hC hCl ⟨⟨_, rfl, .refl _⟩, ⟨_, rfl, .refl _⟩, ⟨_, rfl, .refl _⟩, trivial⟩ trivial rfl rfl (Nat.zero_le _)
  rintro i ⟨hi, ht⟩ ih
  refine sat_branch tabOk Tryz.func22 rfl trivial (fun hb => ?_) (fun hb => ?_) <;> simp only [List.length_map, decide_eq_true_eq, decide_eq_false_iff_not] at hb
  · have hlt : i < a.length := by omega
    have hma := ha _ (getD_mem (i := i) [] hlt)
    have hmb := (‹∀ r ∈ b, OkNs r›) _ (getD_mem (i := i) [] (by omega))
    refine sat_drawT 8 tabOk Tryz.func22 rfl rfl trivial (by kernel_rfl) ?_
    refine ds_done tabOk rfl (by simp only [andP, and_true, true_and, Int.toNat_natCast, List.length_map, List.length_append, List.length_cons, List.length_nil, List.length_replicate]; omega) ?_
    refine sat_call tabOk Tryz.func22 rfl trivial (Vecs_call (a.getD i []) (b.getD i []) hma.1 hmb hma.2) (.refl _) rfl ⟨_, rfl⟩ (by rintro r o rfl; rfl) ?_
    rintro _ o rfl
    refine sat_branch tabOk Tryz.func22 rfl trivial (fun h3 => ?_) (fun h3 => ?_)
    · have h3 : ¬ a.getD i [] = b.getD i [] := by simpa only [Bool.not_eq_true', decide_eq_false_iff_not] using h3
      refine sat_ret tabOk Tryz.func22 rfl trivial ?_
      have : a ≠ b := fun e => h3 (by rw [e])
      rw [decide_eq_false this]
      rfl
    · have h3 : a.getD i [] = b.getD i [] := by simpa only [Bool.not_eq_false', decide_eq_true_eq] using h3
      refine sat_stop tabOk Tryz.func22 rfl trivial ?_
      exact sat_le (ih (i + 1) ⟨by omega, take_succ_eq [] hlt (by omega) ht h3⟩ (by omega)) hC hCl ⟨⟨_, rfl, .refl _⟩, ⟨_, rfl, .refl _⟩, ⟨_, rfl, .of (by rw [wrap_id (by omega) (by omega)]; rfl)⟩, trivial⟩ trivial rfl rfl (Nat.zero_le _)
  · obtain rfl : i = a.length := by omega
    refine sat_ret tabOk Tryz.func22 rfl trivial ?_
    rw [decide_eq_true (take_eq_all hl ht)]
    rfl

theorem Flags_call (a b : List Bool) (hal : a.length ≤ 1000000) : ACall Tryz.prog 21 [.d (eBs a), .d (eBs b)] [] (fun r o => r = vB (decide (a = b))) := by
  refine acall_enter Tryz.func21 rfl rfl (Nat.le_of_ble_eq_true rfl) fun C hC hCl hDs => ?_
  refine sat_branch tabOk Tryz.func21 rfl trivial (fun h => ?_) (fun h => ?_)
  · have h : (((a.map eB).length : Int) != ((b.map eB).length : Int)) = true := h
    refine sat_ret tabOk Tryz.func21 rfl trivial ?_
    have : a ≠ b := fun e => by simp [e] at h
    rw [decide_eq_false this]
    rfl
  have h : (((a.map eB).length : Int) != ((b.map eB).length : Int)) = false := h
  have hl : a.length = b.length := by simp at h; omega
  refine sat_stop tabOk Tryz.func21 rfl trivial ?_
  refine sat_while (α := Nat) (fun i => [(0, .d (eBs a)), (1, .d (eBs b)), (5, vI .i64 (i : Int))]) (fun i => []) (fun i => i ≤ a.length ∧ a.take i = b.take i) (fun i => a.length - i) 0 ⟨Nat.zero_le _, rfl⟩ ?_ ?_
  · exact fun h => sat_le h hC hCl ⟨⟨_, rfl, .refl _⟩, ⟨_, rfl, .refl _⟩, ⟨_, rfl, .refl _⟩, trivial⟩ trivial rfl rfl (Nat.zero_le _)
  rintro i ⟨hi, ht⟩ ih
  refine sat_branch tabOk Tryz.func21 rfl trivial (fun hb => ?_) (fun hb => ?_) <;> simp only [List.length_map, decide_eq_true_eq, decide_eq_false_iff_not] at hb
  · have hlt : i < a.length := by omega
    refine sat_drawT 8 tabOk Tryz.func21 rfl rfl trivial (by kernel_rfl) ?_
    refine ds_done tabOk rfl (by simp only [andP, and_true, true_and, Int.toNat_natCast, List.length_map, List.length_append, List.length_cons, List.length_nil, List.length_replicate]; omega) ?_
    refine sat_branch tabOk Tryz.func21 rfl trivial (fun h3 => ?_) (fun h3 => ?_)
    · have h3 : (a.getD i false != b.getD i false) = true := h3
      refine sat_ret tabOk Tryz.func21 rfl trivial ?_
      have : a ≠ b := fun e => by simp [e] at h3
      rw [decide_eq_false this]
      rfl
    · have h3 : (a.getD i false != b.getD i false) = false := h3
      refine sat_stop tabOk Tryz.func21 rfl trivial ?_
      exact sat_le (ih (i + 1) ⟨by omega, take_succ_eq false hlt (by omega) ht (by simpa using h3)⟩ (by omega)) hC hCl ⟨⟨_, rfl, .refl _⟩, ⟨_, rfl, .refl _⟩, ⟨_, rfl, .of (by rw [wrap_id (by omega) (by omega)]; rfl)⟩, trivial⟩ trivial rfl rfl (Nat.zero_le _)
  · obtain rfl : i = a.length := by omega
    refine sat_ret tabOk Tryz.func21 rfl trivial ?_
    rw [decide_eq_true (take_eq_all hl ht)]
    rfl

theorem Few_call (ins : List (List Vr)) (most : Int) (hm : most ≤ 1000000) : ACall Tryz.prog 11 [.d (eRows ins), vI .i64 most] [] (fun r o => ∃ b, r = vB b ∧ (b = true → (ins.length : Int) ≤ most)) := by
  refine acall_enter Tryz.func11 rfl rfl (Nat.le_of_ble_eq_true rfl) fun C hC hCl hDs => ?_
  refine sat_branch tabOk Tryz.func11 rfl trivial (fun h => ?_) (fun h => ?_)
  · exact sat_ret tabOk Tryz.func11 rfl trivial ⟨false, rfl, fun h => by cases h⟩
  have h : decide (((ins.map eRow).length : Int) > most) = false := h
  rw [List.length_map, decide_eq_false_iff_not] at h
  refine sat_stop tabOk Tryz.func11 rfl trivial ?_
  refine sat_while (α := Nat) (fun i => [(0, .d (eRows ins)), (5, vI .i64 (i : Int))]) (fun i => []) (fun i => i ≤ ins.length) (fun i => ins.length - i) 0 (Nat.zero_le _) ?_ ?_
  · exact fun h => sat_le h hC hCl ⟨⟨_, rfl, .refl _⟩, ⟨_, rfl, .refl _⟩, trivial⟩ trivial rfl rfl (Nat.zero_le _)
  rintro i hi ih
  refine sat_branch tabOk Tryz.func11 rfl trivial (fun hb => ?_) (fun hb => ?_) <;> simp only [List.length_map, decide_eq_true_eq, decide_eq_false_iff_not] at hb
  · have hlt : i < ins.length := by omega
    obtain ⟨row, hrow⟩ : ∃ row, ins.getD i [] = row := ⟨_, rfl⟩
    refine sat_branch tabOk Tryz.func11 rfl (by simp only [andP, and_true, true_and, Int.toNat_natCast, List.length_map, List.length_append, List.length_cons, List.length_nil, List.length_replicate]; omega) (fun h1 => ?_) (fun h1 => ?_)
    · exact sat_ret tabOk Tryz.func11 rfl trivial ⟨false, rfl, fun h => by cases h⟩
    have h1 : decide ((((ins.getD i []).map eVr).length : Int) > 40) = false := h1
    rw [List.length_map, decide_eq_false_iff_not, hrow] at h1
    refine sat_stop tabOk Tryz.func11 rfl trivial ?_
    refine sat_while (α := Nat) (fun k => [(0, .d (eRows ins)), (5, vI .i64 (i : Int)), (6, vI .i64 (k : Int))]) (fun k => []) (fun k => k ≤ row.length) (fun k => row.length - k) 0 (Nat.zero_le _) ?_ ?_
    · exact fun h => sat_le h hC hCl ⟨⟨_, rfl, .refl _⟩, ⟨_, rfl, .refl _⟩, ⟨_, rfl, .refl _⟩, trivial⟩ trivial rfl rfl (Nat.zero_le _)
    rintro k hk ihk
    refine sat_branch tabOk Tryz.func11 rfl (by simp only [andP, and_true, true_and, Int.toNat_natCast, List.length_map, List.length_append, List.length_cons, List.length_nil, List.length_replicate]; omega) (fun hb => ?_) (fun hb => ?_)
    · have hb : decide ((k : Int) < (((ins.getD i []).map eVr).length : Int)) = true := hb
      rw [List.length_map, hrow, decide_eq_true_eq] at hb
      refine sat_call tabOk Tryz.func11 rfl ?nd (Small_call (row.getD k (0, [], ())).1 (row.getD k (0, [], ())).2.1) ⟨.of ?_, trivial⟩ rfl ⟨_, rfl⟩ (by rintro r o rfl; rfl) ?_
      case nd =>
        refine ⟨⟨by omega, ?_⟩, ⟨by omega, by rw [List.length_map]; omega⟩, trivial⟩
        show (k : Int) < (((ins.getD i []).map eVr).length : Int)
        rw [List.length_map, hrow]
        exact hb
      · show AV.d (eVr ((ins.getD i []).getD k (0, [], ()))) = _
        rw [hrow]
      rintro _ o rfl
      refine sat_branch tabOk Tryz.func11 rfl trivial (fun g => ?_) (fun g => ?_)
      · exact sat_ret tabOk Tryz.func11 rfl trivial ⟨false, rfl, fun h => by cases h⟩
      refine sat_stop tabOk Tryz.func11 rfl trivial ?_
      exact sat_le (ihk (k + 1) (by omega) (by omega)) hC hCl ⟨⟨_, rfl, .refl _⟩, ⟨_, rfl, .refl _⟩, ⟨_, rfl, .of (by rw [wrap_id (by omega) (by omega)]; rfl)⟩, trivial⟩ trivial rfl rfl (Nat.zero_le _)
    · have hb : decide ((k : Int) < (((ins.getD i []).map eVr).length : Int)) = false := hb
      refine sat_stop tabOk Tryz.func11 rfl trivial ?_
      exact sat_le (ih (i + 1) (by omega) (by omega)) hC hCl ⟨⟨_, rfl, .refl _⟩, ⟨_, rfl, .of (by rw [wrap_id (by omega) (by omega)]; rfl)⟩, trivial⟩ trivial rfl rfl (Nat.zero_le _)
  · exact sat_ret tabOk Tryz.func11 rfl trivial ⟨true, rfl, fun _ => by omega⟩
end Go.Proofs.YtcenfhcemmlaeaaGreatDoor
set_option linter.unusedSimpArgs false
set_option linter.unusedVariables false
namespace Ab
open Go
theorem eLitD_ok {P : Program} {T : Tab} (hT : TabOk P T) {X : Nat → Prop} {π : List Value} {objs : List (Option AObj)} {w : World} (m : Mem X π objs w) {t : TypeId} {len : Nat} {ps : List (Nat × AV)} {vs : List (Nat × Value)}
    (hp : RelPs w (okOf X π objs) π ps vs) {c : Option Prop} {a : AV} (h : eLit T t len ps objs = some ⟨c, false, a, none, objs⟩) : ∃ v w2, (Instr.buildSlice t len vs.toArray).run P w = .ok v w2 ∧ Later w w2 ∧ RelV w2 (okOf X π objs) π a v := by
  unfold eLit at h
  revert h
  split
  · (intro h; cases h)
  · rename_i r hr
    split
    · rename_i e hk
      have ht := slice_elem hT hr hk
      split
      · (intro h; cases h)
      · rename_i re hre
        obtain ⟨z, hzr, hzc, hzf, _, _⟩ := (tab_row hT hre).zero
        have hzl : z.cells.size = re.size := by
          have := (tab_row hT hre).zl
          rw [← hzc] at this
          simpa using this
        split
        · split
          · intro h
            cases h
            cases hp
            have hsz := (tab_row hT hre).sizeOf w
            have hrun : (Instr.buildSlice t 0 #[]).run P w = .ok (.slice (some ⟨w.heap.size, 0, none⟩) 0 0) (w.alloc (.cells #[] e)) := by
              simp [Instr.buildSlice, run_underlying ht, hsz, run_newRow, Instr.fill]
              have e0 : Array.range 0 = #[] := Array.ext' (by simp)
              rw [e0, Array.map_empty]
            exact ⟨_, _, hrun, ⟨rfl, rfl, ⟨rfl, Nat.le_refl _⟩, by rw [alloc_heap]; simp, fun b hb => heap_push_old _ hb⟩, .e0⟩
          · (intro h; cases h)
        · rename_i p ps'
          split
          · (intro h; cases h)
          · rename_i xs hxs
            split
            · (intro h; cases h)
            · rename_i hlen
              have hlen := lenIs_eq hlen
              split
              · rename_i hble
                have hble' : len * re.size ≤ 16777216 := by simpa using hble
                split
                · (intro h; cases h)
                · rename_i hz0
                  intro h
                  cases h
                  obtain ⟨us, h1, h2⟩ := lit_rel hxs hp [] ((List.range (len * re.size)).map fun i => z.cells[i % z.cells.size]!) (by simp) (by simp [hlen])
                  have hul := h1.length
                  simp only [List.nil_append] at h2
                  have hrun : (Instr.buildSlice t len vs.toArray).run P w = .ok (.slice (some ⟨w.heap.size, 0, none⟩) len len) (w.alloc (.cells us.toArray e)) := by
                    have hz0' : re.size ≠ 0 := by
                      intro e
                      rw [e] at hz0
                      cases hz0
                    have hsz := (tab_row hT hre).sizeOf w
                    have h2' : Instr.fill (fun i => some (i * re.size, re.size)) (Array.map (fun i => z.cells[i % z.cells.size]!) (Array.range (len * re.size))) vs = some us.toArray := by
                      rw [← h2]
                      congr 1
                      apply Array.ext'
                      simp
                    by_cases hl0 : len * re.size = 0
                    · have hl00 : len = 0 := by
                        rcases Nat.mul_eq_zero.1 hl0 with h | h
                        · exact h
                        · exact absurd h hz0'
                      subst hl00
                      have hx0 : xs = [] := List.eq_nil_of_length_eq_zero hlen
                      subst hx0
                      exfalso
                      revert hxs
                      simp only [litParts]
                      repeat' split
                      all_goals simp
                    · simp [Instr.buildSlice, run_underlying ht, hsz, hl0, show ¬ 16777216 < len * re.size by omega, hzr, h2', run_newRow]
                  have hext : ∀ b, b < w.heap.size → (w.alloc (.cells us.toArray e)).heap[b]? = w.heap[b]? := fun b hb => heap_push_old _ hb
                  have hlt : Later w (w.alloc (.cells us.toArray e)) := ⟨rfl, rfl, ⟨rfl, Nat.le_refl _⟩, by rw [alloc_heap]; simp, hext⟩
                  refine ⟨_, _, hrun, hlt, ?_⟩
                  have hk : Keeps w (okOf X π objs) (w.alloc (.cells us.toArray e)) (okOf X π objs) := fun b o u a1 a2 => ⟨a1, cell_push _ a2⟩
                  subst hlen
                  refine .d (.sl (us := us) (h1.mono hk) (fun i hi => ⟨new_okb m, ?_⟩) (Nat.le_refl _) ?_ (litRd_ok xs))
                  · rw [Nat.zero_add]
                    exact cell_of_heap (fz := (0, 0)) (heap_push_new _)
                  · have hml : maxLen = 9223372036854775807 := rfl
                    have : xs.length * 1 ≤ xs.length * re.size := Nat.mul_le_mul_left _ (by
                      have : re.size ≠ 0 := by intro e; rw [e] at hz0; cases hz0
                      omega)
                    omega
              · (intro h; cases h)
    · (intro h; cases h)


section
variable {P : Program} {T : Tab} {n : Nat} {env : Env} {objs : List (Option AObj)} {ops : Array Oper} {K : Env → Prop} {X : Nat → Prop}
theorem ds_lit {o : Oper} {r : List Oper} {e : Env} {t : TypeId} {len : Nat} {ps : List (Nat × Operand)} {az : List (Nat × AV)} {c : Option Prop} {a : AV} (hT : TabOk P T) (hfree : freeIn o r (o.looksAt ops) = true) (halone : aloneIn o r = true) (hw : wantE ops (restr env (o.looksAt ops)) o = .yes)
    (hop : o.op = .buildSlice t len ⟨ps⟩) (hp : parts (restr env (o.looksAt ops)) ps = some az) (hs : eLit T t len az objs = some ⟨c, false, a, none, objs⟩) (hput : putE n o.dst a env = some e) (h : DSat P n X objs ops K r e) : DSat P n X objs ops K (o :: r) env := by
  refine ds_op hfree halone hput hw (fun π w tmps m he => ?_) h
  obtain ⟨v, w2, h1, h2, h3⟩ := eLitD_ok hT m (t := t) (len := len) (parts_rel (ds := []) he hp) hs
  refine ⟨v, w2, ?_, h2, h3⟩
  unfold execOp
  rw [hop]
  simp only [Sem.run_bind, List.map_toArray, h1, Result.andThen_ok, Sem.run_pure]
end
end Ab
namespace Go.Proofs.YtcenfhcemmlaeaaGreatDoor
open Go Ab
set_option maxRecDepth 100000
set_option linter.unusedVariables false
set_option linter.unusedSimpArgs false
set_option maxHeartbeats 4000000

/-! ### The document's example -/
def cntr : List Nd := [⟨kSort, 0, [], [2], []⟩, ⟨kConst, 1, [], [], [48, 48]⟩, ⟨kState, 1, [], [], []⟩, ⟨kInit, 1, [3, 2], [], []⟩, ⟨kInc, 1, [3], [], []⟩, ⟨kNext, 1, [3, 5], [], []⟩]
theorem dleN : DLe (.v (.slice none 0 0)) (eIs []) := fun _ _ _ h => by cases h with | v _ => exact .nil (Nat.zero_le _)
theorem dleI (l : List Int) : DLe (.sl 1 (l.map eI) (litRd (l.map eI))) (eIs l) := DLe.slR rfl (map_rd eI 0 l)
theorem cleA {cs ds : List D} (h : DLes cs ds) : CLe (.ag cs) (.ag ds) := fun _ _ _ h2 => h.rel h2
theorem dleS {s : Nat} {xs ys : List D} {rd rd' : Nat → D} (h : CLes xs ys) (hr : ∀ i, i < ys.length → ys[i]? = some (rd' i)) : DLe (.sl s xs rd) (.sl s ys rd') := by
  intro w ok v hv
  have hf : flat v = true := by cases hv <;> rfl
  have := CLe.sl h hr w ok [v] (.cons hv hf .nil)
  cases this with | cons h _ _ => exact h
theorem counter_call : ACall Tryz.prog 33 [] [] (fun r o => r = .d (eBt cntr)) := by
  refine acall_enter Tryz.func33 rfl rfl (Nat.le_of_ble_eq_true rfl) fun C hC hCl hDs => ?_
  refine sat_retL tabOk Tryz.func33 rfl trivial hC hCl ?_ (o2 := []) trivial rfl rfl (Nat.zero_le _) rfl
  refine VLe.dag ⟨dleS (ys := cntr.map eNd) ?_ (map_rd eNd default cntr), trivial⟩
  refine ⟨cleA ⟨.refl _, .refl _, dleN, (dleI [2]), .refl _, trivial⟩, cleA ⟨.refl _, .refl _, dleN, dleN, .refl _, trivial⟩, cleA ⟨.refl _, .refl _, dleN, dleN, .refl _, trivial⟩, cleA ⟨.refl _, .refl _, (dleI [3, 2]), dleN, .refl _, trivial⟩, cleA ⟨.refl _, .refl _, (dleI [3]), dleN, .refl _, trivial⟩, cleA ⟨.refl _, .refl _, (dleI [3, 5]), dleN, .refl _, trivial⟩, trivial⟩
theorem cntr_ty : Ty cntr := by
  refine ⟨by decide, ?_, ⟨?_, ?_⟩⟩
  · intro j hj
    match j, hj with
    | 0, _ => exact ⟨by decide, by decide, by decide, by decide, by decide, by decide, by decide, by decide⟩
    | 1, _ => exact ⟨by decide, by decide, by decide, by decide, by decide, by decide, by decide, by decide⟩
    | 2, _ => exact ⟨by decide, by decide, by decide, by decide, by decide, by decide, by decide, by decide⟩
    | 3, _ => exact ⟨by decide, by decide, by decide, by decide, by decide, by decide, by decide, by decide⟩
    | 4, _ => exact ⟨by decide, by decide, by decide, by decide, by decide, by decide, by decide, by decide⟩
    | 5, _ => exact ⟨by decide, by decide, by decide, by decide, by decide, by decide, by decide, by decide⟩
    | n + 6, h => exact absurd h (by show ¬ n + 6 < 6; omega)
  · have sr : ∀ j, j < 6 → 0 < (nd cntr j).s → SortAt cntr (nd cntr j) := by
      intro j hj
      match j, hj with
      | 0, _ => exact fun h => absurd h (by decide)
      | 1, _ => exact fun _ => ⟨by decide, by decide, rfl, by decide⟩
      | 2, _ => exact fun _ => ⟨by decide, by decide, rfl, by decide⟩
      | 3, _ => exact fun _ => ⟨by decide, by decide, rfl, by decide⟩
      | 4, _ => exact fun _ => ⟨by decide, by decide, rfl, by decide⟩
      | 5, _ => exact fun _ => ⟨by decide, by decide, rfl, by decide⟩
      | n + 6, h => exact absurd h (by omega)
    have hd : ∀ j, j < 6 → AskOk cntr j (nd cntr j) := by
      intro j hj
      match j, hj with
      | 0, _ => refine ⟨?_, ?_, ?_, ?_, ?_, ?_, ?_, ?_, ?_, ?_, ?_⟩ <;> first | decide | (unfold sameP; decide) | (intro h; exact absurd h (by decide))
      | 1, _ => refine ⟨?_, ?_, ?_, ?_, ?_, ?_, ?_, ?_, ?_, ?_, ?_⟩ <;> first | decide | (unfold sameP; decide) | (intro h; exact absurd h (by decide))
      | 2, _ => refine ⟨?_, ?_, ?_, ?_, ?_, ?_, ?_, ?_, ?_, ?_, ?_⟩ <;> first | decide | (unfold sameP; decide) | (intro h; exact absurd h (by decide))
      | 3, _ => refine ⟨?_, ?_, ?_, ?_, ?_, ?_, ?_, ?_, ?_, ?_, ?_⟩ <;> first | decide | (unfold sameP hadP; decide) | (unfold sameP; decide) | (intro h; exact absurd h (by decide))
      | 4, _ => refine ⟨?_, ?_, ?_, ?_, ?_, ?_, ?_, ?_, ?_, ?_, ?_⟩ <;> first | decide | (unfold sameP; decide) | (intro h; exact absurd h (by decide))
      | 5, _ => refine ⟨?_, ?_, ?_, ?_, ?_, ?_, ?_, ?_, ?_, ?_, ?_⟩ <;> first | decide | (unfold sameP hadP; decide) | (unfold sameP; decide) | (intro h; exact absurd h (by decide))
      | n + 6, h => exact absurd h (by omega)
    intro j hj
    have hj : j < 6 := hj
    refine ⟨sr j hj, ?_, ?_, hd j hj⟩
    · match j, hj with
      | 0, _ => decide
      | 1, _ => decide
      | 2, _ => decide
      | 3, _ => decide
      | 4, _ => decide
      | 5, _ => decide
      | n + 6, h => exact absurd h (by omega)
    · match j, hj with
      | 0, _ => decide
      | 1, _ => decide
      | 2, _ => decide
      | 3, _ => decide
      | 4, _ => decide
      | 5, _ => decide
      | n + 6, h => exact absurd h (by omega)
  · intro j hj
    have hj : j < 6 := hj
    match j, hj with
    | 0, _ => exact fun h => absurd h (by decide)
    | 1, _ => exact fun h => absurd h (by decide)
    | 2, _ => exact fun _ => ⟨5, by decide, rfl, rfl⟩
    | 3, _ => exact fun h => absurd h (by decide)
    | 4, _ => exact fun h => absurd h (by decide)
    | 5, _ => exact fun h => absurd h (by decide)
    | n + 6, h => exact absurd h (by omega)
theorem cntr_md : MdB cntr := by
  refine ⟨by decide, ?_⟩
  intro x hx
  simp only [cntr, List.mem_cons, List.not_mem_nil, or_false] at hx
  rcases hx with rfl | rfl | rfl | rfl | rfl | rfl <;> exact ⟨by decide, by decide, by decide, by decide⟩
theorem cntr_fs : Fit cntr kState [(2, 3)] := by
  refine ⟨by decide, ?_⟩
  intro i hi
  match i, hi with
  | 0, _ => decide
  | n + 1, h => exact absurd h (by show ¬ n + 1 < 1; omega)
theorem cntr_fi : Fit cntr kInput [] := ⟨by decide, fun i hi => absurd hi (Nat.not_lt_zero _)⟩
theorem cntr_vals : valL cntr [(2, 3)] [] cntr.length = [(0, 0), (2, 0), (2, 3), (0, 0), (2, 0), (0, 0)] := by decide
theorem cntr_start : startL cntr [(2, 3)] (allL cntr kState cntr.length).length = [(2, 0)] := by decide
theorem cntr_run : sttL cntr [(2, 0)] [[], []] 3 = [[(2, 0)], [(2, 1)], [(2, 2)]] := by decide
theorem cntr_in : inFit cntr [[], []] = true := by decide
end Go.Proofs.YtcenfhcemmlaeaaGreatDoor
namespace Go.Proofs.YtcenfhcemmlaeaaGreatDoor
open Go Ab
set_option maxRecDepth 100000
set_option linter.unusedVariables false
set_option linter.unusedSimpArgs false
set_option maxHeartbeats 4000000

theorem cleN {α : Type} {s : Nat} {e : α → D} {d : α} : CLe (.v (.slice none 0 0)) (eL s e d []) := by
  intro w ok us h
  cases h with | cons h1 f1 t =>
  cases t
  cases h1
  exact .cons (.nil (Nat.zero_le _)) f1 .nil
theorem vleN {α : Type} {s : Nat} {e : α → D} {d : α} : VLe (.d (.v (.slice none 0 0))) (.d (eL s e d [])) := VLe.nil
@[reducible] def cRun : AV := tupOf [.d (eNss [[(2, 0)], [(2, 1)], [(2, 2)]]), vI .i64 0]
theorem cRun_call : ACall Tryz.prog 18 [.d (eBt cntr), .d (eNums [(2, 3)]), .d (eRows [[], []])] [] (fun r o => r = cRun) := by
  have := Run_ok cntr cntr_md cntr_ty [(2, 3)] cntr_fs [[], []] (by intro r hr a ha; simp at hr; subst hr; cases ha) (by decide)
  rw [cntr_start, runA, if_pos cntr_in, show ([[], []] : List (List Vr)).length + 1 = 3 from rfl, cntr_run] at this
  exact this
theorem cVal_call : ACall Tryz.prog 12 [.d (eBt cntr), .d (eNums [(2, 3)]), .d (eNums [])] [] (fun r o => r = tupOf [.d (eNums [(0, 0), (2, 0), (2, 3), (0, 0), (2, 0), (0, 0)]), vI .i64 0]) := by
  have := Values_ok cntr cntr_md cntr_ty [(2, 3)] [] cntr_fs cntr_fi
  rwa [cntr_vals] at this
theorem cStart_call : ACall Tryz.prog 16 [.d (eBt cntr), .d (eNums [(2, 3)])] [] (fun r o => r = tupOf [.d (eNums [(2, 0)]), vI .i64 0]) := by
  have := Start_ok cntr cntr_md cntr_ty [(2, 3)] cntr_fs
  rwa [cntr_start] at this
theorem cNext : nextL cntr [(0, 0), (2, 0), (2, 3), (0, 0), (2, 0), (0, 0)] = [(2, 0)] := by decide
theorem cFlag1 : flagL cntr kBad [(0, 0), (2, 0), (2, 3), (0, 0), (2, 0), (0, 0)] cntr.length = [] := by decide
theorem cFlag2 : flagL cntr kConstraint [(0, 0), (2, 0), (2, 3), (0, 0), (2, 0), (0, 0)] cntr.length = [] := by decide
theorem cStep_call : ACall Tryz.prog 14 [.d (eBt cntr), .d (eNums [(2, 3)]), .d (eNums [])] [] (fun r o => r = tupOf [.d (eNums [(2, 0)]), .d (e2B [] []), vI .i64 0]) := by
  have := Step_ok cntr cntr_md cntr_ty [(2, 3)] [] cntr_fs cntr_fi
  rw [cntr_vals, stepA, cNext, cFlag1, cFlag2] at this
  exact this
theorem t10 : ((⟨(txt 2 2).toArray⟩ : ByteArray).toList == (⟨#[49, 48]⟩ : ByteArray).toList) = true := by
  rw [show (⟨#[49, 48]⟩ : ByteArray) = ⟨([49, 48] : List UInt8).toArray⟩ from rfl, strB]
  decide
theorem t00 : ((⟨(txt 2 0).toArray⟩ : ByteArray).toList == (⟨#[48, 48]⟩ : ByteArray).toList) = true := by
  rw [show (⟨#[48, 48]⟩ : ByteArray) = ⟨([48, 48] : List UInt8).toArray⟩ from rfl, strB]
  decide
theorem shown15_call : ACall Tryz.prog 9 [] [] (fun r o => r = vB true) := by
  refine acall_enter Tryz.func9 rfl rfl (Nat.le_of_ble_eq_true rfl) fun C hC hCl hDs => ?_
  refine sat_call tabOk Tryz.func9 rfl trivial (OfN_call 2 3 (by decide) (by decide)) ⟨VLe.eL_c (CLes.refl _), trivial⟩ rfl ⟨_, rfl⟩ (by rintro r o rfl; rfl) ?_
  rintro _ o rfl
  refine sat_drawT 9 tabOk Tryz.func9 rfl rfl trivial (by kernel_rfl) ?_
  refine ds_call tabOk rfl trivial counter_call (callFunc_run Tryz.func33 rfl rfl) (by rintro r o rfl; rfl) trivial rfl rfl ⟨_, rfl⟩ ?_
  refine ds_ok tabOk rfl rfl rfl rfl rfl ?_
  refine ds_lit tabOk rfl rfl rfl rfl rfl rfl rfl ?_
  refine ds_lit tabOk rfl rfl rfl rfl rfl rfl rfl ?_
  refine ds_call tabOk rfl trivial cRun_call (callFunc_run Tryz.func18 rfl rfl) (by rintro r o rfl; rfl) ⟨.refl _, VLe.eL_c (CLes.refl _), VLe.eL_c ⟨cleN, cleN, trivial⟩, trivial⟩ rfl rfl ⟨_, rfl⟩ ?_
  refine ds_done tabOk rfl trivial ?_
  refine sat_draw1S 11 8 10 (c := none) (a := .dead) (o2 := .cells 36 [.d (eBs []), .d (eBs [])]) tabOk Tryz.func9 rfl rfl trivial (by kernel_rfl) (by kernel_rfl) rfl rfl rfl (by kernel_rfl) (by rw [hCl, hC]; exact Nat.zero_le _) rfl rfl rfl rfl rfl rfl
        (fun _ => by
          refine ds_call tabOk rfl trivial counter_call (callFunc_run Tryz.func33 rfl rfl) (by rintro r o rfl; rfl) trivial rfl rfl ⟨_, rfl⟩ ?_
          refine ds_ok tabOk rfl rfl rfl rfl rfl ?_
          refine ds_lit tabOk rfl rfl rfl rfl rfl rfl rfl ?_
          refine ds_call tabOk rfl trivial cStep_call (callFunc_run Tryz.func14 rfl rfl) (by rintro r o rfl; rfl) ⟨.refl _, VLe.eL_c (CLes.refl _), vleN, trivial⟩ rfl rfl ⟨_, rfl⟩ ?_
          exact ds_done tabOk rfl trivial rfl)
        (by rfl) (by rfl) (by rfl) (by rfl) trivial ?_
  refine sat_drawT 8 tabOk Tryz.func9 rfl rfl trivial (by kernel_rfl) ?_
  refine ds_call tabOk rfl trivial counter_call (callFunc_run Tryz.func33 rfl rfl) (by rintro r o rfl; rfl) trivial rfl rfl ⟨_, rfl⟩ ?_
  refine ds_ok tabOk rfl rfl rfl rfl rfl ?_
  refine ds_lit tabOk rfl rfl rfl rfl rfl rfl rfl ?_
  refine ds_call tabOk rfl trivial cVal_call (callFunc_run Tryz.func12 rfl rfl) (by rintro r o rfl; rfl) ⟨.refl _, VLe.eL_c (CLes.refl _), vleN, trivial⟩ rfl rfl ⟨_, rfl⟩ ?_
  refine ds_done tabOk rfl trivial ?_
  refine sat_drawT 8 tabOk Tryz.func9 rfl rfl trivial (by kernel_rfl) ?_
  refine ds_call tabOk rfl trivial counter_call (callFunc_run Tryz.func33 rfl rfl) (by rintro r o rfl; rfl) trivial rfl rfl ⟨_, rfl⟩ ?_
  refine ds_ok tabOk rfl rfl rfl rfl rfl ?_
  refine ds_lit tabOk rfl rfl rfl rfl rfl rfl rfl ?_
  refine ds_call tabOk rfl trivial cStart_call (callFunc_run Tryz.func16 rfl rfl) (by rintro r o rfl; rfl) ⟨.refl _, VLe.eL_c (CLes.refl _), trivial⟩ rfl rfl ⟨_, rfl⟩ ?_
  refine ds_done tabOk rfl trivial ?_
  refine sat_branch tabOk Tryz.func9 rfl trivial (fun _ => ?_) (fun h => by cases h)
  refine sat_branch tabOk Tryz.func9 rfl trivial (fun _ => ?_) (fun h => by cases h)
  refine sat_branch tabOk Tryz.func9 rfl trivial (fun _ => ?_) (fun h => by cases h)
  refine sat_drawT 65 tabOk Tryz.func9 rfl rfl trivial (by kernel_rfl) ?_
  refine ds_branch tabOk rfl (by decide) (fun _ => ?_) (fun h => absurd h (by decide))
  refine ds_branch tabOk rfl (by decide) (fun _ => ?_) (fun h => absurd h (by decide))
  refine ds_branch tabOk rfl (by decide) (fun _ => ?_) (fun h => absurd h (by decide))
  refine ds_call tabOk rfl (by decide) (rText_call 2 2 (by decide)) (callFunc_run Tryz.func28 rfl rfl) (by rintro r o rfl; rfl) (.refl _) rfl rfl ⟨_, rfl⟩ ?_
  refine ds_branch tabOk rfl (by decide) (fun _ => ?_) (fun h => by have := t10.symm.trans h; cases this)
  refine ds_branch tabOk rfl (by decide) (fun _ => ?_) (fun h => absurd h (by decide))
  refine ds_call tabOk rfl (by decide) (rText_call 2 0 (by decide)) (callFunc_run Tryz.func28 rfl rfl) (by rintro r o rfl; rfl) (.refl _) rfl rfl ⟨_, rfl⟩ ?_
  refine ds_branch tabOk rfl (by decide) (fun _ => ?_) (fun h => by have := t00.symm.trans h; cases this)
  refine ds_branch tabOk rfl (by decide) (fun _ => ?_) (fun h => absurd h (by decide))
  refine ds_branch tabOk rfl (by decide) (fun _ => ?_) (fun h => absurd h (by decide))
  refine ds_call tabOk rfl (by decide) (rSameN_call 2 3 2 3 (by decide) (by decide) (by decide)) (callFunc_run Tryz.func27 rfl rfl) (by rintro r o rfl; rfl) (.refl _) rfl rfl ⟨_, rfl⟩ ?_
  refine ds_branch tabOk rfl (by decide) (fun _ => ?_) (fun h => absurd h (by decide))
  refine ds_branch tabOk rfl (by decide) (fun _ => ?_) (fun h => absurd h (by decide))
  refine ds_call tabOk rfl (by decide) (rText_call 2 0 (by decide)) (callFunc_run Tryz.func28 rfl rfl) (by rintro r o rfl; rfl) (.refl _) rfl rfl ⟨_, rfl⟩ ?_
  refine ds_done tabOk rfl trivial ?_
  refine sat_ret tabOk Tryz.func9 rfl trivial ?_
  show vB ((⟨(txt 2 0).toArray⟩ : ByteArray).toList == (⟨#[48, 48]⟩ : ByteArray).toList) = _
  rw [t00]
end Go.Proofs.YtcenfhcemmlaeaaGreatDoor
namespace Go.Proofs.YtcenfhcemmlaeaaGreatDoor
open Go Ab
set_option maxRecDepth 100000
set_option linter.unusedVariables false
set_option linter.unusedSimpArgs false
set_option maxHeartbeats 4000000

/-! ### Both answers are one -/
theorem vok_ns {l : List Nd} (ty : Ty l) {v : List (Nat × Nat)} (hv : VOk l v l.length) : OkNs v := by
  intro p hp
  obtain ⟨i, hi, rfl⟩ := List.getElem_of_mem hp
  have hi' : i < l.length := by rw [← hv.len]; exact hi
  have e : nm v i = v[i] := by simp [nm, hi]
  have hw := val_w ty hv (id := (i : Int) + 1) (by omega) (by omega)
  rw [show ((i : Int) + 1 - 1).toNat = i by omega, e] at hw
  cases h : isVal (nd l i).op with
  | false =>
    have := hv.no i hi' h
    rw [e] at this
    rw [this]
    exact okN0
  | true =>
    have := (hv.yes i hi' h).2
    rw [e] at this
    exact ⟨this, hw⟩
theorem fit_ns {l : List Nd} {op : List UInt8} {v : List (Nat × Nat)} (h : Fit l op v) : OkNs v := by
  intro p hp
  obtain ⟨i, hi, rfl⟩ := List.getElem_of_mem hp
  have := h.at_ i hi
  rw [show nm v i = v[i] by simp [nm, hi]] at this
  exact ⟨this.2.1, this.2.2.2⟩
theorem fit_len {l : List Nd} (ty : Ty l) {op : List UInt8} {v : List (Nat × Nat)} (h : Fit l op v) : v.length ≤ 1000000 := by
  have h1 := allL_len l op l.length
  have h2 := ty.small
  rw [h.len]
  omega
theorem okNs_nil : OkNs [] := fun p hp => by cases hp
theorem Vecs_self {a : List (Nat × Nat)} (h : OkNs a) (hl : a.length ≤ 1000000) : ACall Tryz.prog 20 [.d (eNums a), .d (eNums a)] [] (fun r o => r = vB true) := by
  have := Vecs_call a a h h hl
  rwa [decide_eq_true (rfl : a = a)] at this
theorem Rows_self {a : List (List (Nat × Nat))} (h : ∀ r ∈ a, OkNs r ∧ r.length ≤ 1000000) (hl : a.length ≤ 1000000) : ACall Tryz.prog 22 [.d (eNss a), .d (eNss a)] [] (fun r o => r = vB true) := by
  have := Rows_call a a h (fun r hr => (h r hr).1) hl
  rwa [decide_eq_true (rfl : a = a)] at this
theorem Flags_self {a : List Bool} (hl : a.length ≤ 1000000) : ACall Tryz.prog 21 [.d (eBs a), .d (eBs a)] [] (fun r o => r = vB true) := by
  have := Flags_call a a hl
  rwa [decide_eq_true (rfl : a = a)] at this
theorem Values_both (l : List Nd) (hm : MdB l) (ty : Ty l) (st inp : List Vr) (hq : ∀ a ∈ st, QVr a) (hi : ∀ a ∈ inp, QVr a) : ∃ (x : D) (e : Int) (a : List (Nat × Nat)), ACall Tryz.prog 12 [.d (eBt l), .d (eRow st), .d (eRow inp)] [] (fun r o => r = tupOf [.d x, vI .i64 e]) ∧
    ACall Tryz.prog 13 [.d (eBt l), .d (eRow st), .d (eRow inp)] [] (fun r o => r = tupOf [.d x, vI .i64 e]) ∧ VLe (.d x) (.d (eNums a)) ∧ OkNs a ∧ a.length ≤ 1000000 := by
  cases h : (fitB l kState st && fitB l kInput inp) with
  | false => exact ⟨_, _, [], Values_no l hm ty st inp hq hi h, rValues_no l hm ty st inp hq hi h, vleN, okNs_nil, by decide⟩
  | true =>
    rw [Bool.and_eq_true] at h
    obtain ⟨e1, f1⟩ := fit_nums hq h.1
    obtain ⟨e2, f2⟩ := fit_nums hi h.2
    have hv := valL_ok ty f1 f2 l.length (Nat.le_refl _)
    rw [e1, e2, eRow_nums, eRow_nums]
    exact ⟨_, _, _, Values_ok l hm ty _ _ f1 f2, rValues_ok l hm ty _ _ f1 f2, .refl _, vok_ns ty hv, by rw [hv.len]; exact Nat.le_of_lt ty.small⟩
theorem flagL_len (l : List Nd) (ty : Ty l) (op : List UInt8) (v : List (Nat × Nat)) : (flagL l op v l.length).length ≤ 1000000 := by
  have h1 := allL_len l op l.length
  have h2 := ty.small
  unfold flagL
  rw [List.length_map]
  omega
theorem Step_both (l : List Nd) (hm : MdB l) (ty : Ty l) (st inp : List Vr) (hq : ∀ a ∈ st, QVr a) (hi : ∀ a ∈ inp, QVr a) : ∃ (x c d : D) (e : Int) (a : List (Nat × Nat)) (p q : List Bool), ACall Tryz.prog 14 [.d (eBt l), .d (eRow st), .d (eRow inp)] [] (fun r o => r = tupOf [.d x, .d (.ag [c, d]), vI .i64 e]) ∧
    ACall Tryz.prog 15 [.d (eBt l), .d (eRow st), .d (eRow inp)] [] (fun r o => r = tupOf [.d x, .d (.ag [c, d]), vI .i64 e]) ∧ VLe (.d x) (.d (eNums a)) ∧ OkNs a ∧ a.length ≤ 1000000 ∧ VLe (.d c) (.d (eBs p)) ∧ p.length ≤ 1000000 ∧ VLe (.d d) (.d (eBs q)) ∧ q.length ≤ 1000000 := by
  cases h : (fitB l kState st && fitB l kInput inp) with
  | false => exact ⟨_, _, _, _, [], [], [], Step_no l hm ty st inp hq hi h, rStep_no l hm ty st inp hq hi h, vleN, okNs_nil, by decide, vleN, by decide, vleN, by decide⟩
  | true =>
    rw [Bool.and_eq_true] at h
    obtain ⟨e1, f1⟩ := fit_nums hq h.1
    obtain ⟨e2, f2⟩ := fit_nums hi h.2
    have hv := valL_ok ty f1 f2 l.length (Nat.le_refl _)
    have hn := next_fit ty hv
    rw [e1, e2, eRow_nums, eRow_nums]
    exact ⟨_, _, _, _, _, _, _, Step_ok l hm ty _ _ f1 f2, rStep_ok l hm ty _ _ f1 f2, .refl _, fit_ns hn, fit_len ty hn, .refl _, flagL_len l ty _ _, .refl _, flagL_len l ty _ _⟩
theorem Start_both (l : List Nd) (hm : MdB l) (ty : Ty l) (st : List Vr) (hq : ∀ a ∈ st, QVr a) : ∃ (x : D) (e : Int) (a : List (Nat × Nat)), ACall Tryz.prog 16 [.d (eBt l), .d (eRow st)] [] (fun r o => r = tupOf [.d x, vI .i64 e]) ∧
    ACall Tryz.prog 17 [.d (eBt l), .d (eRow st)] [] (fun r o => r = tupOf [.d x, vI .i64 e]) ∧ VLe (.d x) (.d (eNums a)) ∧ OkNs a ∧ a.length ≤ 1000000 := by
  cases h : fitB l kState st with
  | false => exact ⟨_, _, [], Start_no l hm ty st hq h, rStart_no l hm ty st hq h, vleN, okNs_nil, by decide⟩
  | true =>
    obtain ⟨e1, f1⟩ := fit_nums hq h
    have hn := start_fit ty f1
    rw [e1, eRow_nums]
    exact ⟨_, _, _, Start_ok l hm ty _ f1, rStart_ok l hm ty _ f1, .refl _, fit_ns hn, fit_len ty hn⟩
theorem stt_rows {l : List Nd} (ty : Ty l) {s : List (Nat × Nat)} (hs : Fit l kState s) {ins : List (List Vr)} (hq : QRows ins) (hf : inFit l ins = true) : ∀ i, i ≤ ins.length → Fit l kState (stt l s ins i) := fun i hi => stt_fit ty hs hq i hi fun q h => List.all_eq_true.1 hf _ (inRow_mem (by omega))
theorem sttL_rows {l : List Nd} (ty : Ty l) {s : List (Nat × Nat)} (hs : Fit l kState s) {ins : List (List Vr)} (hq : QRows ins) (hf : inFit l ins = true) {k : Nat} (hk : k ≤ ins.length + 1) : ∀ r ∈ sttL l s ins k, OkNs r ∧ r.length ≤ 1000000 := by
  intro r hr
  obtain ⟨i, hi, rfl⟩ := List.mem_map.1 hr
  have := stt_rows ty hs hq hf i (by have := List.mem_range.1 hi; omega)
  exact ⟨fit_ns this, fit_len ty this⟩
theorem Run_both (l : List Nd) (hm : MdB l) (ty : Ty l) (st : List Vr) (hq : ∀ a ∈ st, QVr a) (ins : List (List Vr)) (hi : QRows ins) (hil : ins.length ≤ 100000) : ∃ (x : D) (e : Int) (a : List (List (Nat × Nat))), ACall Tryz.prog 18 [.d (eBt l), .d (eRow st), .d (eRows ins)] [] (fun r o => r = tupOf [.d x, vI .i64 e]) ∧
    ACall Tryz.prog 19 [.d (eBt l), .d (eRow st), .d (eRows ins)] [] (fun r o => r = tupOf [.d x, vI .i64 e]) ∧ VLe (.d x) (.d (eNss a)) ∧ (∀ r ∈ a, OkNs r ∧ r.length ≤ 1000000) ∧ a.length ≤ 1000000 := by
  cases h : fitB l kState st with
  | false => exact ⟨_, _, [], Run_no l hm ty st hq h ins, rRun_no l hm ty st hq h ins, vleN, (fun r hr => by cases hr), by decide⟩
  | true =>
    obtain ⟨e1, f1⟩ := fit_nums hq h
    have hn := start_fit ty f1
    rw [e1, eRow_nums]
    have r1 := Run_ok l hm ty _ f1 ins hi (by omega)
    have r2 := rRun_ok l hm ty _ f1 ins hi (by omega)
    rw [runA] at r1 r2
    cases hf : inFit l ins with
    | false =>
      rw [if_neg (by rw [hf]; decide)] at r1 r2
      exact ⟨_, _, [], r1, r2, vleN, (fun r hr => by cases hr), by decide⟩
    | true =>
      rw [if_pos hf] at r1 r2
      exact ⟨_, _, _, r1, r2, .refl _, sttL_rows ty hn hi hf (Nat.le_refl _), by rw [sttL_len]; omega⟩

theorem WordTells_law (l : List Nd) (st : List Vr) (ins : List (List Vr)) (hm : MdB l) (hl : l.length < 2000000000000) (hq : ∀ a ∈ st, QVr a) (hi : QRows ins) : ACall Tryz.prog 3 [.d (eBt l), .d (eRow st), .d (eRows ins)] [] (fun r o => r = vB true) := by
  refine acall_enter Tryz.func3 rfl rfl (Nat.le_of_ble_eq_true rfl) fun C hC hCl hDs => ?_
  refine sat_call tabOk Tryz.func3 rfl trivial shown15_call (.refl _) rfl ⟨_, rfl⟩ (by rintro r o rfl; rfl) ?_
  rintro _ o rfl
  refine sat_call tabOk Tryz.func3 rfl trivial (typed14_call l hm 40 (by decide) hl) (.refl _) rfl ⟨_, rfl⟩ (by rintro r o ⟨b, rfl, -⟩; rfl) ?_
  rintro r o ⟨b, rfl, hb⟩
  refine sat_branch tabOk Tryz.func3 rfl trivial (fun h1 => ?_) (fun h1 => ?_)
  · refine sat_branch tabOk Tryz.func3 rfl trivial (fun _ => ?_) (fun h => by cases h)
    refine sat_branch tabOk Tryz.func3 rfl trivial (fun _ => ?_) (fun h => by cases h)
    exact sat_ret tabOk Tryz.func3 rfl trivial rfl
  have hty := hb (by simpa using h1)
  have ty := hty.2
  refine sat_call tabOk Tryz.func3 rfl trivial (Few_call [st] 1 (by decide)) ⟨VLe.eL_c (CLes.refl _), .refl _, trivial⟩ rfl ⟨_, rfl⟩ (by rintro r o ⟨b, rfl, -⟩; rfl) ?_
  rintro r o ⟨b2, rfl, -⟩
  refine sat_branch tabOk Tryz.func3 rfl trivial (fun h2 => ?_) (fun h2 => ?_)
  · refine sat_branch tabOk Tryz.func3 rfl trivial (fun _ => ?_) (fun h => by cases h)
    exact sat_ret tabOk Tryz.func3 rfl trivial rfl
  refine sat_call tabOk Tryz.func3 rfl trivial (Few_call ins 20 (by decide)) (.refl _) rfl ⟨_, rfl⟩ (by rintro r o ⟨b, rfl, -⟩; rfl) ?_
  rintro r o ⟨b3, rfl, hb3⟩
  refine sat_branch tabOk Tryz.func3 rfl trivial (fun h3 => ?_) (fun h3 => ?_)
  · exact sat_ret tabOk Tryz.func3 rfl trivial rfl
  have hil := hb3 (by simpa using h3)
  have hrow : ∀ a ∈ inRow ins 0, QVr a := by
    rcases Nat.eq_zero_or_pos ins.length with h | h
    · rw [List.length_eq_zero_iff.1 h]
      intro a ha
      cases ha
    · exact hi _ (inRow_mem h)
  obtain ⟨xv, ev, av, v1, v2, v3, v4, v5⟩ := Values_both l hm ty st (inRow ins 0) hq hrow
  obtain ⟨xs, cs, ds, es, ac, ps, qs, s1, s2, s3, s4, s5, s6, s7, s8, s9⟩ := Step_both l hm ty st (inRow ins 0) hq hrow
  obtain ⟨xt, et, at', t1, t2, t3, t4, t5⟩ := Start_both l hm ty st hq
  obtain ⟨xr, er, ar, r1, r2, r3, r4, r5⟩ := Run_both l hm ty st hq ins hi (by omega)
  apply letK (p := ASat Tryz.prog 3 Tryz.f3.ntmps C _ [(1, .d (eRow st)), (2, .d (eRows ins)), (3, .ptr 0 0), (7, vB true), (8, .d (eRow (inRow ins 0))), (54, tupOf [.d xv, vI .i64 ev])] [some (bBt l)] (fun r o => r = vB true))
  · intro key
    refine sat_branch tabOk Tryz.func3 rfl trivial (fun h4 => ?_) (fun h4 => ?_)
    · have h4 : decide (((ins.map eRow).length : Int) > 0) = true := h4
      rw [List.length_map, decide_eq_true_eq] at h4
      refine sat_call tabOk Tryz.func3 rfl (by simp only [andP, and_true, true_and, Int.toNat_natCast, List.length_map, List.length_append, List.length_cons, List.length_nil, List.length_replicate]; omega) v1 (.refl _) rfl ⟨_, rfl⟩ (by rintro r o rfl; rfl) ?_
      rintro _ o rfl
      refine sat_le key hC hCl ⟨⟨_, rfl, .refl _⟩, ⟨_, rfl, .refl _⟩, ⟨_, rfl, .refl _⟩, ⟨_, rfl, .refl _⟩, ⟨_, rfl, .refl _⟩, ⟨_, rfl, .refl _⟩, trivial⟩ ⟨.refl _, trivial⟩ rfl rfl (Nat.zero_le _)
    · have h4 : decide (((ins.map eRow).length : Int) > 0) = false := h4
      rw [List.length_map, decide_eq_false_iff_not] at h4
      have h0 : ins = [] := List.length_eq_zero_iff.1 (by omega)
      have hv : VLe (.d (.v (.slice none 0 0))) (.d (eRow (inRow ins 0))) := by rw [h0]; exact vleN
      refine sat_call tabOk Tryz.func3 rfl trivial v1 ⟨.refl _, .refl _, hv, trivial⟩ rfl ⟨_, rfl⟩ (by rintro r o rfl; rfl) ?_
      rintro _ o rfl
      refine sat_le key hC hCl ⟨⟨_, rfl, .refl _⟩, ⟨_, rfl, .refl _⟩, ⟨_, rfl, .refl _⟩, ⟨_, rfl, .refl _⟩, ⟨_, rfl, hv⟩, ⟨_, rfl, .refl _⟩, trivial⟩ ⟨.refl _, trivial⟩ rfl rfl (Nat.zero_le _)
  refine sat_call tabOk Tryz.func3 rfl trivial v2 (.refl _) rfl ⟨_, rfl⟩ (by rintro r o rfl; rfl) ?_
  rintro _ o rfl
  refine sat_call tabOk Tryz.func3 rfl trivial s1 (.refl _) rfl ⟨_, rfl⟩ (by rintro r o rfl; rfl) ?_
  rintro _ o rfl
  refine sat_call tabOk Tryz.func3 rfl trivial s2 (.refl _) rfl ⟨_, rfl⟩ (by rintro r o rfl; rfl) ?_
  rintro _ o rfl
  refine sat_call tabOk Tryz.func3 rfl trivial t1 (.refl _) rfl ⟨_, rfl⟩ (by rintro r o rfl; rfl) ?_
  rintro _ o rfl
  refine sat_call tabOk Tryz.func3 rfl trivial t2 (.refl _) rfl ⟨_, rfl⟩ (by rintro r o rfl; rfl) ?_
  rintro _ o rfl
  refine sat_call tabOk Tryz.func3 rfl trivial r1 (.refl _) rfl ⟨_, rfl⟩ (by rintro r o rfl; rfl) ?_
  rintro _ o rfl
  refine sat_call tabOk Tryz.func3 rfl trivial r2 (.refl _) rfl ⟨_, rfl⟩ (by rintro r o rfl; rfl) ?_
  rintro _ o rfl
  refine sat_call tabOk Tryz.func3 rfl trivial (Vecs_self s4 s5) ⟨s3, s3, trivial⟩ rfl ⟨_, rfl⟩ (by rintro r o rfl; rfl) ?_
  rintro _ o rfl
  refine sat_branch tabOk Tryz.func3 rfl trivial (fun _ => ?_) (fun h => by cases h)
  refine sat_call tabOk Tryz.func3 rfl trivial (Flags_self s7) ⟨s6, s6, trivial⟩ rfl ⟨_, rfl⟩ (by rintro r o rfl; rfl) ?_
  rintro _ o rfl
  refine sat_branch tabOk Tryz.func3 rfl trivial (fun _ => ?_) (fun h => by cases h)
  refine sat_call tabOk Tryz.func3 rfl trivial (Flags_self s9) ⟨s8, s8, trivial⟩ rfl ⟨_, rfl⟩ (by rintro r o rfl; rfl) ?_
  rintro _ o rfl
  refine sat_branch tabOk Tryz.func3 rfl trivial (fun _ => ?_) (fun h => by cases h)
  refine sat_branch tabOk Tryz.func3 rfl trivial (fun _ => ?_) (fun h => by cases h)
  refine sat_call tabOk Tryz.func3 rfl trivial (Vecs_self v4 v5) ⟨v3, v3, trivial⟩ rfl ⟨_, rfl⟩ (by rintro r o rfl; rfl) ?_
  rintro _ o rfl
  refine sat_branch tabOk Tryz.func3 rfl trivial (fun _ => ?_) (fun h => by cases h)
  refine sat_branch tabOk Tryz.func3 rfl trivial (fun _ => ?_) (fun h => by simp at h)
  refine sat_branch tabOk Tryz.func3 rfl trivial (fun _ => ?_) (fun h => by simp at h)
  refine sat_call tabOk Tryz.func3 rfl trivial (Vecs_self t4 t5) ⟨t3, t3, trivial⟩ rfl ⟨_, rfl⟩ (by rintro r o rfl; rfl) ?_
  rintro _ o rfl
  refine sat_branch tabOk Tryz.func3 rfl trivial (fun _ => ?_) (fun h => by cases h)
  refine sat_branch tabOk Tryz.func3 rfl trivial (fun _ => ?_) (fun h => by simp at h)
  refine sat_call tabOk Tryz.func3 rfl trivial (Rows_self r4 r5) ⟨r3, r3, trivial⟩ rfl ⟨_, rfl⟩ (by rintro r o rfl; rfl) ?_
  rintro _ o rfl
  refine sat_branch tabOk Tryz.func3 rfl trivial (fun _ => ?_) (fun h => by cases h)
  refine sat_ret tabOk Tryz.func3 rfl trivial ?_
  show vB (er == er) = _
  rw [beq_self_eq_true]
end Go.Proofs.YtcenfhcemmlaeaaGreatDoor
