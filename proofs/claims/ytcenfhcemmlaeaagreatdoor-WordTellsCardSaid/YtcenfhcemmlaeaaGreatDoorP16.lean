/- A part of the proof: X1, Ab60, Ab61. -/
import Derived.Test.YtcenfhcemmlaeaaGreatDoorP15
set_option linter.unusedVariables false
set_option linter.unusedSimpArgs false
namespace Go.Proofs.YtcenfhcemmlaeaaGreatDoor
open Go Ab
set_option maxRecDepth 100000
set_option linter.unusedVariables false
set_option linter.unusedSimpArgs false
set_option maxHeartbeats 4000000

/-- What was there of a state, ahead of a line. -/
def hadI (l : List Nd) (op : List UInt8) (n : Nat) : List Int := ((List.range n).filter fun j : Nat => decide ((nd l j).op = op)).map fun j : Nat => (nd l j).a.getD 0 0
theorem hadI_succ (l : List Nd) (op : List UInt8) (n : Nat) : hadI l op (n + 1) = hadI l op n ++ (if (nd l n).op = op then [(nd l n).a.getD 0 0] else []) := by
  unfold hadI
  rw [List.range_succ, List.filter_append, List.map_append]
  congr 1
  by_cases h : (nd l n).op = op
  · rw [if_pos h, List.filter_cons_of_pos (p := fun j : Nat => decide ((nd l j).op = op)) (a := n) (l := []) (decide_eq_true h)]
    rfl
  · rw [if_neg h, List.filter_cons_of_neg (p := fun j : Nat => decide ((nd l j).op = op)) (a := n) (l := []) (by show ¬ decide ((nd l n).op = op) = true; rw [decide_eq_false h]; exact Bool.false_ne_true)]
    rfl
theorem mem_hadI {l : List Nd} {op : List UInt8} {n : Nat} {a : Int} : a ∈ hadI l op n ↔ hadP l n op a := by
  unfold hadI hadP
  simp only [List.mem_map, List.mem_filter, List.mem_range, decide_eq_true_eq]
  exact ⟨fun ⟨j, ⟨h1, h2⟩, h3⟩ => ⟨j, h1, h2, h3⟩, fun ⟨j, h1, h2, h3⟩ => ⟨j, ⟨h1, h2⟩, h3⟩⟩
theorem intK_ne {a b : Int} (h : a ≠ b) : Value.int .i64 a ≠ Value.int .i64 b := fun e => h (by cases e; rfl)
theorem find_no {k : Int} : ∀ {s : List Int}, k ∉ s → MFind (.int .i64 k) (s.map fun a => (Value.int .i64 a, vB true)) none
  | [], _ => .nil
  | a :: r, h => .miss (intK_ne fun e => h (e ▸ List.mem_cons_self ..)) (find_no fun hm => h (List.mem_cons_of_mem _ hm))
theorem find_yes {k : Int} : ∀ {s : List Int}, k ∈ s → MFind (.int .i64 k) (s.map fun a => (Value.int .i64 a, vB true)) (some (vB true))
  | [], h => by cases h
  | a :: r, h => by
    by_cases e : a = k
    · subst e
      exact .hit
    · refine .miss (intK_ne e) (find_yes ?_)
      rcases List.mem_cons.1 h with h | h
      · exact absurd h.symm e
      · exact h
theorem put_new {k : Int} : ∀ {s : List Int}, k ∉ s → MPut (.int .i64 k) (vB true) (s.map fun a => (Value.int .i64 a, vB true)) ((s ++ [k]).map fun a => (Value.int .i64 a, vB true))
  | [], _ => .nil
  | a :: r, h => .miss (intK_ne fun e => h (e ▸ List.mem_cons_self ..)) (put_new fun hm => h (List.mem_cons_of_mem _ hm))
theorem keys_mpI : ∀ s : List Int, keysB (.int .i64) (s.map fun a => (Value.int .i64 a, vB true)) = true
  | [] => rfl
  | a :: r => by simp only [List.map_cons, keysB, keyB, beq_self_eq_true]; exact keys_mpI r
theorem anyNe_of {ws : List Int} {w : Int} (h : ∀ a ∈ ws, a = w) : anyNe ws w = false := by
  unfold anyNe
  rw [List.any_eq_false]
  intro a ha
  simp [h a ha]
theorem had_init {op : List UInt8} (h : op = kInit) : MFind (.string ⟨op.toArray⟩) (([(kInit, AV.mp 3), (kNext, AV.mp 4)] : List (List UInt8 × AV)).map fun p => (strK p.1, p.2)) (some (.mp 3)) := by
  subst h
  exact .hit
theorem had_next {op : List UInt8} (h : op = kNext) : MFind (.string ⟨op.toArray⟩) (([(kInit, AV.mp 3), (kNext, AV.mp 4)] : List (List UInt8 × AV)).map fun p => (strK p.1, p.2)) (some (.mp 4)) := by
  subst h
  exact .miss (strK_ne (by decide)) .hit
theorem line_call (l : List Nd) (hm : MdB l) (hl : l.length ≤ 1000000) (i : Nat) (hi : i < l.length) (hn : ∀ j, j < l.length → NodeOk (nd l j) ((j : Int) + 1)) (ty : TyOk l) (s t : List Int) (vh : Value) (hs : s = hadI l kInit i) (ht : t = hadI l kNext i) :
    ACall Tryz.prog 57 [.ptr 0 0, .d (eNd (nd l i))] (chkO l i ((i : Int) + 1) s t vh) (fun r o => r = vI .i64 (wN l (nd l i)) ∧ o = chkO l i ((i : Int) + 1) (hadI l kInit (i + 1)) (hadI l kNext (i + 1)) vh) := by
  refine acall_enter Tryz.func57 rfl rfl (Nat.le_of_ble_eq_true rfl) fun C hC hCl hDs => ?_
  have hni := hn i hi
  have hlk := ty.ln i hi
  obtain ⟨x, hx⟩ : ∃ x, nd l i = x := ⟨_, rfl⟩
  rw [hx] at hni hlk ⊢
  have hS := hlk.srt
  have hask := hlk.ask
  have hI1 : x.op ≠ kInit → hadI l kInit (i + 1) = s := fun h => by rw [hadI_succ, hx, if_neg h, List.append_nil, hs]
  have hI2 : x.op ≠ kNext → hadI l kNext (i + 1) = t := fun h => by rw [hadI_succ, hx, if_neg h, List.append_nil, ht]
  have hxa : x.a.length ≤ 4 := by
    rw [hni.al]
    exact Nat.le_trans List.count_le_length (form_len _)
  have hdl : ∀ j, j < x.a.length → 1 ≤ x.a.getD j 0 ∧ x.a.getD j 0 ≤ i := fun j hj => by
    have := hni.ab _ (getD_mem 0 hj)
    omega
  have hvl : ∀ j, j < x.a.length → isVal (ln l (x.a.getD j 0)).op = true := fun j hj => hlk.val _ (getD_mem 0 hj)
  have hbd : ∀ j, j < x.a.length → 1 ≤ awN l x j ∧ awN l x j ≤ 128 := fun j hj => by
    have hd := hdl j hj
    have hk := hn (x.a.getD j 0 - 1).toNat (by omega)
    have hS2 := val_sort hk (ty.ln _ (by omega)) (hvl j hj)
    refine wd_bd (i := i) (fun q hq => hn q (by omega)) hS2 ?_
    have h1 := isVal_115 (hvl j hj) hk.known
    have h3 : (ln l (x.a.getD j 0)).s < (((x.a.getD j 0 - 1).toNat : Nat) : Int) + 1 := (hk.s1 h1).2
    omega
  have hnb : ∀ j, j < x.n.length → 0 ≤ x.n.getD j 0 ∧ x.n.getD j 0 ≤ 128 := fun j hj => by
    have := hni.nb _ (getD_mem 0 hj)
    omega
  have hid : ∃ id : Int, (i : Int) + 1 = id := ⟨_, rfl⟩
  obtain ⟨id, hid⟩ := hid
  rw [hid] at hC ⊢
  apply letK (p := ASat Tryz.prog 57 Tryz.f57.ntmps C _ [(0, .ptr 0 0), (3, .ptr 6 0), (5, .ptr 7 0), (6, .d (.v (.slice none 0 0))), (20, .d (eIs x.a)), (21, vI .i64 (x.a.length : Int)), (22, vI .i64 (0 : Nat))] (chkO l i id s t vh ++ [some (bNd x), some (cI (wOf l x))]) (fun r o => r = vI .i64 (wN l x) ∧ o = chkO l i id (hadI l kInit (i + 1)) (hadI l kNext (i + 1)) vh))
  · intro key
    refine sat_branch tabOk Tryz.func57 rfl trivial (fun h => ?_) (fun h => ?_)
    · have h : decide (x.s > 0) = true := h
      rw [decide_eq_true_eq] at h
      refine sat_callG [0, 1, 2, 3, 4, 5] tabOk Tryz.func57 rfl trivial (sort_call l i id s t vh x (hS h) hl) ⟨⟨_, rfl, .refl _⟩, ⟨_, rfl, .refl _⟩, ⟨_, rfl, .refl _⟩, ⟨_, rfl, .of (ren_mpI _ _).symm⟩, ⟨_, rfl, .of (ren_mpI _ _).symm⟩, ⟨_, rfl, .refl _⟩, trivial⟩ (.refl _) rfl rfl refs_chk0 ⟨_, rfl⟩ ?_
      rintro r o ⟨rfl, rfl⟩
      refine sat_stop tabOk Tryz.func57 rfl trivial ?_
      refine sat_le key hC hCl ⟨⟨_, rfl, .refl _⟩, ⟨_, rfl, .refl _⟩, ⟨_, rfl, .refl _⟩, ⟨_, rfl, .refl _⟩, ⟨_, rfl, .refl _⟩, ⟨_, rfl, .of (by rw [List.length_map])⟩, ⟨_, rfl, .refl _⟩, trivial⟩ ⟨.refl _, .refl _, .refl _, .of (ren_mpI _ _), .of (ren_mpI _ _), .refl _, .refl _, .of ?_, trivial⟩ rfl ((refs_chk 2 _).trans rfl) (Nat.le_of_ble_eq_true rfl)
      rw [wOf, if_pos h]
      rfl
    · have h : decide (x.s > 0) = false := h
      rw [decide_eq_false_iff_not] at h
      refine sat_stop tabOk Tryz.func57 rfl trivial ?_
      refine sat_le key hC hCl ⟨⟨_, rfl, .refl _⟩, ⟨_, rfl, .refl _⟩, ⟨_, rfl, .refl _⟩, ⟨_, rfl, .refl _⟩, ⟨_, rfl, .refl _⟩, ⟨_, rfl, .of (by rw [List.length_map])⟩, ⟨_, rfl, .refl _⟩, trivial⟩ ⟨.refl _, .refl _, .refl _, .refl _, .refl _, .refl _, .refl _, .of ?_, trivial⟩ rfl ((refs_chk 2 _).trans rfl) (Nat.le_of_ble_eq_true rfl)
      rw [wOf, if_neg h]
      rfl
  refine sat_own (s := 1) (e := 3) (t := 6) (.inl rfl) (fun i => eI (([] : List Int).getD i 0)) ?_
  refine sat_while (α := Nat) (fun j => [(0, .ptr 0 0), (3, .ptr 6 0), (5, .ptr 7 0), (6, .gs 8), (20, .d (eIs x.a)), (21, vI .i64 (x.a.length : Int)), (22, vI .i64 (j : Int))]) (fun j => chkO l i id s t vh ++ [some (bNd x), some (cI (wOf l x)), some (gIs (aws l x j))]) (fun j => j ≤ x.a.length) (fun j => x.a.length - j) 0 (Nat.zero_le _) ?_ ?_
  · exact fun h => sat_le h hC hCl ⟨⟨_, rfl, .refl _⟩, ⟨_, rfl, .refl _⟩, ⟨_, rfl, .refl _⟩, ⟨_, rfl, .refl _⟩, ⟨_, rfl, .refl _⟩, ⟨_, rfl, .refl _⟩, ⟨_, rfl, .refl _⟩, trivial⟩ ⟨.refl _, .refl _, .refl _, .refl _, .refl _, .refl _, .refl _, .refl _, .refl _, trivial⟩ rfl ((refs_chk 3 _).trans rfl) (Nat.le_of_ble_eq_true rfl)
  rintro j hj ih
  refine sat_branch tabOk Tryz.func57 rfl trivial (fun hb => ?_) (fun hb => ?_) <;> simp only [decide_eq_true_eq, decide_eq_false_iff_not] at hb
  · have hlt : j < x.a.length := by omega
    have hd := hdl j hlt
    have hb1 := hbd j hlt
    have hv := hvl j hlt
    have hwn : wN l (ln l (x.a.getD j 0)) = awN l x j := by rw [wN, if_pos hv]; rfl
    refine sat_callG [0, 1, 2, 3, 4, 5] tabOk Tryz.func57 rfl (by simp only [andP, and_true, true_and, Int.toNat_natCast, List.length_map, List.length_append, List.length_cons, List.length_nil, List.length_replicate]; omega) (value_call l i id s t vh (x.a.getD j 0) hd.1 hd.2 (by omega) (by rw [hwn]; omega)) ⟨⟨_, rfl, .refl _⟩, ⟨_, rfl, .refl _⟩, ⟨_, rfl, .refl _⟩, ⟨_, rfl, .of (ren_mpI _ _).symm⟩, ⟨_, rfl, .of (ren_mpI _ _).symm⟩, ⟨_, rfl, .refl _⟩, trivial⟩ (.refl _) rfl rfl refs_chk0 ⟨_, rfl⟩ ?_
    rintro r o ⟨rfl, rfl⟩
    rw [hwn]
    have hmap : (aws l x j).map eI ++ [eI (awN l x j)] = (aws l x (j + 1)).map eI := by
      simp [aws, List.range_succ]
    refine sat_stop tabOk Tryz.func57 rfl ?_ ?_
    · show ((List.map eI (aws l x j)).length + 1) * 8 ≤ 140737488355328 ∧ True
      rw [List.length_map, aws_len]
      exact ⟨by omega, trivial⟩
    exact sat_le (ih (j + 1) (by omega) (by omega)) hC hCl ⟨⟨_, rfl, .refl _⟩, ⟨_, rfl, .refl _⟩, ⟨_, rfl, .refl _⟩, ⟨_, rfl, .refl _⟩, ⟨_, rfl, .refl _⟩, ⟨_, rfl, .refl _⟩, ⟨_, rfl, .of (by rw [wrap_id (by omega) (by omega)]; rfl)⟩, trivial⟩ ⟨.refl _, .refl _, .refl _, .of ((congrArg (AObj.drop 8) (ren_mpI _ _)).trans (drop_mpI 8 _)), .of ((congrArg (AObj.drop 8) (ren_mpI _ _)).trans (drop_mpI 8 _)), .refl _, .refl _, .refl _, .gL hmap, trivial⟩ rfl ((refs_chk 3 _).trans rfl) (Nat.le_of_ble_eq_true rfl)
  obtain rfl : j = x.a.length := by omega
  clear ih
  refine sat_freeze 8 rfl ?_
  obtain ⟨aw, haw⟩ : ∃ aw, aws l x x.a.length = aw := ⟨_, rfl⟩
  have awl : aw.length = x.a.length := by rw [← haw, aws_len]
  have awg : ∀ q, q < x.a.length → aw.getD q 0 = awN l x q := fun q hq => by rw [← haw, aws_get hq]
  have awm : ∀ a ∈ aw, ∃ q, q < x.a.length ∧ a = awN l x q := fun a ha => by
    obtain ⟨q, hq, rfl⟩ := List.getElem_of_mem ha
    refine ⟨q, by omega, ?_⟩
    rw [← awg q (by omega), List.getD_eq_getElem?_getD, List.getElem?_eq_getElem hq]
    rfl
  have awd : ∀ a ∈ aw.drop 1, ∃ q, 1 ≤ q ∧ q < x.a.length ∧ a = awN l x q := fun a ha => by
    obtain ⟨q, hq, rfl⟩ := List.getElem_of_mem ha
    rw [List.length_drop] at hq
    refine ⟨1 + q, by omega, by omega, ?_⟩
    rw [← awg (1 + q) (by omega), List.getElem_drop, List.getD_eq_getElem?_getD, List.getElem?_eq_getElem (by omega)]
    rfl
  rw [haw]
  refine sat_le (env' := [(0, .ptr 0 0), (3, .ptr 6 0), (5, .ptr 7 0), (6, .d (eIs aw)), (23, .lit false)]) (objs' := chkO l i id s t vh ++ [some (bNd x), some (cI (wOf l x))]) ?_ hC hCl ⟨⟨_, rfl, .refl _⟩, ⟨_, rfl, .refl _⟩, ⟨_, rfl, .refl _⟩, ⟨_, rfl, .refl _⟩, ⟨_, rfl, .refl _⟩, trivial⟩ ⟨.refl _, .refl _, .refl _, .of (frz_mpI _ _ _), .of (frz_mpI _ _ _), .refl _, .refl _, .refl _, trivial⟩ rfl ((refs_chk 2 _).trans rfl) (Nat.le_of_ble_eq_true rfl)
  refine sat_branch tabOk Tryz.func57 rfl trivial (fun qSort => ?_) (fun qSort => ?_) <;> rw [show ((⟨#[115, 111, 114, 116]⟩ : ByteArray)) = ⟨kSort.toArray⟩ from rfl, strB] at qSort <;> simp only [decide_eq_true_eq, decide_eq_false_iff_not] at qSort
  · refine sat_retL tabOk Tryz.func57 rfl trivial hC hCl (.of ?_) (o2 := chkO l i id s t vh) ⟨.refl _, .refl _, .refl _, .refl _, .refl _, .refl _, trivial⟩ rfl refs_chk0 (Nat.le_refl _) ⟨rfl, ?_⟩
    · rw [wN, if_neg (by rw [qSort]; decide)]
      rfl
    · rw [hI1 (by rw [qSort]; decide), hI2 (by rw [qSort]; decide)]
  refine sat_branch tabOk Tryz.func57 rfl trivial (fun qConst => ?_) (fun qConst => ?_) <;> rw [show ((⟨#[99, 111, 110, 115, 116]⟩ : ByteArray)) = ⟨kConst.toArray⟩ from rfl, strB] at qConst <;> simp only [decide_eq_true_eq, decide_eq_false_iff_not] at qConst
  · have hv : isVal x.op = true := by rw [qConst]; decide
    have hs0 : 0 < x.s := by
      have := hni.s1 (by rw [qConst]; decide)
      omega
    refine sat_call tabOk Tryz.func57 rfl trivial must_call ⟨fun _ _ _ _ _ => .dead, .of ?_, fun _ _ _ _ _ => .dead, trivial⟩ rfl ⟨_, rfl⟩ (by rintro r o rfl; rfl) ?_
    · show vB (((⟨x.t.toArray⟩ : ByteArray).size : Int) == wOf l x) = vB true
      rw [size_list, hask.const qConst, beq_self_eq_true]
    rintro r o rfl
    refine sat_retL tabOk Tryz.func57 rfl trivial hC hCl (.of ?_) (o2 := chkO l i id s t vh) ⟨.refl _, .refl _, .refl _, .refl _, .refl _, .refl _, trivial⟩ rfl refs_chk0 (Nat.le_refl _) ⟨rfl, ?_⟩
    · show vI .i64 (wOf l x) = _
      rw [wOf, if_pos hs0, wN, if_pos hv]
    · rw [hI1 (by rw [qConst]; decide), hI2 (by rw [qConst]; decide)]
  refine sat_branch tabOk Tryz.func57 rfl trivial (fun qInput => ?_) (fun qInput => ?_) <;> rw [show ((⟨#[105, 110, 112, 117, 116]⟩ : ByteArray)) = ⟨kInput.toArray⟩ from rfl, strB] at qInput <;> simp only [decide_eq_true_eq, decide_eq_false_iff_not] at qInput
  · have hv : isVal x.op = true := by rw [qInput]; decide
    have hs0 : 0 < x.s := by
      have := hni.s1 (by rw [qInput]; decide)
      omega
    refine sat_call tabOk Tryz.func57 rfl trivial must_call ⟨fun _ _ _ _ _ => .dead, .of ?_, fun _ _ _ _ _ => .dead, trivial⟩ rfl ⟨_, rfl⟩ (by rintro r o rfl; rfl) ?_
    · rfl
    rintro r o rfl
    refine sat_retL tabOk Tryz.func57 rfl trivial hC hCl (.of ?_) (o2 := chkO l i id s t vh) ⟨.refl _, .refl _, .refl _, .refl _, .refl _, .refl _, trivial⟩ rfl refs_chk0 (Nat.le_refl _) ⟨rfl, ?_⟩
    · show vI .i64 (wOf l x) = _
      rw [wOf, if_pos hs0, wN, if_pos hv]
    · rw [hI1 (by rw [qInput]; decide), hI2 (by rw [qInput]; decide)]
  refine sat_branch tabOk Tryz.func57 rfl trivial (fun qState => ?_) (fun qState => ?_) <;> rw [show ((⟨#[115, 116, 97, 116, 101]⟩ : ByteArray)) = ⟨kState.toArray⟩ from rfl, strB] at qState <;> simp only [decide_eq_true_eq, decide_eq_false_iff_not] at qState
  · have hv : isVal x.op = true := by rw [qState]; decide
    have hs0 : 0 < x.s := by
      have := hni.s1 (by rw [qState]; decide)
      omega
    refine sat_call tabOk Tryz.func57 rfl trivial must_call ⟨fun _ _ _ _ _ => .dead, .of ?_, fun _ _ _ _ _ => .dead, trivial⟩ rfl ⟨_, rfl⟩ (by rintro r o rfl; rfl) ?_
    · rfl
    rintro r o rfl
    refine sat_retL tabOk Tryz.func57 rfl trivial hC hCl (.of ?_) (o2 := chkO l i id s t vh) ⟨.refl _, .refl _, .refl _, .refl _, .refl _, .refl _, trivial⟩ rfl refs_chk0 (Nat.le_refl _) ⟨rfl, ?_⟩
    · show vI .i64 (wOf l x) = _
      rw [wOf, if_pos hs0, wN, if_pos hv]
    · rw [hI1 (by rw [qState]; decide), hI2 (by rw [qState]; decide)]
  refine sat_branch tabOk Tryz.func57 rfl trivial (fun qBad => ?_) (fun qBad => ?_) <;> rw [show ((⟨#[98, 97, 100]⟩ : ByteArray)) = ⟨kBad.toArray⟩ from rfl, strB] at qBad <;> simp only [decide_eq_true_eq, decide_eq_false_iff_not] at qBad
  · have hx1 : x.a.length = 1 := by rw [hni.al, qBad]; decide
    refine sat_call tabOk Tryz.func57 rfl (by simp only [List.length_map, awl, hx1]; decide) must_call ⟨fun _ _ _ _ _ => .dead, .of ?_, fun _ _ _ _ _ => .dead, trivial⟩ rfl ⟨_, rfl⟩ (by rintro r o rfl; rfl) ?_
    · show vB (aw.getD 0 0 == 1) = vB true
      rw [awg 0 (by omega), hask.bad (.inl qBad)]
      rfl
    rintro r o rfl
    refine sat_retL tabOk Tryz.func57 rfl trivial hC hCl (.of ?_) (o2 := chkO l i id s t vh) ⟨.refl _, .refl _, .refl _, .refl _, .refl _, .refl _, trivial⟩ rfl refs_chk0 (Nat.le_refl _) ⟨rfl, ?_⟩
    · rw [wN, if_neg (by rw [qBad]; decide)]
      rfl
    · rw [hI1 (by rw [qBad]; decide), hI2 (by rw [qBad]; decide)]
  refine sat_branch tabOk Tryz.func57 rfl trivial (fun qConstraint => ?_) (fun qConstraint => ?_) <;> rw [show ((⟨#[99, 111, 110, 115, 116, 114, 97, 105, 110, 116]⟩ : ByteArray)) = ⟨kConstraint.toArray⟩ from rfl, strB] at qConstraint <;> simp only [decide_eq_true_eq, decide_eq_false_iff_not] at qConstraint
  · have hx1 : x.a.length = 1 := by rw [hni.al, qConstraint]; decide
    refine sat_call tabOk Tryz.func57 rfl (by simp only [List.length_map, awl, hx1]; decide) must_call ⟨fun _ _ _ _ _ => .dead, .of ?_, fun _ _ _ _ _ => .dead, trivial⟩ rfl ⟨_, rfl⟩ (by rintro r o rfl; rfl) ?_
    · show vB (aw.getD 0 0 == 1) = vB true
      rw [awg 0 (by omega), hask.bad (.inr qConstraint)]
      rfl
    rintro r o rfl
    refine sat_retL tabOk Tryz.func57 rfl trivial hC hCl (.of ?_) (o2 := chkO l i id s t vh) ⟨.refl _, .refl _, .refl _, .refl _, .refl _, .refl _, trivial⟩ rfl refs_chk0 (Nat.le_refl _) ⟨rfl, ?_⟩
    · rw [wN, if_neg (by rw [qConstraint]; decide)]
      rfl
    · rw [hI1 (by rw [qConstraint]; decide), hI2 (by rw [qConstraint]; decide)]
  refine sat_branch tabOk Tryz.func57 rfl trivial (fun qInit => ?_) (fun qInit => ?_) <;> rw [show ((⟨#[105, 110, 105, 116]⟩ : ByteArray)) = ⟨kInit.toArray⟩ from rfl, strB] at qInit <;> simp only [decide_eq_true_eq, decide_eq_false_iff_not] at qInit
  · have hx2 : x.a.length = 2 := by rw [hni.al, qInit]; decide
    obtain ⟨hsame, hnot⟩ := hask.inx (.inl qInit)
    have hst := hlk.st (.inl qInit)
    have d0 := hdl 0 (by omega)
    have d1 := hdl 1 (by omega)
    have e0 : IntKind.i64.wrap (x.a.getD 0 0 - 1) = x.a.getD 0 0 - 1 := wrap_id (by omega) (by omega)
    have e1 : IntKind.i64.wrap (x.a.getD 1 0 - 1) = x.a.getD 1 0 - 1 := wrap_id (by omega) (by omega)
    have hnk : x.a.getD 0 0 ∉ s := by
      rw [hs, mem_hadI]
      rw [qInit] at hnot
      exact hnot
    refine sat_drawT 15 tabOk Tryz.func57 rfl rfl trivial (by kernel_rfl) ?_
    refine ds_done tabOk rfl ?_ ?_
    · show (0 ≤ IntKind.i64.wrap (x.a.getD 0 0 - 1) ∧ IntKind.i64.wrap (x.a.getD 0 0 - 1) < ((l.map eNd).length : Int)) ∧ ((0 : Int) ≤ 0 ∧ (0 : Int) < ((x.a.map eI).length : Int)) ∧ True
      rw [e0, List.length_map, List.length_map, hx2]
      exact ⟨⟨by omega, by omega⟩, by decide, trivial⟩
    refine sat_call tabOk Tryz.func57 rfl trivial must_call ⟨fun _ _ _ _ _ => .dead, .of ?_, fun _ _ _ _ _ => .dead, trivial⟩ rfl ⟨_, rfl⟩ (by rintro r o rfl; rfl) ?_
    · show vB ((⟨(l.getD (IntKind.i64.wrap (x.a.getD 0 0 - 1)).toNat default).op.toArray⟩ : ByteArray).toList == (⟨kState.toArray⟩ : ByteArray).toList) = vB true
      rw [e0, strB, decide_eq_true hst]
    rintro r o rfl
    refine sat_drawT 20 tabOk Tryz.func57 rfl rfl trivial (by kernel_rfl) ?_
    refine ds_branch tabOk rfl trivial (fun g => ?_) (fun g => ?_) <;> rw [show ((⟨#[110, 101, 120, 116]⟩ : ByteArray)) = ⟨kNext.toArray⟩ from rfl, strB, qInit] at g
    · exact absurd g (by decide)
    refine ds_done tabOk rfl ?_ ?_
    · show (0 ≤ IntKind.i64.wrap (x.a.getD 1 0 - 1) ∧ IntKind.i64.wrap (x.a.getD 1 0 - 1) < ((l.map eNd).length : Int)) ∧ ((0 : Int) ≤ 1 ∧ (1 : Int) < ((x.a.map eI).length : Int)) ∧ True
      rw [e1, List.length_map, List.length_map, hx2]
      exact ⟨⟨by omega, by omega⟩, by decide, trivial⟩
    refine sat_call tabOk Tryz.func57 rfl trivial must_call ⟨fun _ _ _ _ _ => .dead, .of ?_, fun _ _ _ _ _ => .dead, trivial⟩ rfl ⟨_, rfl⟩ (by rintro r o rfl; rfl) ?_
    · show vB ((⟨(l.getD (IntKind.i64.wrap (x.a.getD 1 0 - 1)).toNat default).op.toArray⟩ : ByteArray).toList == (⟨kConst.toArray⟩ : ByteArray).toList) = vB true
      rw [e1, strB, decide_eq_true (hask.ini qInit)]
    rintro r o rfl
    refine sat_callG [7] tabOk Tryz.func57 rfl trivial (all_call aw (wOf l x) (by omega)) ⟨⟨_, rfl, .refl _⟩, trivial⟩ (.refl _) rfl rfl rfl ⟨_, rfl⟩ ?_
    rintro r o ⟨rfl, rfl⟩
    refine sat_call tabOk Tryz.func57 rfl trivial must_call ⟨fun _ _ _ _ _ => .dead, .of ?_, fun _ _ _ _ _ => .dead, trivial⟩ rfl ⟨_, rfl⟩ (by rintro r o rfl; rfl) ?_
    · show vB (!anyNe aw (wOf l x)) = vB true
      rw [anyNe_of]
      · rfl
      intro a ha
      obtain ⟨q, h2, rfl⟩ := awm a ha
      exact hsame q h2
    rintro r o rfl
    refine sat_le (env' := [(0, .ptr 0 0), (3, .ptr 6 0), (5, .ptr 7 0), (6, .d (eIs aw))]) (objs' := chkO l i id s t vh ++ [some (bNd x), some (cI (wOf l x))]) ?_ hC hCl ⟨⟨_, rfl, .refl _⟩, ⟨_, rfl, .refl _⟩, ⟨_, rfl, .refl _⟩, ⟨_, rfl, .refl _⟩, trivial⟩ ⟨.refl _, .refl _, .refl _, .of (dropS_mpI _ _), .of (dropS_mpI _ _), .refl _, .refl _, .refl _, trivial⟩ rfl ((refs_chk 2 _).trans rfl) (Nat.le_of_ble_eq_true rfl)
    refine sat_drawT 14 tabOk Tryz.func57 rfl rfl trivial (by kernel_rfl) ?_
    iterate 7 refine ds_ok tabOk rfl rfl rfl rfl rfl ?_
    refine ds_lookup tabOk rfl rfl rfl rfl rfl rfl rfl rfl rfl rfl rfl rfl rfl (had_init qInit) rfl ?_
    iterate 2 refine ds_ok tabOk rfl rfl rfl rfl rfl ?_
    refine ds_iff tabOk rfl rfl rfl rfl ⟨Int.le_refl _, by rw [List.length_map, hx2]; decide⟩ rfl ?_
    refine ds_ok tabOk rfl rfl rfl rfl rfl ?_
    refine ds_lookup tabOk rfl rfl rfl rfl rfl rfl rfl rfl rfl rfl rfl rfl (keys_mpI _) (find_no hnk) rfl ?_
    refine ds_done tabOk rfl trivial ?_
    refine sat_call tabOk Tryz.func57 rfl trivial must_call ⟨fun _ _ _ _ _ => .dead, .of ?_, fun _ _ _ _ _ => .dead, trivial⟩ rfl ⟨_, rfl⟩ (by rintro r o rfl; rfl) ?_
    · rfl
    rintro r o rfl
    refine sat_drawT 11 tabOk Tryz.func57 rfl rfl trivial (by kernel_rfl) ?_
    iterate 6 refine ds_ok tabOk rfl rfl rfl rfl rfl ?_
    refine ds_lookup tabOk rfl rfl rfl rfl rfl rfl rfl rfl rfl rfl rfl rfl rfl (had_init qInit) rfl ?_
    iterate 2 refine ds_ok tabOk rfl rfl rfl rfl rfl ?_
    refine ds_iff tabOk rfl rfl rfl rfl ⟨Int.le_refl _, by rw [List.length_map, hx2]; decide⟩ rfl ?_
    refine ds_ok tabOk rfl rfl rfl rfl rfl ?_
    refine ds_done tabOk rfl trivial ?_
    refine sat_update tabOk rfl rfl rfl rfl rfl rfl rfl rfl rfl rfl rfl rfl (keys_mpI _) (put_new hnk) ?_
    refine sat_retL tabOk Tryz.func57 rfl trivial hC hCl (.of ?_) (o2 := chkO l i id (s ++ [x.a.getD 0 0]) t vh) ⟨.refl _, .refl _, .refl _, .refl _, .refl _, .refl _, trivial⟩ rfl refs_chk0 (Nat.le_refl _) ⟨rfl, ?_⟩
    · rw [wN, if_neg (by rw [qInit]; decide)]
      rfl
    · rw [hadI_succ, hx, if_pos qInit, ← hs, hI2 (by rw [qInit]; decide)]
  refine sat_branch tabOk Tryz.func57 rfl trivial (fun qNext => ?_) (fun qNext => ?_) <;> rw [show ((⟨#[110, 101, 120, 116]⟩ : ByteArray)) = ⟨kNext.toArray⟩ from rfl, strB] at qNext <;> simp only [decide_eq_true_eq, decide_eq_false_iff_not] at qNext
  · have hx2 : x.a.length = 2 := by rw [hni.al, qNext]; decide
    obtain ⟨hsame, hnot⟩ := hask.inx (.inr qNext)
    have hst := hlk.st (.inr qNext)
    have d0 := hdl 0 (by omega)
    have d1 := hdl 1 (by omega)
    have e0 : IntKind.i64.wrap (x.a.getD 0 0 - 1) = x.a.getD 0 0 - 1 := wrap_id (by omega) (by omega)
    have e1 : IntKind.i64.wrap (x.a.getD 1 0 - 1) = x.a.getD 1 0 - 1 := wrap_id (by omega) (by omega)
    have hnk : x.a.getD 0 0 ∉ t := by
      rw [ht, mem_hadI]
      rw [qNext] at hnot
      exact hnot
    refine sat_drawT 15 tabOk Tryz.func57 rfl rfl trivial (by kernel_rfl) ?_
    refine ds_done tabOk rfl ?_ ?_
    · show (0 ≤ IntKind.i64.wrap (x.a.getD 0 0 - 1) ∧ IntKind.i64.wrap (x.a.getD 0 0 - 1) < ((l.map eNd).length : Int)) ∧ ((0 : Int) ≤ 0 ∧ (0 : Int) < ((x.a.map eI).length : Int)) ∧ True
      rw [e0, List.length_map, List.length_map, hx2]
      exact ⟨⟨by omega, by omega⟩, by decide, trivial⟩
    refine sat_call tabOk Tryz.func57 rfl trivial must_call ⟨fun _ _ _ _ _ => .dead, .of ?_, fun _ _ _ _ _ => .dead, trivial⟩ rfl ⟨_, rfl⟩ (by rintro r o rfl; rfl) ?_
    · show vB ((⟨(l.getD (IntKind.i64.wrap (x.a.getD 0 0 - 1)).toNat default).op.toArray⟩ : ByteArray).toList == (⟨kState.toArray⟩ : ByteArray).toList) = vB true
      rw [e0, strB, decide_eq_true hst]
    rintro r o rfl
    refine sat_drawT 20 tabOk Tryz.func57 rfl rfl trivial (by kernel_rfl) ?_
    refine ds_branch tabOk rfl trivial (fun g => ?_) (fun g => ?_) <;> rw [show ((⟨#[110, 101, 120, 116]⟩ : ByteArray)) = ⟨kNext.toArray⟩ from rfl, strB, qNext] at g
    rotate_left
    · exact absurd g (by decide)
    refine ds_done tabOk rfl trivial ?_
    refine sat_call tabOk Tryz.func57 rfl trivial must_call ⟨fun _ _ _ _ _ => .dead, .of ?_, fun _ _ _ _ _ => .dead, trivial⟩ rfl ⟨_, rfl⟩ (by rintro r o rfl; rfl) ?_
    · rfl
    rintro r o rfl
    refine sat_callG [7] tabOk Tryz.func57 rfl trivial (all_call aw (wOf l x) (by omega)) ⟨⟨_, rfl, .refl _⟩, trivial⟩ (.refl _) rfl rfl rfl ⟨_, rfl⟩ ?_
    rintro r o ⟨rfl, rfl⟩
    refine sat_call tabOk Tryz.func57 rfl trivial must_call ⟨fun _ _ _ _ _ => .dead, .of ?_, fun _ _ _ _ _ => .dead, trivial⟩ rfl ⟨_, rfl⟩ (by rintro r o rfl; rfl) ?_
    · show vB (!anyNe aw (wOf l x)) = vB true
      rw [anyNe_of]
      · rfl
      intro a ha
      obtain ⟨q, h2, rfl⟩ := awm a ha
      exact hsame q h2
    rintro r o rfl
    refine sat_le (env' := [(0, .ptr 0 0), (3, .ptr 6 0), (5, .ptr 7 0), (6, .d (eIs aw))]) (objs' := chkO l i id s t vh ++ [some (bNd x), some (cI (wOf l x))]) ?_ hC hCl ⟨⟨_, rfl, .refl _⟩, ⟨_, rfl, .refl _⟩, ⟨_, rfl, .refl _⟩, ⟨_, rfl, .refl _⟩, trivial⟩ ⟨.refl _, .refl _, .refl _, .of (dropS_mpI _ _), .of (dropS_mpI _ _), .refl _, .refl _, .refl _, trivial⟩ rfl ((refs_chk 2 _).trans rfl) (Nat.le_of_ble_eq_true rfl)
    refine sat_drawT 14 tabOk Tryz.func57 rfl rfl trivial (by kernel_rfl) ?_
    iterate 7 refine ds_ok tabOk rfl rfl rfl rfl rfl ?_
    refine ds_lookup tabOk rfl rfl rfl rfl rfl rfl rfl rfl rfl rfl rfl rfl rfl (had_next qNext) rfl ?_
    iterate 2 refine ds_ok tabOk rfl rfl rfl rfl rfl ?_
    refine ds_iff tabOk rfl rfl rfl rfl ⟨Int.le_refl _, by rw [List.length_map, hx2]; decide⟩ rfl ?_
    refine ds_ok tabOk rfl rfl rfl rfl rfl ?_
    refine ds_lookup tabOk rfl rfl rfl rfl rfl rfl rfl rfl rfl rfl rfl rfl (keys_mpI _) (find_no hnk) rfl ?_
    refine ds_done tabOk rfl trivial ?_
    refine sat_call tabOk Tryz.func57 rfl trivial must_call ⟨fun _ _ _ _ _ => .dead, .of ?_, fun _ _ _ _ _ => .dead, trivial⟩ rfl ⟨_, rfl⟩ (by rintro r o rfl; rfl) ?_
    · rfl
    rintro r o rfl
    refine sat_drawT 11 tabOk Tryz.func57 rfl rfl trivial (by kernel_rfl) ?_
    iterate 6 refine ds_ok tabOk rfl rfl rfl rfl rfl ?_
    refine ds_lookup tabOk rfl rfl rfl rfl rfl rfl rfl rfl rfl rfl rfl rfl rfl (had_next qNext) rfl ?_
    iterate 2 refine ds_ok tabOk rfl rfl rfl rfl rfl ?_
    refine ds_iff tabOk rfl rfl rfl rfl ⟨Int.le_refl _, by rw [List.length_map, hx2]; decide⟩ rfl ?_
    refine ds_ok tabOk rfl rfl rfl rfl rfl ?_
    refine ds_done tabOk rfl trivial ?_
    refine sat_update tabOk rfl rfl rfl rfl rfl rfl rfl rfl rfl rfl rfl rfl (keys_mpI _) (put_new hnk) ?_
    refine sat_retL tabOk Tryz.func57 rfl trivial hC hCl (.of ?_) (o2 := chkO l i id s (t ++ [x.a.getD 0 0]) vh) ⟨.refl _, .refl _, .refl _, .refl _, .refl _, .refl _, trivial⟩ rfl refs_chk0 (Nat.le_refl _) ⟨rfl, ?_⟩
    · rw [wN, if_neg (by rw [qNext]; decide)]
      rfl
    · rw [hI1 (by rw [qNext]; decide), hadI_succ, hx, if_pos qNext, ← ht]
  refine sat_branch tabOk Tryz.func57 rfl trivial (fun qRedand => ?_) (fun qRedand => ?_) <;> rw [show ((⟨#[114, 101, 100, 97, 110, 100]⟩ : ByteArray)) = ⟨kRedand.toArray⟩ from rfl, strB] at qRedand <;> simp only [decide_eq_true_eq, decide_eq_false_iff_not] at qRedand
  · have hv : isVal x.op = true := by rw [qRedand]; decide
    have hs0 : 0 < x.s := by
      have := hni.s1 (by rw [qRedand]; decide)
      omega
    refine sat_call tabOk Tryz.func57 rfl trivial must_call ⟨fun _ _ _ _ _ => .dead, .of ?_, fun _ _ _ _ _ => .dead, trivial⟩ rfl ⟨_, rfl⟩ (by rintro r o rfl; rfl) ?_
    · show vB (wOf l x == 1) = vB true
      rw [hask.red (.inl qRedand)]
      rfl
    rintro r o rfl
    refine sat_retL tabOk Tryz.func57 rfl trivial hC hCl (.of ?_) (o2 := chkO l i id s t vh) ⟨.refl _, .refl _, .refl _, .refl _, .refl _, .refl _, trivial⟩ rfl refs_chk0 (Nat.le_refl _) ⟨rfl, ?_⟩
    · show vI .i64 (wOf l x) = _
      rw [wOf, if_pos hs0, wN, if_pos hv]
    · rw [hI1 (by rw [qRedand]; decide), hI2 (by rw [qRedand]; decide)]
  refine sat_branch tabOk Tryz.func57 rfl trivial (fun qRedor => ?_) (fun qRedor => ?_) <;> rw [show ((⟨#[114, 101, 100, 111, 114]⟩ : ByteArray)) = ⟨kRedor.toArray⟩ from rfl, strB] at qRedor <;> simp only [decide_eq_true_eq, decide_eq_false_iff_not] at qRedor
  · have hv : isVal x.op = true := by rw [qRedor]; decide
    have hs0 : 0 < x.s := by
      have := hni.s1 (by rw [qRedor]; decide)
      omega
    refine sat_call tabOk Tryz.func57 rfl trivial must_call ⟨fun _ _ _ _ _ => .dead, .of ?_, fun _ _ _ _ _ => .dead, trivial⟩ rfl ⟨_, rfl⟩ (by rintro r o rfl; rfl) ?_
    · show vB (wOf l x == 1) = vB true
      rw [hask.red (.inr (.inl qRedor))]
      rfl
    rintro r o rfl
    refine sat_retL tabOk Tryz.func57 rfl trivial hC hCl (.of ?_) (o2 := chkO l i id s t vh) ⟨.refl _, .refl _, .refl _, .refl _, .refl _, .refl _, trivial⟩ rfl refs_chk0 (Nat.le_refl _) ⟨rfl, ?_⟩
    · show vI .i64 (wOf l x) = _
      rw [wOf, if_pos hs0, wN, if_pos hv]
    · rw [hI1 (by rw [qRedor]; decide), hI2 (by rw [qRedor]; decide)]
  refine sat_branch tabOk Tryz.func57 rfl trivial (fun qRedxor => ?_) (fun qRedxor => ?_) <;> rw [show ((⟨#[114, 101, 100, 120, 111, 114]⟩ : ByteArray)) = ⟨kRedxor.toArray⟩ from rfl, strB] at qRedxor <;> simp only [decide_eq_true_eq, decide_eq_false_iff_not] at qRedxor
  · have hv : isVal x.op = true := by rw [qRedxor]; decide
    have hs0 : 0 < x.s := by
      have := hni.s1 (by rw [qRedxor]; decide)
      omega
    refine sat_call tabOk Tryz.func57 rfl trivial must_call ⟨fun _ _ _ _ _ => .dead, .of ?_, fun _ _ _ _ _ => .dead, trivial⟩ rfl ⟨_, rfl⟩ (by rintro r o rfl; rfl) ?_
    · show vB (wOf l x == 1) = vB true
      rw [hask.red (.inr (.inr qRedxor))]
      rfl
    rintro r o rfl
    refine sat_retL tabOk Tryz.func57 rfl trivial hC hCl (.of ?_) (o2 := chkO l i id s t vh) ⟨.refl _, .refl _, .refl _, .refl _, .refl _, .refl _, trivial⟩ rfl refs_chk0 (Nat.le_refl _) ⟨rfl, ?_⟩
    · show vI .i64 (wOf l x) = _
      rw [wOf, if_pos hs0, wN, if_pos hv]
    · rw [hI1 (by rw [qRedxor]; decide), hI2 (by rw [qRedxor]; decide)]
  refine sat_branch tabOk Tryz.func57 rfl trivial (fun qEq => ?_) (fun qEq => ?_) <;> rw [show ((⟨#[101, 113]⟩ : ByteArray)) = ⟨kEq.toArray⟩ from rfl, strB] at qEq <;> simp only [decide_eq_true_eq, decide_eq_false_iff_not] at qEq
  · have hv : isVal x.op = true := by rw [qEq]; decide
    have hs0 : 0 < x.s := by
      have := hni.s1 (by rw [qEq]; decide)
      omega
    have hx2 : x.a.length = 2 := by rw [hni.al, qEq]; decide
    obtain ⟨hw1, hw2⟩ := hask.cmp (.inl qEq)
    refine sat_drawT 9 tabOk Tryz.func57 rfl rfl trivial (by kernel_rfl) ?_
    refine ds_branch tabOk rfl trivial (fun _ => ?_) (fun g4 => ?_)
    rotate_left
    · have g4 : (wOf l x == 1) = false := g4
      rw [hw1] at g4
      cases g4
    refine ds_done tabOk rfl (by first | (simp only [List.length_map, awl, hx2]; decide) | simp only [List.length_map, awl, hx2]) ?_
    refine sat_call tabOk Tryz.func57 rfl (by first | (simp only [List.length_map, awl, hx2]; decide) | simp only [List.length_map, awl, hx2]) must_call ⟨fun _ _ _ _ _ => .dead, .of ?_, fun _ _ _ _ _ => .dead, trivial⟩ rfl ⟨_, rfl⟩ (by rintro r o rfl; rfl) ?_
    · show vB (aw.getD 0 0 == aw.getD 1 0) = vB true
      rw [awg 0 (by omega), awg 1 (by omega), hw2, beq_self_eq_true]
    rintro r o rfl
    refine sat_retL tabOk Tryz.func57 rfl trivial hC hCl (.of ?_) (o2 := chkO l i id s t vh) ⟨.refl _, .refl _, .refl _, .refl _, .refl _, .refl _, trivial⟩ rfl refs_chk0 (Nat.le_refl _) ⟨rfl, ?_⟩
    · show vI .i64 (wOf l x) = _
      rw [wOf, if_pos hs0, wN, if_pos hv]
    · rw [hI1 (by rw [qEq]; decide), hI2 (by rw [qEq]; decide)]
  refine sat_branch tabOk Tryz.func57 rfl trivial (fun qUlt => ?_) (fun qUlt => ?_) <;> rw [show ((⟨#[117, 108, 116]⟩ : ByteArray)) = ⟨kUlt.toArray⟩ from rfl, strB] at qUlt <;> simp only [decide_eq_true_eq, decide_eq_false_iff_not] at qUlt
  · have hv : isVal x.op = true := by rw [qUlt]; decide
    have hs0 : 0 < x.s := by
      have := hni.s1 (by rw [qUlt]; decide)
      omega
    have hx2 : x.a.length = 2 := by rw [hni.al, qUlt]; decide
    obtain ⟨hw1, hw2⟩ := hask.cmp (.inr (.inl qUlt))
    refine sat_drawT 9 tabOk Tryz.func57 rfl rfl trivial (by kernel_rfl) ?_
    refine ds_branch tabOk rfl trivial (fun _ => ?_) (fun g4 => ?_)
    rotate_left
    · have g4 : (wOf l x == 1) = false := g4
      rw [hw1] at g4
      cases g4
    refine ds_done tabOk rfl (by first | (simp only [List.length_map, awl, hx2]; decide) | simp only [List.length_map, awl, hx2]) ?_
    refine sat_call tabOk Tryz.func57 rfl (by first | (simp only [List.length_map, awl, hx2]; decide) | simp only [List.length_map, awl, hx2]) must_call ⟨fun _ _ _ _ _ => .dead, .of ?_, fun _ _ _ _ _ => .dead, trivial⟩ rfl ⟨_, rfl⟩ (by rintro r o rfl; rfl) ?_
    · show vB (aw.getD 0 0 == aw.getD 1 0) = vB true
      rw [awg 0 (by omega), awg 1 (by omega), hw2, beq_self_eq_true]
    rintro r o rfl
    refine sat_retL tabOk Tryz.func57 rfl trivial hC hCl (.of ?_) (o2 := chkO l i id s t vh) ⟨.refl _, .refl _, .refl _, .refl _, .refl _, .refl _, trivial⟩ rfl refs_chk0 (Nat.le_refl _) ⟨rfl, ?_⟩
    · show vI .i64 (wOf l x) = _
      rw [wOf, if_pos hs0, wN, if_pos hv]
    · rw [hI1 (by rw [qUlt]; decide), hI2 (by rw [qUlt]; decide)]
  refine sat_branch tabOk Tryz.func57 rfl trivial (fun qSlt => ?_) (fun qSlt => ?_) <;> rw [show ((⟨#[115, 108, 116]⟩ : ByteArray)) = ⟨kSlt.toArray⟩ from rfl, strB] at qSlt <;> simp only [decide_eq_true_eq, decide_eq_false_iff_not] at qSlt
  · have hv : isVal x.op = true := by rw [qSlt]; decide
    have hs0 : 0 < x.s := by
      have := hni.s1 (by rw [qSlt]; decide)
      omega
    have hx2 : x.a.length = 2 := by rw [hni.al, qSlt]; decide
    obtain ⟨hw1, hw2⟩ := hask.cmp (.inr (.inr qSlt))
    refine sat_drawT 9 tabOk Tryz.func57 rfl rfl trivial (by kernel_rfl) ?_
    refine ds_branch tabOk rfl trivial (fun _ => ?_) (fun g4 => ?_)
    rotate_left
    · have g4 : (wOf l x == 1) = false := g4
      rw [hw1] at g4
      cases g4
    refine ds_done tabOk rfl (by first | (simp only [List.length_map, awl, hx2]; decide) | simp only [List.length_map, awl, hx2]) ?_
    refine sat_call tabOk Tryz.func57 rfl (by first | (simp only [List.length_map, awl, hx2]; decide) | simp only [List.length_map, awl, hx2]) must_call ⟨fun _ _ _ _ _ => .dead, .of ?_, fun _ _ _ _ _ => .dead, trivial⟩ rfl ⟨_, rfl⟩ (by rintro r o rfl; rfl) ?_
    · show vB (aw.getD 0 0 == aw.getD 1 0) = vB true
      rw [awg 0 (by omega), awg 1 (by omega), hw2, beq_self_eq_true]
    rintro r o rfl
    refine sat_retL tabOk Tryz.func57 rfl trivial hC hCl (.of ?_) (o2 := chkO l i id s t vh) ⟨.refl _, .refl _, .refl _, .refl _, .refl _, .refl _, trivial⟩ rfl refs_chk0 (Nat.le_refl _) ⟨rfl, ?_⟩
    · show vI .i64 (wOf l x) = _
      rw [wOf, if_pos hs0, wN, if_pos hv]
    · rw [hI1 (by rw [qSlt]; decide), hI2 (by rw [qSlt]; decide)]
  refine sat_branch tabOk Tryz.func57 rfl trivial (fun qConcat => ?_) (fun qConcat => ?_) <;> rw [show ((⟨#[99, 111, 110, 99, 97, 116]⟩ : ByteArray)) = ⟨kConcat.toArray⟩ from rfl, strB] at qConcat <;> simp only [decide_eq_true_eq, decide_eq_false_iff_not] at qConcat
  · have hv : isVal x.op = true := by rw [qConcat]; decide
    have hs0 : 0 < x.s := by
      have := hni.s1 (by rw [qConcat]; decide)
      omega
    have hx2 : x.a.length = 2 := by rw [hni.al, qConcat]; decide
    have b0 := hbd 0 (by omega)
    have b1 := hbd 1 (by omega)
    refine sat_drawT 8 tabOk Tryz.func57 rfl rfl trivial (by kernel_rfl) ?_
    refine ds_done tabOk rfl (by first | (simp only [List.length_map, awl, hx2]; decide) | simp only [List.length_map, awl, hx2]) ?_
    refine sat_call tabOk Tryz.func57 rfl trivial must_call ⟨fun _ _ _ _ _ => .dead, .of ?_, fun _ _ _ _ _ => .dead, trivial⟩ rfl ⟨_, rfl⟩ (by rintro r o rfl; rfl) ?_
    · show vB (wOf l x == IntKind.i64.wrap (aw.getD 0 0 + aw.getD 1 0)) = vB true
      rw [awg 0 (by omega), awg 1 (by omega), wrap_id (by omega) (by omega), hask.cat qConcat, beq_self_eq_true]
    rintro r o rfl
    refine sat_retL tabOk Tryz.func57 rfl trivial hC hCl (.of ?_) (o2 := chkO l i id s t vh) ⟨.refl _, .refl _, .refl _, .refl _, .refl _, .refl _, trivial⟩ rfl refs_chk0 (Nat.le_refl _) ⟨rfl, ?_⟩
    · show vI .i64 (wOf l x) = _
      rw [wOf, if_pos hs0, wN, if_pos hv]
    · rw [hI1 (by rw [qConcat]; decide), hI2 (by rw [qConcat]; decide)]
  refine sat_branch tabOk Tryz.func57 rfl trivial (fun qIte => ?_) (fun qIte => ?_) <;> rw [show ((⟨#[105, 116, 101]⟩ : ByteArray)) = ⟨kIte.toArray⟩ from rfl, strB] at qIte <;> simp only [decide_eq_true_eq, decide_eq_false_iff_not] at qIte
  · have hv : isVal x.op = true := by rw [qIte]; decide
    have hs0 : 0 < x.s := by
      have := hni.s1 (by rw [qIte]; decide)
      omega
    have hx3 : x.a.length = 3 := by rw [hni.al, qIte]; decide
    obtain ⟨w0, w1, w2⟩ := hask.ite qIte
    refine sat_branch tabOk Tryz.func57 rfl (by simp only [List.length_map, awl, hx3]; decide) (fun g4 => ?_) (fun g4 => ?_)
    rotate_left
    · have g4 : (aw.getD 0 0 == 1) = false := g4
      rw [awg 0 (by omega), w0] at g4
      cases g4
    refine sat_callG [7] tabOk Tryz.func57 rfl (by simp only [List.length_map, awl, hx3]; decide) (all_call (aw.drop 1) (wOf l x) (by rw [List.length_drop]; omega)) ⟨⟨_, rfl, .refl _⟩, trivial⟩ ⟨.eL ?_, .refl _, trivial⟩ rfl rfl rfl ⟨_, rfl⟩ ?_
    · show List.take _ (List.drop 1 (aw.map eI)) = _
      rw [← List.map_drop]
      exact List.take_of_length_le (by rw [List.length_map, List.length_map, List.length_drop]; omega)
    rintro r o ⟨rfl, rfl⟩
    refine sat_call tabOk Tryz.func57 rfl trivial must_call ⟨fun _ _ _ _ _ => .dead, .of ?_, fun _ _ _ _ _ => .dead, trivial⟩ rfl ⟨_, rfl⟩ (by rintro r o rfl; rfl) ?_
    · show vB (!anyNe (aw.drop 1) (wOf l x)) = vB true
      rw [anyNe_of]
      · rfl
      intro a ha
      obtain ⟨q, h1, h2, rfl⟩ := awd a ha
      have : q = 1 ∨ q = 2 := by omega
      rcases this with rfl | rfl
      · exact w1
      · exact w2
    rintro r o rfl
    refine sat_retL tabOk Tryz.func57 rfl trivial hC hCl (.of ?_) (o2 := chkO l i id s t vh) ⟨.refl _, .refl _, .refl _, .of (dropS_mpI _ _), .of (dropS_mpI _ _), .refl _, trivial⟩ rfl refs_chk0 (Nat.le_refl _) ⟨rfl, ?_⟩
    · show vI .i64 (wOf l x) = _
      rw [wOf, if_pos hs0, wN, if_pos hv]
    · rw [hI1 (by rw [qIte]; decide), hI2 (by rw [qIte]; decide)]
  refine sat_branch tabOk Tryz.func57 rfl trivial (fun qSlice => ?_) (fun qSlice => ?_) <;> rw [show ((⟨#[115, 108, 105, 99, 101]⟩ : ByteArray)) = ⟨kSlice.toArray⟩ from rfl, strB] at qSlice <;> simp only [decide_eq_true_eq, decide_eq_false_iff_not] at qSlice
  · have hv : isVal x.op = true := by rw [qSlice]; decide
    have hs0 : 0 < x.s := by
      have := hni.s1 (by rw [qSlice]; decide)
      omega
    have hx1 : x.a.length = 1 := by rw [hni.al, qSlice]; decide
    have hn2 : x.n.length = 2 := by rw [hni.nl, qSlice]; decide
    have b0 := hbd 0 (by omega)
    have m0 := hnb 0 (by omega)
    have m1 := hnb 1 (by omega)
    obtain ⟨w0, w1, w2⟩ := hask.slice qSlice
    have e9 : IntKind.i64.wrap (x.n.getD 0 0 - x.n.getD 1 0) = x.n.getD 0 0 - x.n.getD 1 0 := wrap_id (by omega) (by omega)
    refine sat_drawT 9 tabOk Tryz.func57 rfl rfl trivial (by kernel_rfl) ?_
    refine ds_done tabOk rfl (by simp only [List.length_map, hn2]; decide) ?_
    refine sat_branch tabOk Tryz.func57 rfl (by first | trivial | (simp only [List.length_map, hn2]; decide)) (fun g4 => ?_) (fun g4 => ?_)
    rotate_left
    · have g4 : decide (x.n.getD 1 0 ≤ x.n.getD 0 0) = false := g4
      rw [decide_eq_true w0] at g4
      cases g4
    refine sat_branch tabOk Tryz.func57 rfl (by simp only [List.length_map, awl, hx1]; decide) (fun g5 => ?_) (fun g5 => ?_)
    rotate_left
    · have g5 : decide (x.n.getD 0 0 < aw.getD 0 0) = false := g5
      rw [awg 0 (by omega), decide_eq_true w1] at g5
      cases g5
    refine sat_call tabOk Tryz.func57 rfl trivial must_call ⟨fun _ _ _ _ _ => .dead, .of ?_, fun _ _ _ _ _ => .dead, trivial⟩ rfl ⟨_, rfl⟩ (by rintro r o rfl; rfl) ?_
    · show vB (wOf l x == IntKind.i64.wrap (IntKind.i64.wrap (x.n.getD 0 0 - x.n.getD 1 0) + 1)) = vB true
      rw [e9, wrap_id (by omega) (by omega), w2, beq_self_eq_true]
    rintro r o rfl
    refine sat_retL tabOk Tryz.func57 rfl trivial hC hCl (.of ?_) (o2 := chkO l i id s t vh) ⟨.refl _, .refl _, .refl _, .refl _, .refl _, .refl _, trivial⟩ rfl refs_chk0 (Nat.le_refl _) ⟨rfl, ?_⟩
    · show vI .i64 (wOf l x) = _
      rw [wOf, if_pos hs0, wN, if_pos hv]
    · rw [hI1 (by rw [qSlice]; decide), hI2 (by rw [qSlice]; decide)]
  refine sat_branch tabOk Tryz.func57 rfl trivial (fun qUext => ?_) (fun qUext => ?_) <;> rw [show ((⟨#[117, 101, 120, 116]⟩ : ByteArray)) = ⟨kUext.toArray⟩ from rfl, strB] at qUext <;> simp only [decide_eq_true_eq, decide_eq_false_iff_not] at qUext
  · have hv : isVal x.op = true := by rw [qUext]; decide
    have hs0 : 0 < x.s := by
      have := hni.s1 (by rw [qUext]; decide)
      omega
    have hx1 : x.a.length = 1 := by rw [hni.al, qUext]; decide
    have hn1 : x.n.length = 1 := by rw [hni.nl, qUext]; decide
    have b0 := hbd 0 (by omega)
    have m0 := hnb 0 (by omega)
    refine sat_drawT 9 tabOk Tryz.func57 rfl rfl trivial (by kernel_rfl) ?_
    refine ds_done tabOk rfl (by simp only [List.length_map, awl, hx1, hn1]; decide) ?_
    refine sat_call tabOk Tryz.func57 rfl trivial must_call ⟨fun _ _ _ _ _ => .dead, .of ?_, fun _ _ _ _ _ => .dead, trivial⟩ rfl ⟨_, rfl⟩ (by rintro r o rfl; rfl) ?_
    · show vB (wOf l x == IntKind.i64.wrap (aw.getD 0 0 + x.n.getD 0 0)) = vB true
      rw [awg 0 (by omega), wrap_id (by omega) (by omega), hask.ext (.inl qUext), beq_self_eq_true]
    rintro r o rfl
    refine sat_retL tabOk Tryz.func57 rfl trivial hC hCl (.of ?_) (o2 := chkO l i id s t vh) ⟨.refl _, .refl _, .refl _, .refl _, .refl _, .refl _, trivial⟩ rfl refs_chk0 (Nat.le_refl _) ⟨rfl, ?_⟩
    · show vI .i64 (wOf l x) = _
      rw [wOf, if_pos hs0, wN, if_pos hv]
    · rw [hI1 (by rw [qUext]; decide), hI2 (by rw [qUext]; decide)]
  refine sat_branch tabOk Tryz.func57 rfl trivial (fun qSext => ?_) (fun qSext => ?_) <;> rw [show ((⟨#[115, 101, 120, 116]⟩ : ByteArray)) = ⟨kSext.toArray⟩ from rfl, strB] at qSext <;> simp only [decide_eq_true_eq, decide_eq_false_iff_not] at qSext
  · have hv : isVal x.op = true := by rw [qSext]; decide
    have hs0 : 0 < x.s := by
      have := hni.s1 (by rw [qSext]; decide)
      omega
    have hx1 : x.a.length = 1 := by rw [hni.al, qSext]; decide
    have hn1 : x.n.length = 1 := by rw [hni.nl, qSext]; decide
    have b0 := hbd 0 (by omega)
    have m0 := hnb 0 (by omega)
    refine sat_drawT 9 tabOk Tryz.func57 rfl rfl trivial (by kernel_rfl) ?_
    refine ds_done tabOk rfl (by simp only [List.length_map, awl, hx1, hn1]; decide) ?_
    refine sat_call tabOk Tryz.func57 rfl trivial must_call ⟨fun _ _ _ _ _ => .dead, .of ?_, fun _ _ _ _ _ => .dead, trivial⟩ rfl ⟨_, rfl⟩ (by rintro r o rfl; rfl) ?_
    · show vB (wOf l x == IntKind.i64.wrap (aw.getD 0 0 + x.n.getD 0 0)) = vB true
      rw [awg 0 (by omega), wrap_id (by omega) (by omega), hask.ext (.inr qSext), beq_self_eq_true]
    rintro r o rfl
    refine sat_retL tabOk Tryz.func57 rfl trivial hC hCl (.of ?_) (o2 := chkO l i id s t vh) ⟨.refl _, .refl _, .refl _, .refl _, .refl _, .refl _, trivial⟩ rfl refs_chk0 (Nat.le_refl _) ⟨rfl, ?_⟩
    · show vI .i64 (wOf l x) = _
      rw [wOf, if_pos hs0, wN, if_pos hv]
    · rw [hI1 (by rw [qSext]; decide), hI2 (by rw [qSext]; decide)]
  have hd : sameP l x := hask.dflt fun k hk => by
    simp only [List.mem_cons, List.not_mem_nil, or_false] at hk
    rcases hk with rfl | rfl | rfl | rfl | rfl | rfl | rfl | rfl | rfl | rfl | rfl | rfl | rfl | rfl | rfl | rfl | rfl | rfl | rfl <;> assumption
  have hv : isVal x.op = true := by
    unfold isVal
    rw [decide_eq_false qSort, decide_eq_false qInit, decide_eq_false qNext, decide_eq_false qBad, decide_eq_false qConstraint]
    rfl
  have hs0 : 0 < x.s := by
    have := hni.s1 (isVal_115 hv hni.known)
    omega
  refine sat_callG [7] tabOk Tryz.func57 rfl trivial (all_call aw (wOf l x) (by omega)) ⟨⟨_, rfl, .refl _⟩, trivial⟩ (.refl _) rfl rfl rfl ⟨_, rfl⟩ ?_
  rintro r o ⟨rfl, rfl⟩
  refine sat_call tabOk Tryz.func57 rfl trivial must_call ⟨fun _ _ _ _ _ => .dead, .of ?_, fun _ _ _ _ _ => .dead, trivial⟩ rfl ⟨_, rfl⟩ (by rintro r o rfl; rfl) ?_
  · show vB (!anyNe aw (wOf l x)) = vB true
    rw [anyNe_of]
    · rfl
    intro a ha
    obtain ⟨q, h2, rfl⟩ := awm a ha
    exact hd q h2
  rintro r o rfl
  refine sat_retL tabOk Tryz.func57 rfl trivial hC hCl (.of ?_) (o2 := chkO l i id s t vh) ⟨.refl _, .refl _, .refl _, .of (dropS_mpI _ _), .of (dropS_mpI _ _), .refl _, trivial⟩ rfl refs_chk0 (Nat.le_refl _) ⟨rfl, ?_⟩
  · show vI .i64 (wOf l x) = _
    rw [wOf, if_pos hs0, wN, if_pos hv]
  · rw [hI1 (by assumption), hI2 (by assumption)]
end Go.Proofs.YtcenfhcemmlaeaaGreatDoor
set_option linter.unusedSimpArgs false
set_option linter.unusedVariables false
namespace Ab
open Go

section
variable {P : Program} {T : Tab} {f : FuncId} {fn : Func} {n m : Nat} {C : Cx} {R : AV → List (Option AObj) → Prop} {todo todo' k : List Item} {env env0 env' envF : Env} {objs objs' : List (Option AObj)} {nd : Prop} {ops : Array Oper} {l : List Oper} {K : Env → Prop} {X : Nat → Prop}

/-- A temporary that is told already, or that the head does not tell. -/
def LiveT (ops : Array Oper) (m : Nat) (L : List Nat) (t : Tmp) : Prop := (∃ q ∈ L, ∃ o, ops[q]? = some o ∧ o.dst = some t) ∨ ∀ j, j < m → dstIs ops j t = false
structure StepX (X : Nat → Prop) (O : List Nat → List (Option AObj)) (m : Nat) (ops : Array Oper) (envF : Env) (L : List Nat) (j : Nat) (π : List Value) (w : World) (π' : List Value) (w2 : World) : Prop where
  mem : Mem X π' (O (j :: L)) w2
  hist : Hist π (O L) w π' (O (j :: L)) w2
  keep : ∀ t a v, look envF t = some a → LiveT ops m L t → RelV w (okOf X π (O L)) π a v → RelV w2 (okOf X π' (O (j :: L))) π' a v
/-- What an operation does, whenever it is come to, whatever acted ahead of it. -/
def HeadX (P : Program) (n : Nat) (X : Nat → Prop) (O : List Nat → List (Option AObj)) (m : Nat) (ops : Array Oper) (envF : Env) (j : Nat) (o : Oper) : Prop :=
  ∀ L, (∀ q ∈ L, q < m) → j ∉ L → (∀ q, waitsB ops j q = true → q ∈ L) → (∀ q ∈ L, ∀ q', waitsB ops q q' = true → q' ∈ L) → ∀ π w tmps, tmps.size = n → Mem X π (O L) w → (∀ t ∈ o.looksAt ops, ∀ a, look envF t = some a → RelV w (okOf X π (O L)) π a (tmps.getD t undef)) →
    (Region.wanted o (yielded ops tmps) = false ∧ ∃ π', StepX X O m ops envF L j π w π' w ∧ PutOk n w (okOf X π' (O (j :: L))) π' envF o undef) ∨
    (Region.wanted o (yielded ops tmps) = true ∧
      ((∃ v w2 π', (execOp (Act.eval ⟨tmps, []⟩) o).run P w = .ok (.value v) w2 ∧ StepX X O m ops envF L j π w π' w2 ∧ PutOk n w2 (okOf X π' (O (j :: L))) π' envF o v) ∨
       (∃ w2 π', (execOp (Act.eval ⟨tmps, []⟩) o).run P w = .ok .skip w2 ∧ StepX X O m ops envF L j π w π' w2 ∧ PutOk n w2 (okOf X π' (O (j :: L))) π' envF o undef) ∨
       (∃ g args, (execOp (Act.eval ⟨tmps, []⟩) o).run P w = .ok (.enter g args) w ∧ Calls P g args w fun e w2 => ∃ v π', e = .returned v ∧ StepX X O m ops envF L j π w π' w2 ∧ PutOk n w2 (okOf X π' (O (j :: L))) π' envF o v)))

theorem drawn_soundX {O : List Nat → List (Option AObj)} {objsF : List (Option AObj)} (hmx : P.follows .mixedOrders = true) (hB : drawB ops m = true) (hops : ∀ j o, j < m → ops[j]? = some o → HeadX P n C.X O m ops envF j o)
    (hO0 : O [] = objs) (hOF : ∀ L, (∀ i, i < m → i ∈ L) → O L = objsF)
    (henv : ∀ t, (∀ j, j < m → dstIs ops j t = false) → ∀ a, look envF t = some a → ∃ b, look env0 t = some b ∧ VLe b a)
    (hK : ASat P f n C (.inRegion ops (List.range' m (ops.size - m)) :: k) envF objsF R) {id : Nat} : ASat P f n C (.code (.region id ops true) :: k) env0 objs R := by
  simp only [drawB, Bool.and_eq_true, decide_eq_true_eq] at hB
  obtain ⟨⟨⟨⟨hms, hback⟩, hsink⟩, hchain⟩, hap⟩ := hB
  have hap : ∀ j o, j < m → ops[j]? = some o → (∀ k, k < m → k ≠ j → ∀ d, o.dst = some d → dstIs ops k d = false) ∧ ∀ k, k < m → ∀ t ∈ o.looksAt ops, dstIs ops k t = true → waitsB ops j k = true := by
    intro j o hj ho
    have h1 := List.all_eq_true.1 hap j (List.mem_range.2 hj)
    rw [ho] at h1
    have h2 : ∀ k, k < m → ((decide (k = j) || dstFree ops o k) = true ∧ (o.looksAt ops).all (fun t => !dstIs ops k t || waitsB ops j k) = true) := fun k hk => by
      have := List.all_eq_true.1 h1 k (List.mem_range.2 hk)
      simpa only [Bool.and_eq_true] using this
    refine ⟨fun k hk hne d hd => ?_, fun k hk t ht hd => ?_⟩
    · have := (h2 k hk).1
      unfold dstFree at this
      rw [hd] at this
      simpa [hne] using this
    · have := List.all_eq_true.1 (h2 k hk).2 t ht
      simpa [hd] using this
  intro π w tmps0 hn hm hh he
  have hl1 : Later w { w with drawn := w.drawn + 1 } := ⟨rfl, rfl, ⟨rfl, dr_le _ _⟩, Nat.le_refl _, fun _ _ => rfl⟩
  have htr1 := hl1.tr hm
  have key : ∀ (fuel t : Nat) (listed : Array Bool) (L : List Nat) (tmps : Array Value) (w' : World) (π : List Value), Lst ops m L listed → L.length + fuel = ops.size → Mem C.X π (O L) w' → Hist C.π C.objs C.w π (O L) w' → tmps.size = n →
      (∀ j ∈ L, ∀ o, ops[j]? = some o → ∀ d, o.dst = some d → ∃ b, look envF d = some b ∧ RelV w' (okOf C.X π (O L)) π b (tmps.getD d undef)) →
      (∀ t, (∀ j, j < m → dstIs ops j t = false) → ∀ a, look envF t = some a → RelV w' (okOf C.X π (O L)) π a (tmps.getD t undef)) →
      Sat P f C.ds (.inRegion ops (Region.linearise.go .any ops fuel t listed []) :: k) tmps w' (APost C R) := by
    intro fuel
    induction fuel with
    | zero =>
      intro t listed L tmps w' π hL hlen _ _ _ _ _
      have := nodup_le hL.nd (b := List.range m) fun y hy => List.mem_range.2 (hL.lt y hy)
      rw [List.length_range] at this
      omega
    | succ fuel ih =>
      intro t listed L tmps w' π hL hlen hm hh hsz hdone hrest
      have hLm := nodup_le hL.nd (b := List.range m) fun y hy => List.mem_range.2 (hL.lt y hy)
      rw [List.length_range] at hLm
      by_cases hall : ∀ i, i < m → i ∈ L
      · have hml := nodup_le (List.nodup_range (n := m)) (b := L) fun y hy => hall y (List.mem_range.1 hy)
        rw [List.length_range] at hml
        have hfu : fuel + 1 = ops.size - m := by omega
        rw [hfu]
        have hg := go_chain hback hchain (ops.size - m) t listed (.inl (by omega)) (by omega) hL.size (fun i hi => by
          rw [hL.mem i hi, show ops.size - (ops.size - m) = m by omega]
          exact ⟨fun h => hL.lt i h, fun h => hall i h⟩)
        rw [hg, show ops.size - (ops.size - m) = m by omega]
        rw [hOF L hall] at hm hh hdone hrest
        refine hK π w' tmps hsz hm hh fun u a hu => ?_
        by_cases hd : ∃ j, j < m ∧ dstIs ops j u = true
        · obtain ⟨j, hj, hd⟩ := hd
          obtain ⟨o, ho, hdo⟩ := dstIs_iff.1 hd
          obtain ⟨b, hb, hr⟩ := hdone j (hall j hj) o ho u hdo
          rw [hu] at hb
          cases hb
          exact hr
        · have hd' : ∀ j, j < m → dstIs ops j u = false := fun j hj => by
            cases hx : dstIs ops j u with
            | false => rfl
            | true => exact absurd ⟨j, hj, hx⟩ hd
          exact hrest u hd' a hu
      · have hex : ∃ i, i ∈ Region.ready .any ops listed := by
          have hmin : ∀ q i, i ≤ q → i < m → i ∉ L → ∃ j, j < m ∧ j ∉ L ∧ ∀ j', j' < j → j' ∈ L := by
            intro q
            induction q with
            | zero => intro i hi hm hL; exact ⟨i, hm, hL, by omega⟩
            | succ q ihq =>
              intro i hi him hiL
              by_cases hx : ∃ j', j' < i ∧ j' ∉ L
              · obtain ⟨j', h1, h2⟩ := hx
                exact ihq j' (by omega) (by omega) h2
              · exact ⟨i, him, hiL, fun j' hj' => Decidable.byContradiction fun h2 => hx ⟨j', hj', h2⟩⟩
          obtain ⟨i, hi⟩ := Classical.not_forall.1 hall
          have hi1 : i < m := Classical.byContradiction fun h => hi fun h2 => absurd h2 h
          have hi2 : i ∉ L := fun h => hi fun _ => h
          obtain ⟨j, h1, h2, h3⟩ := hmin i i (Nat.le_refl _) hi1 hi2
          refine ⟨j, (ready_iff (by omega) hL).2 ⟨by omega, h2, ops[j], Array.getElem?_eq_getElem (by omega), fun e hee hb => ?_⟩⟩
          have hlt := backB_spec hback (Array.getElem?_eq_getElem (by omega : j < ops.size)) hee hb
          exact (hL.mem e.on (by omega)).2 (h3 e.on hlt)
        rw [go_succ]
        have hlen2 : 0 < (Region.ready .any ops listed).length := List.length_pos_of_mem hex.choose_spec
        have hmod : t % (Region.ready .any ops listed).length < (Region.ready .any ops listed).length := Nat.mod_lt _ hlen2
        rw [List.getElem?_eq_getElem hmod]
        simp only
        have hir : (Region.ready .any ops listed)[t % (Region.ready .any ops listed).length] ∈ Region.ready .any ops listed := List.getElem_mem hmod
        generalize (Region.ready .any ops listed)[t % (Region.ready .any ops listed).length] = i at hir
        have him : i < m := by
          apply Classical.byContradiction
          intro hge
          exact hall (all_listed (by omega) hsink hback hL (by omega) hchain hir).2
        obtain ⟨his, hiL, o, ho, hdeps⟩ := (ready_iff (by omega) hL).1 hir
        obtain ⟨ha1, ha2⟩ := hap i o him ho
        have hlooks : ∀ u ∈ o.looksAt ops, ∀ a, look envF u = some a → RelV w' (okOf C.X π (O L)) π a (tmps.getD u undef) := by
          intro u hu a hua
          by_cases hd : ∃ j, j < m ∧ dstIs ops j u = true
          · obtain ⟨j, hj, hd⟩ := hd
            have hw := ha2 j hj u hu hd
            obtain ⟨o2, ho2, e, hee, hb, heq⟩ := waitsB_spec hw
            rw [ho] at ho2
            cases ho2
            have hjL := listed_of hL (hdeps e hee hb)
            rw [heq] at hjL
            obtain ⟨oj, hoj, hdj⟩ := dstIs_iff.1 hd
            obtain ⟨b, hb2, hr⟩ := hdone j hjL oj hoj u hdj
            rw [hua] at hb2
            cases hb2
            exact hr
          · have hd' : ∀ j, j < m → dstIs ops j u = false := fun j hj => by
              cases hx : dstIs ops j u with
              | false => rfl
              | true => exact absurd ⟨j, hj, hx⟩ hd
            exact hrest u hd' a hua
        have hL' : Lst ops m (i :: L) (listed.setIfInBounds i true) := by
          refine ⟨by simpa using hL.size, fun j hj => ?_, List.nodup_cons.2 ⟨hiL, hL.nd⟩, fun j hj => ?_, fun j hj oj hoj e hee hb => ?_⟩
          · by_cases e : i = j
            · subst e
              rw [show (listed.setIfInBounds i true).getD i false = true by simp [hL.size, hj]]
              simp
            · rw [show (listed.setIfInBounds i true).getD j false = listed.getD j false by simp [Array.getElem?_setIfInBounds, e]]
              rw [hL.mem j hj, List.mem_cons]
              exact ⟨.inr, fun h => h.resolve_left fun h2 => e h2.symm⟩
          · rcases List.mem_cons.1 hj with rfl | hj
            · exact him
            · exact hL.lt j hj
          · rcases List.mem_cons.1 hj with rfl | hj
            · rw [ho] at hoj
              cases hoj
              exact List.mem_cons_of_mem _ (listed_of hL (hdeps e hee hb))
            · exact List.mem_cons_of_mem _ (hL.cl j hj oj hoj e hee hb)
        have hdeps2 : ∀ q, waitsB ops i q = true → q ∈ L := by
          intro q hq
          obtain ⟨o2, ho2, e, hee, hb, heq⟩ := waitsB_spec hq
          rw [ho] at ho2
          cases ho2
          rw [← heq]
          exact listed_of hL (hdeps e hee hb)
        have hcl2 : ∀ q ∈ L, ∀ q', waitsB ops q q' = true → q' ∈ L := by
          intro q hqL q' hq
          obtain ⟨o2, ho2, e, hee, hb, heq⟩ := waitsB_spec hq
          rw [← heq]
          exact hL.cl q hqL o2 ho2 e hee hb
        have next : ∀ (v : Value) (w2 : World) (π' : List Value), StepX C.X O m ops envF L i π w' π' w2 → PutOk n w2 (okOf C.X π' (O (i :: L))) π' envF o v → Sat P f C.ds (.inRegion ops (Region.linearise.go .any ops fuel (t / (Region.ready .any ops listed).length) (listed.setIfInBounds i true) []) :: k) (putT o.dst v tmps) w2 (APost C R) := by
          intro v w2 π' hst hput
          refine ih _ _ (i :: L) _ w2 π' hL' (by simp only [List.length_cons]; omega) hst.mem (hh.trans hst.hist) ?_ ?_ ?_
          · cases hd : o.dst with
            | none => exact hsz
            | some d => simpa [putT] using hsz
          · intro j hj0 oj hoj d hd
            rcases List.mem_cons.1 hj0 with e | hj
            · subst e
              rw [ho] at hoj
              cases hoj
              obtain ⟨h1, b, h2, h3⟩ := hput d hd
              refine ⟨b, h2, ?_⟩
              rw [hd, getD_putT, if_pos ⟨rfl, by rw [hsz]; exact h1⟩]
              exact h3
            · obtain ⟨b, h2, h3⟩ := hdone j hj oj hoj d hd
              refine ⟨b, h2, ?_⟩
              have hne : ∀ d', o.dst = some d' → d' ≠ d := by
                rintro d' hd' rfl
                have := ha1 j (hL.lt j hj) (fun e => hiL (e ▸ hj)) d' hd'
                rw [dstIs_iff.2 ⟨oj, hoj, hd⟩] at this
                cases this
              cases hdo : o.dst with
              | none => exact hst.keep _ _ _ h2 (.inl ⟨j, hj, oj, hoj, hd⟩) h3
              | some d' =>
                rw [getD_putT, if_neg fun hh => hne d' hdo hh.1]
                exact hst.keep _ _ _ h2 (.inl ⟨j, hj, oj, hoj, hd⟩) h3
          · intro u hu a hua
            have h3 := hst.keep _ _ _ hua (.inr hu) (hrest u hu a hua)
            cases hdo : o.dst with
            | none => exact h3
            | some d' =>
              rw [getD_putT, if_neg fun hh => ?_]
              · exact h3
              · have := hu i him
                rw [dstIs_iff.2 ⟨o, ho, by rw [hdo, hh.1]⟩] at this
                cases this
        rcases hops i o him ho L (fun q hq => hL.lt q hq) hiL hdeps2 hcl2 π w' tmps hsz hm hlooks with ⟨hw, hput⟩ | ⟨hw, ⟨v, w2, π', hrun, hst, hput⟩ | ⟨w2, π', hrun, hst, hput⟩ | ⟨g, args, hrun, hcall⟩⟩
        · obtain ⟨π', hst, hput⟩ := hput
          exact .opSkip ho hw (next undef w' π' hst hput)
        · exact .opVal ho hw hrun (next v w2 π' hst hput)
        · exact .opUnit ho hw hrun (next undef w2 π' hst hput)
        · exact .opCall ho hw hrun (hcall.mono fun e w2 ⟨v, π', h1, h2, h3⟩ => ⟨v, h1, next v w2 π' h2 h3⟩)
  refine .step (fun cs => step_region_draw) ?_
  simp only [Region.schedule, hmx, Bool.true_or, if_true]
  subst hO0
  refine key ops.size _ _ [] tmps0 _ π ⟨by simp, fun i hi => ?_, List.nodup_nil, by simp, by simp⟩ (by simp) htr1.mem (hist_tr hh htr1) hn (by simp) (fun u hu a hua => ?_)
  · simp [hi]
  · obtain ⟨b, hb, hle⟩ := henv u hu a hua
    exact rel_later hl1 (hle _ _ _ _ (he u b hb))

end
end Ab
set_option linter.unusedSimpArgs false
set_option linter.unusedVariables false
namespace Ab
open Go

section
variable {P : Program} {T : Tab} {f : FuncId} {fn : Func} {n m : Nat} {C : Cx} {R : AV → List (Option AObj) → Prop} {todo todo' k : List Item} {env env0 env' envF : Env} {objs objs' objs1 objs2 : List (Option AObj)} {nd : Prop} {ops : Array Oper} {l : List Oper} {K : Env → Prop} {X : Nat → Prop} {O : List Nat → List (Option AObj)}

theorem stepX_later {L : List Nat} {j : Nat} (hO : O (j :: L) = O L) {π : List Value} {w w2 : World} (hm : Mem X π (O L) w) (l : Later w w2) : StepX X O m ops envF L j π w π w2 := by
  have htr := l.tr hm
  refine ⟨by rw [hO]; exact htr.mem, by rw [hO]; exact htr.hist, fun t a v _ _ h => ?_⟩
  rw [hO]
  exact rel_later l h
/-- An operation that does not act. -/
theorem headX_of {j : Nat} {o : Oper} (hO : ∀ L, O (j :: L) = O L) (h : ∀ L, HeadOp P n X (O L) ops envF o) : HeadX P n X O m ops envF j o := by
  intro L _ _ _ _ π w tmps hs hm hl
  rcases h L π w tmps hs hm hl with ⟨hw, hp⟩ | ⟨hw, ⟨v, w2, hr, hlt, hp⟩ | ⟨g, args, hr, hc⟩⟩
  · exact .inl ⟨hw, π, stepX_later (hO L) hm (.refl w), by rw [hO]; exact hp⟩
  · exact .inr ⟨hw, .inl ⟨v, w2, π, hr, stepX_later (hO L) hm hlt, by rw [hO]; exact hp⟩⟩
  · refine .inr ⟨hw, .inr (.inr ⟨g, args, hr, hc.mono fun e w2 ⟨v, h1, h2, h3⟩ => ⟨v, π, h1, stepX_later (hO L) hm h2, by rw [hO]; exact h3⟩⟩)⟩
/-- A value that is made of others. -/
theorem headX_val {j : Nat} {o : Oper} {E : Env} {a : AV} {c : Option Prop} {d : Nat} (hT : TabOk P T) (hw : wantE ops (restr E (o.looksAt ops)) o = .yes) (hE : ∀ t ∈ o.looksAt ops, ∀ b, look E t = some b → look envF t = some b)
    (hs : ∀ L, estep T o (restr E (o.looksAt ops)) (O L) = some ⟨c, false, a, none, O L⟩) (hO : ∀ L, O (j :: L) = O L) (hc : cond c) (hdst : o.dst = some d) (hdn : Nat.blt d n = true) (hlook : look envF d = some a) : HeadX P n X O m ops envF j o := by
  intro L _ hjL _ _ π w tmps hsz hm hlk
  have he : EnvRel w (okOf X π (O L)) π (restr E (o.looksAt ops)) tmps := fun t b ht => by
    obtain ⟨h1, h2⟩ := look_restr ht
    exact hlk t h1 b (hE t h1 b h2)
  have hst := estep_ok (ds := []) hT hm he o
  rw [hs L] at hst
  obtain ⟨v, w', π', h1, h2, h3⟩ := hst hc
  refine .inr ⟨(wanted_of he).1 hw, .inl ⟨v, w', π', h1, ⟨by rw [hO]; exact h2.mem, by rw [hO]; exact h2.hist, fun t a u _ _ hu => by rw [hO]; exact h2.keep _ _ hu⟩, fun d' hd => ?_⟩⟩
  rw [hdst] at hd
  cases hd
  refine ⟨by simpa [Nat.blt_eq] using hdn, a, hlook, by rw [hO]; exact h3 rfl⟩

theorem held_eq {π : List Value} {objs : List (Option AObj)} {w : World} (hm : Mem X π objs w) {p i : Nat} {vh : Value} (hh : nth objs p = some (some (.hold (.gs i) vh))) : RelV w (okOf X π objs) π (.gs i) vh := by
  obtain ⟨h, hp, hr⟩ := hm.obj p _ hh
  cases hr with | hold h => exact h
theorem gs_unique {w : World} {ok : Nat → Prop} {π : List Value} {i : Nat} {v u : Value} (h : RelV w ok π (.gs i) v) (k : RelV w ok π (.gs i) u) : v = u := by
  cases h with
  | gs h => cases k with
    | gs k =>
      rw [h] at k
      cases k
      rfl

/-- A slice's header, that is held, is read. -/
theorem headX_ld {j q p i : Nat} {o : Oper} {E : Env} {d : Nat} {vh : Value} (hT : TabOk P T) (hw : wantE ops (restr E (o.looksAt ops)) o = .yes) (hE : ∀ t ∈ o.looksAt ops, ∀ b, look E t = some b → look envF t = some b)
    (hq : waitsB ops q j = true) (hp : ∀ L, q ∉ L → pstep T o (restr E (o.looksAt ops)) (O L) = .ok (.gs i)) (hh : ∀ L, q ∉ L → nth (O L) p = some (some (.hold (.gs i) vh))) (hfl : flat vh = true) (hO : ∀ L, O (j :: L) = O L)
    (hdst : o.dst = some d) (hdn : Nat.blt d n = true) (hlook : look envF d = some (.d (.v vh))) : HeadX P n X O m ops envF j o := by
  intro L _ hjL _ hcl π w tmps hsz hm hlk
  have hqL : q ∉ L := fun h => hjL (hcl q h j hq)
  have he : EnvRel w (okOf X π (O L)) π (restr E (o.looksAt ops)) tmps := fun t b ht => by
    obtain ⟨h1, h2⟩ := look_restr ht
    exact hlk t h1 b (hE t h1 b h2)
  have hdo := pstep_ok (ds := []) hT hm he o
  rw [hp L hqL] at hdo
  obtain ⟨v, d1, d2⟩ := hdo
  obtain rfl := gs_unique d1 (held_eq hm (hh L hqL))
  refine .inr ⟨(wanted_of he).1 hw, .inl ⟨v, w, π, d2 w (.refl w), stepX_later (hO L) hm (.refl w), fun d' hd => ?_⟩⟩
  rw [hdst] at hd
  cases hd
  exact ⟨by simpa [Nat.blt_eq] using hdn, _, hlook, .d (.v hfl)⟩

/-- A call that is lent objects; what another operation tells, that waits for it, is told behind it. -/
theorem headX_call {e q1 q2 late : Nat} {aL : AV} {envR E : Env} (ι : List Nat) {oe : Oper} {d : Tmp} {g : FuncId} {az bs : List AV} {objs0 : List (Option AObj)} {R' : AV → List (Option AObj) → Prop} {r0 : AV}
    (hE : ∀ t ∈ oe.looksAt ops, ∀ b, look E t = some b → look envF t = some b) (hF : envF = (late, aL) :: envR) (hdr : dropSE (memN ι) envR = envR) (hq1 : waitsB ops q1 q2 = true) (hq2 : waitsB ops q2 e = true) (hq1m : q1 < m)
    (hlate : dstIs ops q1 late = true) (honly : ((List.range ops.size).all fun q => q == q1 || !dstIs ops q late) = true)
    (hO0 : ∀ L, e ∉ L → q1 ∉ L → O L = objs') (hO1 : ∀ L, e ∉ L → q1 ∉ L → O (e :: L) = objs1)
    (hdst : oe.dst = some d) (hdn : Nat.blt d n = true) (hlook : look envF d = some r0) (hw : wantE ops (restr E (oe.looksAt ops)) oe = .yes) (hco : callOf (restr E (oe.looksAt ops)) oe = some (g, az)) (hen : ∀ args w, (callFunc g args).run P w = .ok (.enter g args) w)
    (hc : ACall P g bs objs0 R') (hs : subR (rho ι objs'.length) objs' ι objs0) (hv : VLs az (AV.rens (rho ι objs'.length) bs)) (hnd : nodupB ι = true) (hd : refsBs ι.length bs = true) (hro : refsO ι.length objs0 = true)
    (hr : ∀ r o, R' r o → r.ren (rho ι objs'.length) = r0 ∧ mergeO ι o objs' = objs1) : HeadX P n X O m ops envF e oe := by
  intro L hLm heL hdeps hcl π w tmps hsz hm hlk
  have hq1L : q1 ∉ L := fun h => heL (hcl q2 (hcl q1 h q2 hq1) e hq2)
  have hOL := hO0 L heL hq1L
  have hOj := hO1 L heL hq1L
  rw [hOL] at hm hlk
  have he : EnvRel w (okOf X π objs') π (restr E (oe.looksAt ops)) tmps := fun t b ht => by
    obtain ⟨h1, h2⟩ := look_restr ht
    exact hlk t h1 b (hE t h1 b h2)
  obtain ⟨vs, c1, c2⟩ := callOf_run he hco
  refine .inr ⟨(wanted_of he).1 hw, .inr (.inr ⟨g, vs.toArray, by rw [c2, hen], ?_⟩)⟩
  have hargs : RelVs w (okOf (lendX X π objs' ι) (lendP π ι) objs0) (lendP π ι) bs vs := by
    refine RelVs.unren (m := ι.length) (lend_keeps hm hs) ?_ bs hd (hv.rel c1)
    intro j' h' hj' hh'
    obtain ⟨i', hi'⟩ : ∃ i', nth ι j' = some i' := by
      rw [nth_eq]; exact ⟨ι[j'], List.getElem?_eq_getElem hj'⟩
    rw [rho_in hi'] at hh'
    rw [lendP_nth hi' (nth_lt hh')]
    exact hh'
  rcases hc _ _ w vs (lend_mem hm hs hnd hro) hargs with ⟨_, hcl2⟩ | ⟨v, w', hcl2, _⟩
  · refine hcl2.mono ?_
    rintro e2 w2 ⟨v, r, o, π', rfl, hR, hm', hrel, hhist⟩
    have L2 := lended hm hs hnd hm' hhist
    obtain ⟨e3, e4⟩ := hr r o hR
    have hmem := L2.mem
    have hhst := L2.hist
    have hkp := L2.keep
    have hbk := L2.back _ _ hrel
    rw [e4] at hmem hhst hkp hbk
    rw [e3] at hbk
    refine ⟨v, mergeP ι π' π, rfl, ⟨by rw [hOj]; exact hmem, by rw [hOL, hOj]; exact hhst, fun t a u ht hlv hau => ?_⟩, fun d' hd' => ?_⟩
    · rw [hOL] at hau
      have htl : late ≠ t := by
        rintro rfl
        rcases hlv with ⟨q, hqL, o', ho', hd'⟩ | hfree
        · have hqs := (Array.getElem?_eq_some_iff.1 ho').1
          have h1 := List.all_eq_true.1 honly q (List.mem_range.2 hqs)
          rw [dstIs_iff.2 ⟨o', ho', hd'⟩] at h1
          simp only [Bool.not_true, Bool.or_false, beq_iff_eq] at h1
          exact hq1L (h1 ▸ hqL)
        · rw [hfree q1 hq1m] at hlate
          cases hlate
      rw [hF, look_cons, if_neg htl] at ht
      have := hkp a u hau
      rw [dropSE_look hdr ht] at this
      rw [hOj]
      exact this
    · rw [hdst] at hd'
      cases hd'
      exact ⟨by simpa [Nat.blt_eq] using hdn, r0, hlook, by rw [hOj]; exact hbk⟩
  · rw [hen] at hcl2
    cases hcl2

theorem dropEnv_look {i : Nat} {env : Env} (h : dropEnv i env = env) {t : Tmp} {a : AV} (ht : look env t = some a) : a.drop i = a := by
  have := look_dropEnv i env t
  rw [h, ht] at this
  simpa using this.symm

/-- A slice whose header is held is appended to. -/
theorem headX_app {j p i late tv : Nat} {o : Oper} {E' envR : Env} {c : Option Prop} {vh : Value} (hT : TabOk P T) (hw : wantE ops E' o = .yes) (hE : ∀ t b, look E' t = some b → t ∈ o.looksAt ops ∧ ((t = tv ∧ b = .gs i) ∨ look envF t = some b)) (htv : look envF tv = some (.d (.v vh)))
    (hF : envF = (late, .gs i) :: envR) (hdr : dropEnv i envR = envR) (hjm : j < m) (hoj : ops[j]? = some o) (honly : ((List.range ops.size).all fun q => q == j || !dstIs ops q late) = true)
    (hO1 : ∀ L, j ∉ L → (∀ q, waitsB ops j q = true → q ∈ L) → (∀ q ∈ L, ∀ q', waitsB ops q q' = true → q' ∈ L) → O L = objs1) (hO2 : ∀ L, O (j :: L) = objs2) (hh : nth objs1 p = some (some (.hold (.gs i) vh)))
    (hs : estep T o E' objs1 = some ⟨c, false, .gs i, some i, objs2⟩) (hc : cond c) (hdst : o.dst = some late) (hdn : Nat.blt late n = true) : HeadX P n X O m ops envF j o := by
  intro L _ hjL hdeps hcl π w tmps hsz hm hlk
  have hOL := hO1 L hjL hdeps hcl
  have hOj := hO2 L
  rw [hOL] at hm hlk
  have hheld := held_eq hm hh
  have he : EnvRel w (okOf X π objs1) π E' tmps := fun t b ht => by
    obtain ⟨h1, h2⟩ := hE t b ht
    rcases h2 with ⟨rfl, rfl⟩ | h2
    · have := hlk t h1 _ htv
      cases this with
      | d h => cases h with | v _ => exact hheld
    · exact hlk t h1 b h2
  have hst := estep_ok (ds := []) hT hm he o
  rw [hs] at hst
  obtain ⟨v, w', π', h1, h2, h3⟩ := hst hc
  refine .inr ⟨(wanted_of he).1 hw, .inl ⟨v, w', π', h1, ⟨by rw [hOj]; exact h2.mem, by rw [hOL, hOj]; exact h2.hist, fun t a u ht hlv hu => ?_⟩, fun d' hd => ?_⟩⟩
  · rw [hOL] at hu
    have htl : late ≠ t := by
      rintro rfl
      rcases hlv with ⟨q, hqL, o', ho', hd'⟩ | hfree
      · have hqs := (Array.getElem?_eq_some_iff.1 ho').1
        have h4 := List.all_eq_true.1 honly q (List.mem_range.2 hqs)
        rw [dstIs_iff.2 ⟨o', ho', hd'⟩] at h4
        simp only [Bool.not_true, Bool.or_false, beq_iff_eq] at h4
        exact hjL (h4 ▸ hqL)
      · have := hfree j hjm
        rw [dstIs_iff.2 ⟨o, hoj, hdst⟩] at this
        cases this
    rw [hF, look_cons, if_neg htl] at ht
    have := h2.keep _ _ hu
    rw [keepQ, dropEnv_look hdr ht] at this
    rw [hOj]
    exact this
  · rw [hdst] at hd
    cases hd
    exact ⟨by simpa [Nat.blt_eq] using hdn, .gs i, by rw [hF, look_cons, if_pos rfl], by rw [hOj]; exact h3 rfl⟩

/-- The region, its quiet operations shown together, those that act one by one. -/
theorem sat_drawX (m : Nat) (A : Acts) (O : List Nat → List (Option AObj)) (E : Env) {id : Nat} {objsF : List (Option AObj)} (hT : TabOk P T) (hf : P.funcs[f]? = some fn) (hmx : P.follows .mixedOrders = true) (h : srun T n fn.results.toList 2000 True todo env objs = .draw nd id ops k env' objs') (hn : nd)
    (hB : drawB ops m = true) (hsee : seeB ops m A = true) (hO0 : O [] = objs') (hOF : ∀ L, (∀ i, i < m → i ∈ L) → O L = objsF) (hOj : ∀ j L, actB A j = false → O (j :: L) = O L)
    (hAm : (A.all fun x => Nat.blt x.1 m) = true) (hD : ∀ L, DSat P n C.X (O L) ops (fun x => x = E) (quietOps ops m A) env')
    (hA : ∀ x ∈ A, ∃ oe, ops[x.1]? = some oe ∧ oe.dst = x.2.map (·.1) ∧ HeadX P n C.X O m ops (actE A ++ E) x.1 oe)
    (hk : ASat P f n C (.inRegion ops (List.range' m (ops.size - m)) :: k) (actE A ++ E) objsF R) : ASat P f n C todo env objs R := by
  have hq : ∀ {j : Nat} {o : Oper}, j < m → actB A j = false → ops[j]? = some o → o ∈ quietOps ops m A := by
    intro j o hj hb ho
    unfold quietOps
    rw [List.mem_filterMap]
    exact ⟨j, List.mem_filter.2 ⟨List.mem_range.2 hj, by rw [hb]; rfl⟩, ho⟩
  have hns : ∀ {j : Nat} {o : Oper}, j < m → actB A j = false → ops[j]? = some o → ∀ x ∈ actE A, x.1 ∉ o.looksAt ops ∧ o.dst ≠ some x.1 := by
    intro j o hj hb ho x hx
    have h1 := List.all_eq_true.1 hsee j (List.mem_range.2 hj)
    rw [hb, ho] at h1
    have h1' : ((actE A).all fun x => !(o.looksAt ops).contains x.1 && o.dst != some x.1) = true := by simpa only [Bool.false_or] using h1
    have h2 := List.all_eq_true.1 h1' x hx
    simpa using h2
  suffices hcc : Cont P f n C R (.draw nd id ops k env' objs') from (run_sound hT hf 2000 True todo env objs (by rw [h]; exact hcc)).2
  refine ⟨hn, drawn_soundX hmx hB (envF := actE A ++ E) ?_ hO0 hOF ?_ hk⟩
  · intro j o hj ho
    cases hb : actB A j with
    | false =>
      refine headX_of (fun L => hOj j L hb) fun L => ?_
      obtain ⟨E0, a1, a2, a3, rfl⟩ := hD L
      have hn2 := hns hj hb ho
      refine headOp_env (fun t ht => look_skip fun x hx e => (hn2 x hx).1 (e ▸ ht)) (fun d hd => look_skip fun x hx e => (hn2 x hx).2 (e ▸ hd)) (a3 o (hq hj hb ho))
    | true =>
      obtain ⟨x, hx, hxe⟩ := List.any_eq_true.1 hb
      obtain rfl : x.1 = j := Nat.eq_of_beq_eq_true hxe
      obtain ⟨oe, h1, _, h3⟩ := hA x hx
      rw [ho] at h1
      cases h1
      exact h3
  · intro t ht a ha
    have hne : ∀ x ∈ actE A, x.1 ≠ t := by
      rintro x hx rfl
      obtain ⟨y, hy, hyx⟩ := List.mem_filterMap.1 hx
      obtain ⟨oe, h1, h2, _⟩ := hA y hy
      rw [hyx] at h2
      have hym := List.all_eq_true.1 hAm y hy
      have := ht y.1 (by simpa [Nat.blt_eq] using hym)
      rw [dstIs_iff.2 ⟨oe, h1, by simpa using h2⟩] at this
      cases this
    rw [look_skip hne] at ha
    obtain ⟨E0, a1, a2, a3, rfl⟩ := hD []
    refine a1 t (fun o ho hd => ?_) a ha
    unfold quietOps at ho
    rw [List.mem_filterMap] at ho
    obtain ⟨j, hj, ho⟩ := ho
    have hj := List.mem_range.1 (List.mem_filter.1 hj).1
    have := ht j hj
    rw [dstIs_iff.2 ⟨o, ho, hd⟩] at this
    cases this

/-- The objects ahead of a call, behind it, and behind an append. -/
def twoO (e9 e7 : Nat) (o0 o1 o2 : List (Option AObj)) (L : List Nat) : List (Option AObj) := if e9 ∈ L then o2 else if e7 ∈ L then o1 else o0
theorem twoO_P {p : List (Option AObj) → Prop} {e9 e7 : Nat} {o0 o1 o2 : List (Option AObj)} {L : List Nat} (h0 : p o0) (h1 : p o1) (h : e9 ∉ L) : p (twoO e9 e7 o0 o1 o2 L) := by
  rw [twoO, if_neg h]
  split
  · exact h1
  · exact h0
theorem twoO_Q {p : List (Option AObj) → Prop} {e9 e7 : Nat} {o0 o1 o2 : List (Option AObj)} {L : List Nat} (h0 : p o0) (h1 : p o1) (h2 : p o2) : p (twoO e9 e7 o0 o1 o2 L) := by
  rw [twoO]
  split
  · exact h2
  · split
    · exact h1
    · exact h0
theorem twoO_ne {e9 e7 j : Nat} {o0 o1 o2 : List (Option AObj)} {L : List Nat} (h9 : j ≠ e9) (h7 : j ≠ e7) : twoO e9 e7 o0 o1 o2 (j :: L) = twoO e9 e7 o0 o1 o2 L := by
  simp only [twoO, List.mem_cons, Ne.symm h9, Ne.symm h7, false_or]
theorem sat_drawX3 (m e9 e7 : Nat) (A : Acts) (objs1 objs2 : List (Option AObj)) (E : Env) {id : Nat} (hT : TabOk P T) (hf : P.funcs[f]? = some fn) (hmx : P.follows .mixedOrders = true) (h : srun T n fn.results.toList 2000 True todo env objs = .draw nd id ops k env' objs') (hn : nd)
    (hB : drawB ops m = true) (hsee : seeB ops m A = true) (h9m : Nat.blt e9 m = true) (h9 : actB A e9 = true) (h7 : actB A e7 = true)
    (hAm : (A.all fun x => Nat.blt x.1 m) = true) (hD0 : DSat P n C.X objs' ops (fun x => x = E) (quietOps ops m A) env') (hD1 : DSat P n C.X objs1 ops (fun x => x = E) (quietOps ops m A) env') (hD2 : DSat P n C.X objs2 ops (fun x => x = E) (quietOps ops m A) env')
    (hA : ∀ x ∈ A, ∃ oe, ops[x.1]? = some oe ∧ oe.dst = x.2.map (·.1) ∧ HeadX P n C.X (twoO e9 e7 objs' objs1 objs2) m ops (actE A ++ E) x.1 oe)
    (hk : ASat P f n C (.inRegion ops (List.range' m (ops.size - m)) :: k) (actE A ++ E) objs2 R) : ASat P f n C todo env objs R := by
  refine sat_drawX m A (twoO e9 e7 objs' objs1 objs2) E hT hf hmx h hn hB hsee (by simp [twoO]) (fun L hL => by rw [twoO, if_pos (hL e9 (by simpa [Nat.blt_eq] using h9m))]) (fun j L hj => ?_) hAm (fun L => ?_) hA hk
  · refine twoO_ne ?_ ?_
    · rintro rfl
      rw [h9] at hj
      cases hj
    · rintro rfl
      rw [h7] at hj
      cases hj
  · exact twoO_Q (p := fun o => DSat P n C.X o ops (fun x => x = E) (quietOps ops m A) env') hD0 hD1 hD2
theorem headX_ld3 {j e9 e7 p i : Nat} {o : Oper} {E : Env} {d : Nat} {vh : Value} {objs0 : List (Option AObj)} (hT : TabOk P T) (hw : wantE ops (restr E (o.looksAt ops)) o = .yes) (hE : ∀ t ∈ o.looksAt ops, ∀ b, look E t = some b → look envF t = some b)
    (hq : waitsB ops e9 j = true) (hp0 : pstep T o (restr E (o.looksAt ops)) objs0 = .ok (.gs i)) (hp1 : pstep T o (restr E (o.looksAt ops)) objs1 = .ok (.gs i)) (hh0 : nth objs0 p = some (some (.hold (.gs i) vh))) (hh1 : nth objs1 p = some (some (.hold (.gs i) vh))) (hfl : flat vh = true) (hj9 : j ≠ e9) (hj7 : j ≠ e7)
    (hdst : o.dst = some d) (hdn : Nat.blt d n = true) (hlook : look envF d = some (.d (.v vh))) : HeadX P n X (twoO e9 e7 objs0 objs1 objs2) m ops envF j o :=
  headX_ld hT hw hE hq (fun L hL => twoO_P (p := fun ob => pstep T o (restr E (o.looksAt ops)) ob = .ok (.gs i)) hp0 hp1 hL) (fun L hL => twoO_P (p := fun ob => nth ob p = some (some (.hold (.gs i) vh))) hh0 hh1 hL) hfl (fun L => twoO_ne hj9 hj7) hdst hdn hlook
theorem headX_val3 {j e9 e7 : Nat} {o : Oper} {E : Env} {a : AV} {c : Option Prop} {d : Nat} {objs0 : List (Option AObj)} (hT : TabOk P T) (hw : wantE ops (restr E (o.looksAt ops)) o = .yes) (hE : ∀ t ∈ o.looksAt ops, ∀ b, look E t = some b → look envF t = some b)
    (hs0 : estep T o (restr E (o.looksAt ops)) objs0 = some ⟨c, false, a, none, objs0⟩) (hs1 : estep T o (restr E (o.looksAt ops)) objs1 = some ⟨c, false, a, none, objs1⟩) (hs2 : estep T o (restr E (o.looksAt ops)) objs2 = some ⟨c, false, a, none, objs2⟩) (hj9 : j ≠ e9) (hj7 : j ≠ e7) (hc : cond c) (hdst : o.dst = some d) (hdn : Nat.blt d n = true) (hlook : look envF d = some a) : HeadX P n X (twoO e9 e7 objs0 objs1 objs2) m ops envF j o :=
  headX_val hT hw hE (fun L => twoO_Q (p := fun ob => estep T o (restr E (o.looksAt ops)) ob = some ⟨c, false, a, none, ob⟩) hs0 hs1 hs2) (fun L => twoO_ne hj9 hj7) hc hdst hdn hlook
theorem headX_app3 {j e8 e7 p i late tv : Nat} {o : Oper} {E' envR : Env} {c : Option Prop} {vh : Value} {objs0 : List (Option AObj)} (hT : TabOk P T) (hw : wantE ops E' o = .yes) (hE : ∀ t b, look E' t = some b → t ∈ o.looksAt ops ∧ ((t = tv ∧ b = .gs i) ∨ look envF t = some b)) (htv : look envF tv = some (.d (.v vh)))
    (hF : envF = (late, .gs i) :: envR) (hdr : dropEnv i envR = envR) (hjm : Nat.blt j m = true) (hoj : ops[j]? = some o) (honly : ((List.range ops.size).all fun q => q == j || !dstIs ops q late) = true)
    (h98 : waitsB ops j e8 = true) (h87 : waitsB ops e8 e7 = true) (hh : nth objs1 p = some (some (.hold (.gs i) vh)))
    (hs : estep T o E' objs1 = some ⟨c, false, .gs i, some i, objs2⟩) (hc : cond c) (hdst : o.dst = some late) (hdn : Nat.blt late n = true) : HeadX P n X (twoO j e7 objs0 objs1 objs2) m ops envF j o :=
  headX_app hT hw hE htv hF hdr (by simpa [Nat.blt_eq] using hjm) hoj honly (fun L h1 h2 h3 => by rw [twoO, if_neg h1, if_pos (h3 e8 (h2 e8 h98) e7 h87)]) (fun L => by rw [twoO, if_pos (List.mem_cons_self ..)]) hh hs hc hdst hdn
theorem headX_call3 {e e9 e8 late : Nat} {aL : AV} {envR E : Env} (ι : List Nat) {oe : Oper} {d : Tmp} {g : FuncId} {az bs : List AV} {objs0 : List (Option AObj)} {R' : AV → List (Option AObj) → Prop} {r0 : AV}
    (hE : ∀ t ∈ oe.looksAt ops, ∀ b, look E t = some b → look envF t = some b) (hF : envF = (late, aL) :: envR) (hdr : dropSE (memN ι) envR = envR) (h98 : waitsB ops e9 e8 = true) (h87 : waitsB ops e8 e = true) (h9m : Nat.blt e9 m = true)
    (hlate : dstIs ops e9 late = true) (honly : ((List.range ops.size).all fun q => q == e9 || !dstIs ops q late) = true) (hne : e ≠ e9)
    (hdst : oe.dst = some d) (hdn : Nat.blt d n = true) (hlook : look envF d = some r0) (hw : wantE ops (restr E (oe.looksAt ops)) oe = .yes) (hco : callOf (restr E (oe.looksAt ops)) oe = some (g, az)) (hen : ∀ args w, (callFunc g args).run P w = .ok (.enter g args) w)
    (hc : ACall P g bs objs0 R') (hs : subR (rho ι objs'.length) objs' ι objs0) (hv : VLs az (AV.rens (rho ι objs'.length) bs)) (hnd : nodupB ι = true) (hd : refsBs ι.length bs = true) (hro : refsO ι.length objs0 = true)
    (hr : ∀ r o, R' r o → r.ren (rho ι objs'.length) = r0 ∧ mergeO ι o objs' = objs1) : HeadX P n X (twoO e9 e objs' objs1 objs2) m ops envF e oe :=
  headX_call ι hE hF hdr h98 h87 (by simpa [Nat.blt_eq] using h9m) hlate honly (fun L h1 h2 => by rw [twoO, if_neg h2, if_neg h1]) (fun L h1 h2 => by rw [twoO, if_neg (by rw [List.mem_cons]; exact fun h => h.elim (fun h => hne h.symm) h2), if_pos (List.mem_cons_self ..)]) hdst hdn hlook hw hco hen hc hs hv hnd hd hro hr

/-- A slice's header is held: which it is. -/
theorem sat_holdO (i : Nat) {e : TypeId} {s : Nat} {xs : List D} {rd : Nat → D} (ho : nth objs i = some (some (.grow e s xs rd))) (k : ∀ v, flat v = true → ASat P f n C todo env (objs ++ [some (.hold (.gs i) v)]) R) : ASat P f n C todo env objs R := by
  intro π w tmps hn hm hh he
  obtain ⟨v, hp, hrel⟩ := hm.obj i _ ho
  have hv : RelV w (okOf C.X π objs) π (.gs i) v := by
    cases hrel with
    | gnil => exact .gs hp
    | grow _ _ _ _ _ _ _ _ => exact .gs hp
  have hfl : flat v = true := by cases hrel <;> rfl
  have htr : Tr C.X π objs w none (π ++ [.tuple #[]]) (objs ++ [some (.hold (.gs i) v)]) w :=
    tr_newW hm rfl rfl ⟨rfl, Nat.le_refl _⟩ (Nat.le_refl _) (fun _ _ => rfl) _ _ (by intro b e; cases e)
      (.hold (hv.mono (new_keepsW (fun _ _ => rfl) _ _ hm.len (by intro b e; cases e)) (new_hand _)))
  exact k v hfl _ w tmps hn htr.mem (hist_tr hh htr) (env_tr he htr)
end
end Ab
