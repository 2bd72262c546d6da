/- A part of the proof: Y4. -/
import Derived.Test.YtcenfhcemmlaeaaGreatDoorP19
set_option linter.unusedVariables false
set_option linter.unusedSimpArgs false
namespace Go.Proofs.YtcenfhcemmlaeaaGreatDoor
open Go Ab
set_option maxRecDepth 100000
set_option linter.unusedVariables false
set_option linter.unusedSimpArgs false
set_option maxHeartbeats 4000000

theorem txt_mk {t : List UInt8} (h : mkok t = true) : txt t.length (mkN t) = t := by
  simp only [mkok, Bool.and_eq_true, List.all_eq_true] at h
  refine List.ext_getElem (txt_len _ _) fun i h1 h2 => ?_
  have h3 := h.2 _ (List.getElem_mem h2)
  have e : (mkN t).testBit (t.length - 1 - i) = (t[i].toNat == 49) := by
    rw [mkN, ofB_tb, show decide (t.length - 1 - i < t.length) = true from decide_eq_true (by omega), Bool.true_and, show t.length - 1 - (t.length - 1 - i) = i by omega, getD_at h2]
  simp only [txt, List.getElem_map, List.getElem_range, e]
  simp only [is01, Bool.or_eq_true, beq_iff_eq] at h3
  refine UInt8.toNat_inj.1 ?_
  rcases h3 with h3 | h3 <;> rw [h3] <;> rfl
theorem valL_at (l : List Nd) (st inp : List (Nat × Nat)) : ∀ n j, j < n → nm (valL l st inp n) j = val1 l st inp j (valL l st inp j)
  | 0, j, h => by omega
  | n + 1, j, h => by
    obtain ⟨a1, a2⟩ := nm_app (x := val1 l st inp n (valL l st inp n)) (valL_len l st inp n)
    rw [valL]
    rcases Nat.lt_or_ge j n with h2 | h2
    · rw [a1 j h2]
      exact valL_at l st inp n j h2
    · obtain rfl : j = n := by omega
      exact a2
theorem allL_cnt (l : List Nd) (op : List UInt8) : ∀ m i, i < (allL l op m).length → cnt l op ((allL l op m).getD i 0 - 1).toNat = i
  | 0, i, h => by simp [allL] at h
  | m + 1, i, h => by
    rw [allL_succ] at h ⊢
    by_cases ho : (nd l m).op = op
    · rw [if_pos ho] at h ⊢
      rcases Nat.lt_or_ge i (allL l op m).length with h2 | h2
      · rw [show (allL l op m ++ [(m : Int) + 1]).getD i 0 = (allL l op m).getD i 0 by simp [List.getD_eq_getElem?_getD, List.getElem?_append_left h2]]
        exact allL_cnt l op m i h2
      · have : i = (allL l op m).length := by simp at h; omega
        subst this
        rw [show (allL l op m ++ [(m : Int) + 1]).getD (allL l op m).length 0 = (m : Int) + 1 by simp [List.getD_eq_getElem?_getD]]
        rw [show ((m : Int) + 1 - 1).toNat = m by omega]
        rfl
    · rw [if_neg ho, List.append_nil] at h ⊢
      exact allL_cnt l op m i h
theorem const_val {l : List Nd} (ty : Ty l) {st inp : List (Nat × Nat)} {i : Nat} (hi : i < l.length) (hc : (nd l i).op = kConst) : nm (valL l st inp l.length) i = ((nd l i).t.length, mkN (nd l i).t) ∧ mkok (nd l i).t = true := by
  have hln := ln_succ l i
  obtain ⟨m1, -⟩ := const_mk ty (id := (i : Int) + 1) (by omega) (by omega) (by rw [hln]; exact hc)
  rw [hln] at m1
  refine ⟨?_, m1⟩
  rw [valL_at _ _ _ _ _ hi, val1, if_neg (by rw [hc]; decide), if_neg (by rw [hc]; decide), if_neg (by rw [hc]; decide), opV, if_pos hc]
theorem state_val {l : List Nd} {st inp : List (Nat × Nat)} {i : Nat} (hi : i < (allL l kState l.length).length) : nm (valL l st inp l.length) ((allL l kState l.length).getD i 0 - 1).toNat = nm st i := by
  obtain ⟨h1, h2, h3⟩ := mem_allL (getD_mem (i := i) (l := allL l kState l.length) 0 hi)
  have h3' : (nd l ((allL l kState l.length).getD i 0 - 1).toNat).op = kState := h3
  rw [valL_at _ _ _ _ _ (by omega), val1, if_neg (by rw [h3']; decide), if_pos h3', allL_cnt _ _ _ _ hi]
theorem rSame_self {p : Nat × Nat} (h : OkN p) : ACall Tryz.prog 27 [.d (vN p.1 p.2), .d (vN p.1 p.2)] [] (fun r o => r = vB true) := by
  have := rSameN_call p.1 p.2 p.1 p.2 h.1 h.1 (by have := h.2; omega)
  rwa [decide_eq_true (rfl : p.1 = p.1), decide_eq_true (rfl : p.2 = p.2)] at this
theorem nm_nextL {l : List Nd} {v : List (Nat × Nat)} {i : Nat} (hi : i < (allL l kState l.length).length) : nm (nextL l v) i = nm v (ofV l kNext ((allL l kState l.length).getD i 0) - 1).toNat := by
  rw [getD_at hi]
  simp [nm, nextL, hi]

theorem WordStays_law (l : List Nd) (st inp : List Vr) (hm : MdB l) (hl : l.length < 2000000000000) (hq : ∀ a ∈ st, QVr a) (hi : ∀ a ∈ inp, QVr a) : ACall Tryz.prog 6 [.d (eBt l), .d (eRow st), .d (eRow inp)] [] (fun r o => r = vB true) := by
  refine acall_enter Tryz.func6 rfl rfl (Nat.le_of_ble_eq_true rfl) fun C hC hCl hDs => ?_
  refine sat_call tabOk Tryz.func6 rfl trivial shown15_call (.refl _) rfl ⟨_, rfl⟩ (by rintro r o rfl; rfl) ?_
  rintro _ o rfl
  refine sat_call tabOk Tryz.func6 rfl trivial (typed14_call l hm 40 (by decide) hl) (.refl _) rfl ⟨_, rfl⟩ (by rintro r o ⟨b, rfl, -⟩; rfl) ?_
  rintro r o ⟨b, rfl, hb⟩
  refine sat_branch tabOk Tryz.func6 rfl trivial (fun h1 => ?_) (fun h1 => ?_)
  · refine sat_branch tabOk Tryz.func6 rfl trivial (fun _ => ?_) (fun h => by cases h)
    exact sat_ret tabOk Tryz.func6 rfl trivial rfl
  have ty := (hb (by simpa using h1)).2
  have hlb := ty.small
  refine sat_call tabOk Tryz.func6 rfl trivial (Few_call [st, inp] 2 (by decide)) ⟨VLe.eL_c (CLes.refl _), .refl _, trivial⟩ rfl ⟨_, rfl⟩ (by rintro r o ⟨b, rfl, -⟩; rfl) ?_
  rintro r o ⟨b2, rfl, -⟩
  refine sat_branch tabOk Tryz.func6 rfl trivial (fun h2 => ?_) (fun h2 => ?_)
  · exact sat_ret tabOk Tryz.func6 rfl trivial rfl
  cases hF : (fitB l kState st && fitB l kInput inp) with
  | false =>
    refine sat_call tabOk Tryz.func6 rfl trivial (Values_no l hm ty st inp hq hi hF) (.refl _) rfl ⟨_, rfl⟩ (by rintro r o rfl; rfl) ?_
    rintro _ o rfl
    refine sat_call tabOk Tryz.func6 rfl trivial (Step_no l hm ty st inp hq hi hF) (.refl _) rfl ⟨_, rfl⟩ (by rintro r o rfl; rfl) ?_
    rintro _ o rfl
    refine sat_branch tabOk Tryz.func6 rfl trivial (fun _ => ?_) (fun h => by cases h)
    refine sat_branch tabOk Tryz.func6 rfl trivial (fun _ => ?_) (fun h => by cases h)
    refine sat_branch tabOk Tryz.func6 rfl trivial (fun _ => ?_) (fun h => by cases h)
    exact sat_ret tabOk Tryz.func6 rfl trivial rfl
  | true =>
    rw [Bool.and_eq_true] at hF
    obtain ⟨e1, f1⟩ := fit_nums hq hF.1
    obtain ⟨e2, f2⟩ := fit_nums hi hF.2
    have hv := valL_ok ty f1 f2 l.length (Nat.le_refl _)
    have c1 := Values_ok l hm ty _ _ f1 f2
    have c2 := Step_ok l hm ty _ _ f1 f2
    have hns := fit_ns f1
    have hvs := vok_ns ty hv
    have hstl : (numsOf st).length = (allL l kState l.length).length := f1.len
    have hcv := fun i (hi : i < l.length) hc => const_val (st := numsOf st) (inp := numsOf inp) ty hi hc
    have hsv := fun i hi => state_val (l := l) (st := numsOf st) (inp := numsOf inp) (i := i) hi
    rw [e1, e2, eRow_nums, eRow_nums]
    generalize valL l (numsOf st) (numsOf inp) l.length = v at *
    generalize numsOf st = s at *
    have hnl := nextL_len l v
    have hnx := fun i hi => nm_nextL (l := l) (v := v) (i := i) hi
    have hall := @next_line l ty
    have hmem := fun i (hi : i < (allL l kState l.length).length) => mem_allL (getD_mem (i := i) (l := allL l kState l.length) 0 hi)
    have hal := allL_len l kState l.length
    unfold stepA at c2
    generalize nextL l v = nx at *
    generalize flagL l kBad v l.length = b1 at *
    generalize flagL l kConstraint v l.length = b3 at *
    have hvl := hv.len
    refine sat_call tabOk Tryz.func6 rfl trivial c1 (.refl _) rfl ⟨_, rfl⟩ (by rintro r o rfl; rfl) ?_
    rintro _ o rfl
    refine sat_call tabOk Tryz.func6 rfl trivial c2 (.refl _) rfl ⟨_, rfl⟩ (by rintro r o rfl; rfl) ?_
    rintro _ o rfl
    refine sat_branch tabOk Tryz.func6 rfl trivial (fun h => by cases h) (fun _ => ?_)
    refine sat_branch tabOk Tryz.func6 rfl trivial (fun h => by cases h) (fun _ => ?_)
    refine sat_call tabOk Tryz.func6 rfl trivial (all14_call l kState hlb) (.refl _) rfl ⟨_, rfl⟩ (by rintro r o rfl; rfl) ?_
    rintro _ o rfl
    generalize allL l kState l.length = al at *
    refine sat_branch tabOk Tryz.func6 rfl trivial (fun h3 => ?_) (fun _ => ?_)
    · have h3 : (((nx.map fun p : Nat × Nat => vN p.1 p.2).length : Int) != ((al.map eI).length : Int)) = true := h3
      rw [List.length_map, List.length_map, hnl] at h3
      simp at h3
    refine sat_branch tabOk Tryz.func6 rfl trivial (fun h3 => ?_) (fun _ => ?_)
    · have h3 : (((v.map fun p : Nat × Nat => vN p.1 p.2).length : Int) != ((l.map eNd).length : Int)) = true := h3
      rw [List.length_map, List.length_map, hvl] at h3
      simp at h3
    refine sat_branch tabOk Tryz.func6 rfl trivial (fun h3 => ?_) (fun _ => ?_)
    · have h3 : (((s.map fun p : Nat × Nat => vN p.1 p.2).length : Int) != ((al.map eI).length : Int)) = true := h3
      rw [List.length_map, List.length_map, hstl] at h3
      simp at h3
    refine sat_stop tabOk Tryz.func6 rfl trivial ?_
    refine sat_while (α := Nat) (fun i => [(1, .d (eNums s)), (3, .ptr 0 0), (7, vB true), (8, .d (eNums v)), (10, .d (eNums nx)), (13, .d (eIs al)), (14, vI .i64 (i : Int))]) (fun i => [some (bBt l)]) (fun i => i ≤ al.length) (fun i => al.length - i) 0 (Nat.zero_le _) ?_ ?_
    · exact fun h => sat_le h hC hCl ⟨⟨_, rfl, .refl _⟩, ⟨_, rfl, .refl _⟩, ⟨_, rfl, .refl _⟩, ⟨_, rfl, .refl _⟩, ⟨_, rfl, .refl _⟩, ⟨_, rfl, .refl _⟩, ⟨_, rfl, .refl _⟩, trivial⟩ ⟨.refl _, trivial⟩ rfl rfl (Nat.zero_le _)
    rintro i hi2 ih
    refine sat_branch tabOk Tryz.func6 rfl trivial (fun hb => ?_) (fun hb => ?_) <;> simp only [List.length_map, decide_eq_true_eq, decide_eq_false_iff_not] at hb
    · have hlt : i < al.length := by omega
      obtain ⟨m1, m2, m3⟩ := hmem i hlt
      obtain ⟨a1, a2, a3, a4⟩ := hall (getD_mem (i := i) (l := al) 0 hlt)
      have hnxi := hnx i hlt
      have hsvi := hsv i hlt
      have w1 : IntKind.i64.wrap (ofV l kNext (al.getD i 0) - 1) = ofV l kNext (al.getD i 0) - 1 := wrap_id (by omega) (by omega)
      have w2 : IntKind.i64.wrap (al.getD i 0 - 1) = al.getD i 0 - 1 := wrap_id (by omega) (by omega)
      refine sat_drawT 10 tabOk Tryz.func6 rfl rfl trivial (by kernel_rfl) ?_
      refine ds_call tabOk rfl (by simp only [andP, and_true, true_and, Int.toNat_natCast, List.length_map, List.length_append, List.length_cons, List.length_nil, List.length_replicate]; omega) (of14_call l kNext (al.getD i 0) hlb (of_two ty (.inr rfl))) (callFunc_run Tryz.func26 rfl rfl) (by rintro r o rfl; rfl) (.refl _) rfl rfl ⟨_, rfl⟩ ?_
      refine ds_done tabOk rfl trivial ?_
      refine sat_drawT 43 tabOk Tryz.func6 rfl rfl trivial (by kernel_rfl) ?_
      refine ds_call tabOk rfl ?nd (rSame_self (okNs_nm hvs (ofV l kNext (al.getD i 0) - 1).toNat)) (callFunc_run Tryz.func27 rfl rfl) (by rintro r o rfl; rfl) ⟨.of ?a1, .of (arg_eq w1 rfl), trivial⟩ rfl rfl ⟨_, rfl⟩ ?kk
      case nd => simp only [w1, List.length_map, hvl, hnl]; exact ⟨⟨by omega, by omega⟩, ⟨by omega, by omega⟩, trivial⟩
      case a1 =>
        show AV.d (vN (nm nx i).1 (nm nx i).2) = _
        rw [hnxi]
      case kk =>
      refine ds_branch tabOk rfl trivial (fun h => by cases h) (fun _ => ?_)
      refine ds_call tabOk rfl ?nd (rSame_self (okNs_nm hns i)) (callFunc_run Tryz.func27 rfl rfl) (by rintro r o rfl; rfl) ⟨.of (arg_eq w2 hsvi), .refl _, trivial⟩ rfl rfl ⟨_, rfl⟩ ?kk
      case nd => simp only [Int.toNat_natCast, w2, List.length_map, hvl, hstl]; exact ⟨⟨by omega, by omega⟩, ⟨by omega, by omega⟩, ⟨by omega, by omega⟩, trivial⟩
      case kk =>
      refine ds_branch tabOk rfl trivial (fun h => by cases h) (fun _ => ?_)
      refine ds_branch tabOk rfl ?nd (fun h => ?_) (fun h => ?_)
      case nd => simp only [List.length_map]; exact ⟨⟨by omega, by omega⟩, trivial⟩
      · have h : (ofV l kNext (al.getD i 0) == al.getD i 0) = true := h
        have h := eq_of_beq h
        refine ds_done tabOk rfl ?nd ?_
        case nd => simp only [List.length_map, hnl, hstl]; exact ⟨⟨by omega, by omega⟩, ⟨by omega, by omega⟩, trivial⟩
        refine sat_call tabOk Tryz.func6 rfl ?nd (rSame_self (okNs_nm hns i)) ⟨.of ?_, .refl _, trivial⟩ rfl ⟨_, rfl⟩ (by rintro r o rfl; rfl) ?_
        case nd => trivial
        · show AV.d (vN (nm nx i).1 (nm nx i).2) = _
          rw [hnxi, h, hsvi]
        rintro _ o rfl
        refine sat_branch tabOk Tryz.func6 rfl trivial (fun h => by cases h) (fun _ => ?_)
        refine sat_stop tabOk Tryz.func6 rfl trivial ?_
        exact sat_le (ih (i + 1) (by omega) (by omega)) hC hCl ⟨⟨_, rfl, .refl _⟩, ⟨_, rfl, .refl _⟩, ⟨_, rfl, .refl _⟩, ⟨_, rfl, .refl _⟩, ⟨_, rfl, .refl _⟩, ⟨_, rfl, .refl _⟩, ⟨_, rfl, .of (by rw [wrap_id (by omega) (by omega)]; rfl)⟩, trivial⟩ ⟨.refl _, trivial⟩ rfl rfl (Nat.zero_le _)
      · refine ds_done tabOk rfl trivial ?_
        refine sat_branch tabOk Tryz.func6 rfl trivial (fun h => by cases h) (fun _ => ?_)
        refine sat_stop tabOk Tryz.func6 rfl trivial ?_
        exact sat_le (ih (i + 1) (by omega) (by omega)) hC hCl ⟨⟨_, rfl, .refl _⟩, ⟨_, rfl, .refl _⟩, ⟨_, rfl, .refl _⟩, ⟨_, rfl, .refl _⟩, ⟨_, rfl, .refl _⟩, ⟨_, rfl, .refl _⟩, ⟨_, rfl, .of (by rw [wrap_id (by omega) (by omega)]; rfl)⟩, trivial⟩ ⟨.refl _, trivial⟩ rfl rfl (Nat.zero_le _)
    · refine sat_stop tabOk Tryz.func6 rfl trivial ?_
      refine sat_while (α := Nat) (fun i => [(3, .ptr 0 0), (7, vB true), (8, .d (eNums v)), (17, vI .i64 (i : Int))]) (fun i => [some (bBt l)]) (fun i => i ≤ l.length) (fun i => l.length - i) 0 (Nat.zero_le _) ?_ ?_
      · exact fun h => sat_le h hC hCl ⟨⟨_, rfl, .refl _⟩, ⟨_, rfl, .refl _⟩, ⟨_, rfl, .refl _⟩, ⟨_, rfl, .refl _⟩, trivial⟩ ⟨.refl _, trivial⟩ rfl rfl (Nat.zero_le _)
      clear ih
      rintro i hi2 ih
      refine sat_branch tabOk Tryz.func6 rfl trivial (fun hb => ?_) (fun hb => ?_) <;> simp only [List.length_map, decide_eq_true_eq, decide_eq_false_iff_not] at hb
      · have hlt : i < l.length := by omega
        refine sat_drawT 19 tabOk Tryz.func6 rfl rfl trivial (by kernel_rfl) ?_
        refine ds_branch tabOk rfl (by simp only [andP, and_true, true_and, Int.toNat_natCast, List.length_map, List.length_append, List.length_cons, List.length_nil, List.length_replicate]; omega) (fun h => ?_) (fun h => ?_) <;> rw [show ((⟨#[99, 111, 110, 115, 116]⟩ : ByteArray)) = ⟨kConst.toArray⟩ from rfl, strB] at h
        · have hc : (nd l i).op = kConst := of_decide_eq_true h
          obtain ⟨g1, g2⟩ := hcv i hlt hc
          refine ds_call tabOk rfl ?nd (rText_call (nd l i).t.length (mkN (nd l i).t) (by have := mkok_len g2; omega)) (callFunc_run Tryz.func28 rfl rfl) (by rintro r o rfl; rfl) ⟨.of ?_, trivial⟩ rfl rfl ⟨_, rfl⟩ ?kk
          case nd => simp only [List.length_map, hvl]; exact ⟨⟨by omega, by omega⟩, trivial⟩
          · show AV.d (vN (nm v i).1 (nm v i).2) = _
            rw [g1]
          case kk =>
          refine ds_done tabOk rfl ?nd ?_
          case nd => simp only [List.length_map]; exact ⟨⟨by omega, by omega⟩, trivial⟩
          refine sat_branch tabOk Tryz.func6 rfl trivial (fun h => ?_) (fun _ => ?_)
          · have h : (!((⟨(txt (nd l i).t.length (mkN (nd l i).t)).toArray⟩ : ByteArray).toList == (⟨(nd l i).t.toArray⟩ : ByteArray).toList)) = true := h
            rw [strB, txt_mk g2] at h
            simp at h
          refine sat_stop tabOk Tryz.func6 rfl trivial ?_
          exact sat_le (ih (i + 1) (by omega) (by omega)) hC hCl ⟨⟨_, rfl, .refl _⟩, ⟨_, rfl, .refl _⟩, ⟨_, rfl, .refl _⟩, ⟨_, rfl, .of (by rw [wrap_id (by omega) (by omega)]; rfl)⟩, trivial⟩ ⟨.refl _, trivial⟩ rfl rfl (Nat.zero_le _)
        · refine ds_done tabOk rfl trivial ?_
          refine sat_branch tabOk Tryz.func6 rfl trivial (fun h => by cases h) (fun _ => ?_)
          refine sat_stop tabOk Tryz.func6 rfl trivial ?_
          exact sat_le (ih (i + 1) (by omega) (by omega)) hC hCl ⟨⟨_, rfl, .refl _⟩, ⟨_, rfl, .refl _⟩, ⟨_, rfl, .refl _⟩, ⟨_, rfl, .of (by rw [wrap_id (by omega) (by omega)]; rfl)⟩, trivial⟩ ⟨.refl _, trivial⟩ rfl rfl (Nat.zero_le _)
      · exact sat_ret tabOk Tryz.func6 rfl trivial rfl
end Go.Proofs.YtcenfhcemmlaeaaGreatDoor
