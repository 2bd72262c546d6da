/- A part of the proof: N36. -/
import Derived.Test.YtjjlipbddlignaaGreatDoorP19
set_option linter.unusedVariables false
set_option linter.unusedSimpArgs false
namespace Go.Proofs.YtjjlipbddlignaaGreatDoor
open Go Ab Go.RowKit Go.Lib
set_option maxRecDepth 100000
set_option linter.unusedVariables false
set_option linter.unusedSimpArgs false
set_option maxHeartbeats 4000000

theorem form_sort (op : List UInt8) : frm op = [119] ↔ op = kSort := by
  constructor
  · unfold frm formR
    intro h
    by_cases e : op = kSort
    · exact e
    · rw [if_neg e] at h
      exfalso
      revert h
      iterate 33 (refine iteInduction (motive := fun q : List UInt8 × Bool => ¬ q.1 = [119]) (fun _ => by decide) (fun _ => ?_))
      decide
  · rintro rfl
    rfl
theorem FigI_call (n : Int) (h0 : 0 ≤ n) (h1 : n ≤ 1000000) : ACall Tryz.prog 24 [vI .i64 n] [] (fun r o => r = vTx (tItoa n)) := by
  obtain ⟨u, rfl⟩ : ∃ u : Nat, n = u := ⟨n.toNat, by omega⟩
  have h := Figures_call u (by omega)
  rwa [show decDigits u = tItoa (u : Int) from (itoa_nonneg u).symm] at h
theorem cat2 (a b c : List UInt8) : (⟨a.toArray⟩ : ByteArray) ++ ⟨b.toArray⟩ ++ ⟨c.toArray⟩ = ⟨(a ++ b ++ c).toArray⟩ := by rw [catStr, catStr]
theorem cat3 (a b c d : List UInt8) : (⟨a.toArray⟩ : ByteArray) ++ ⟨b.toArray⟩ ++ ⟨c.toArray⟩ ++ ⟨d.toArray⟩ = ⟨(a ++ b ++ c ++ d).toArray⟩ := by rw [catStr, catStr, catStr]
@[reducible] def rpE (i : Nat) (S : List UInt8) : Env := [(1, .ptr 0 0), (5, vTx S), (6, vI .i64 (i : Int)), (7, .ptr 1 0)]
@[reducible] def rpO (l : List Nd) (x : Nd) : List (Option AObj) := [some (bBt l), some (bNd x)]
theorem flat_take {l : List Int} {k : Nat} (h : k < l.length) : (l.take (k + 1)).flatMap numT = (l.take k).flatMap numT ++ ([32] ++ tItoa (l.getD k 0)) := by
  rw [List.take_succ_eq_append_getElem h, List.flatMap_append, show l.getD k 0 = l[k] by simp [h]]
  simp [numT]
theorem rPrint_call (l : List Nd) (hl : l.length ≤ 1000000) (hm : ∀ x ∈ l, NdB x) (hT : rightM l = true → (textM l).length ≤ 100000000) : ACall Tryz.prog 11 [.d (eBt l)] [] (fun r o => r = prA l) := by
  refine acall_enter Tryz.func11 rfl rfl (Nat.le_of_ble_eq_true rfl) fun C hC hCl hDs hGk => ?_
  unfold prA
  refine sat_call tabOk Tryz.func11 rfl trivial (rRight_call l hl hm) (.refl _) rfl ⟨_, rfl⟩ (by rintro r o rfl; rfl) ?_
  rintro _ o rfl
  cases hr : rightM l with
  | false =>
    refine sat_branch tabOk Tryz.func11 rfl trivial (fun _ => ?_) (fun h => by cases h)
    exact sat_ret tabOk Tryz.func11 rfl trivial rfl
  | true =>
  refine sat_branch tabOk Tryz.func11 rfl trivial (fun h => by cases h) (fun _ => ?_)
  have hT := hT hr
  have hlen : l.length ≤ 5000 ∧ ∀ j (h : j < l.length), nodeB ((j : Int) + 1) (nd l j) = true := by
    unfold rightM at hr
    rw [Bool.and_eq_true, rightFrom_iff, decide_eq_true_eq] at hr
    refine ⟨hr.2, fun j hj => ?_⟩
    have := hr.1 j hj
    rwa [← nd_at hj, show ((0 : Nat) : Int) + (j : Int) + 1 = (j : Int) + 1 by omega] at this
  refine sat_stop tabOk Tryz.func11 rfl trivial ?_
  refine sat_while (α := Nat) (fun i => [(1, .ptr 0 0), (5, vTx (textM (l.take i))), (6, vI .i64 (i : Int))]) (fun i => [some (bBt l)]) (fun i => i ≤ l.length) (fun i => l.length - i) 0 (Nat.zero_le _) ?_ ?_
  · exact fun h => sat_le h hC hCl ⟨⟨_, rfl, .refl _⟩, ⟨_, rfl, .refl _⟩, ⟨_, rfl, .refl _⟩, trivial⟩ ⟨.refl _, trivial⟩ rfl rfl (Nat.zero_le _)
  rintro i hi ih
  refine sat_branch tabOk Tryz.func11 rfl trivial (fun h => ?_) (fun h => ?_)
  rotate_left
  · have h : decide ((i : Int) < (((l.map eNd).length : Nat) : Int)) = false := h
    rw [decide_eq_false_iff_not, List.length_map] at h
    obtain rfl : i = l.length := by omega
    rw [List.take_length]
    exact sat_ret tabOk Tryz.func11 rfl trivial rfl
  have h : decide ((i : Int) < (((l.map eNd).length : Nat) : Int)) = true := h
  rw [decide_eq_true_eq, List.length_map] at h
  have hlt : i < l.length := by omega
  have hB := hlen.2 i hlt
  have hx := hm _ (nd_mem hlt)
  have htk := text_take hlt
  have hp1 := text_pre l i
  have ih := ih (i + 1) (show i + 1 ≤ l.length by omega) (show l.length - (i + 1) < l.length - i by omega)
  rw [htk] at ih
  have hid : (i : Int) + 1 ≤ 100000 := by have := hlen.1; omega
  have hnum := nodeB_nums hid hB
  have hal : (nd l i).a.length ≤ 4 ∧ (nd l i).n.length ≤ 8 := by
    have hfl := form_len (nd l i).op
    unfold nodeB aOk nOk at hB
    simp only [Bool.and_eq_true, decide_eq_true_eq] at hB
    have c1 : (frm (nd l i).op).count 97 ≤ (frm (nd l i).op).length := List.count_le_length
    have c2 : (frm (nd l i).op).count 110 ≤ (frm (nd l i).op).length := List.count_le_length
    have c3 : (frm (nd l i).op).count 119 ≤ (frm (nd l i).op).length := List.count_le_length
    omega
  have hw : IntKind.i64.wrap ((i : Int) + 1) = (i : Int) + 1 := wrap_id (by omega) (by omega)
  have hit := Go.Lib.itoa_length_le ((i : Int) + 1) (by omega) (by omega)
  have hit : (tItoa ((i : Int) + 1)).length ≤ 21 := by show (Go.Lib.itoa _).length ≤ 21; omega
  have hop := hx.op
  have htl := hx.t
  have hnT : nodeT ((i : Int) + 1) (nd l i) = tItoa ((i : Int) + 1) ++ [32] ++ (nd l i).op ++ (if (nd l i).op = kSort then sBitvec else []) ++ (if 0 < (nd l i).s then [32] ++ tItoa (nd l i).s else []) ++ (nd l i).a.flatMap numT ++ (nd l i).n.flatMap numT ++ (if (nd l i).t = [] then [] else [32] ++ (nd l i).t) ++ [10] := by
    unfold nodeT numT
    simp only [form_sort]
    simp
  rw [hnT] at ih
  simp only [← List.append_assoc] at ih
  clear hnT htk hB
  generalize textM (l.take i) = T at *
  generalize hxx : nd l i = x at *
  apply letK (p := ∀ S : List UInt8, S.length ≤ 110000000 → S = T ++ tItoa ((i : Int) + 1) ++ [32] ++ x.op ++ (if x.op = kSort then sBitvec else []) → ASat Tryz.prog 11 Tryz.f11.ntmps C _ (rpE i S) (rpO l x) (fun r o => r = tupOf [vTx (textM l), vI .i64 0]))
  · intro keyB
    refine sat_drawT 8 tabOk Tryz.func11 rfl rfl ?nd (by kernel_rfl) ?_
    case nd => exact (by simp only [andP, and_true, true_and, Int.toNat_natCast, List.length_map, List.length_append, List.length_cons, List.length_nil, List.length_replicate]; omega)
    refine ds_call tabOk rfl trivial (FigI_call ((i : Int) + 1) (by omega) (by omega)) (callFunc_run Tryz.func24 rfl rfl) (by rintro r o rfl; rfl) ⟨.of (congrArg (fun z => vI .i64 z) hw), trivial⟩ rfl rfl ⟨_, rfl⟩ ?_
    refine ds_done tabOk rfl ?nd1 ?_
    case nd1 =>
      show ((⟨T.toArray⟩ : ByteArray) ++ ⟨(tItoa ((i : Int) + 1)).toArray⟩).size + (⟨#[32]⟩ : ByteArray).size ≤ 9223372036854775807 ∧ (⟨T.toArray⟩ : ByteArray).size + (⟨(tItoa ((i : Int) + 1)).toArray⟩ : ByteArray).size ≤ 9223372036854775807 ∧ True
      simp only [ByteArray.size_append, sizeBy, List.length_singleton]
      exact ⟨by omega, by omega, trivial⟩
    have hl1 : (T ++ tItoa ((i : Int) + 1) ++ [32] ++ x.op).length ≤ 105000000 := by
      simp only [List.length_append, List.length_singleton]
      omega
    have hS : (⟨T.toArray⟩ : ByteArray) ++ ⟨(tItoa ((i : Int) + 1)).toArray⟩ ++ ⟨([32] : List UInt8).toArray⟩ ++ ⟨x.op.toArray⟩ = ⟨(T ++ tItoa ((i : Int) + 1) ++ [32] ++ x.op).toArray⟩ := cat3 _ _ _ _
    refine sat_branch tabOk Tryz.func11 rfl ?nd3 (fun hf => ?_) (fun hf => ?_)
    case nd3 =>
      show ((⟨T.toArray⟩ : ByteArray) ++ ⟨(tItoa ((i : Int) + 1)).toArray⟩ ++ ⟨#[32]⟩).size + (⟨(nd l i).op.toArray⟩ : ByteArray).size ≤ 9223372036854775807 ∧ True
      rw [hxx]
      simp only [ByteArray.size_append, sizeBy, List.length_singleton]
      exact ⟨by omega, trivial⟩
    · have hf : ((⟨(nd l i).op.toArray⟩ : ByteArray).toList == (⟨kSort.toArray⟩ : ByteArray).toList) = true := hf
      rw [hxx, isEq_bytes, decide_eq_true_eq] at hf
      refine sat_steps 6 tabOk Tryz.func11 rfl ?nd2 ?_
      case nd2 =>
        show ((⟨T.toArray⟩ : ByteArray) ++ ⟨(tItoa ((i : Int) + 1)).toArray⟩ ++ ⟨([32] : List UInt8).toArray⟩ ++ ⟨(nd l i).op.toArray⟩).size + 7 ≤ 9223372036854775807 ∧ True
        rw [hxx, hS, sizeBy]
        exact ⟨by omega, trivial⟩
      refine sat_le (keyB (T ++ tItoa ((i : Int) + 1) ++ [32] ++ x.op ++ sBitvec) ?_ (by rw [if_pos hf])) hC hCl ⟨⟨_, rfl, .refl _⟩, ⟨_, rfl, .of ?_⟩, ⟨_, rfl, .refl _⟩, ⟨_, rfl, .refl _⟩, trivial⟩ ⟨.refl _, .of (by show bNd (nd l i) = _; rw [hxx]), trivial⟩ rfl rfl (Nat.zero_le _)
      · rw [List.length_append]
        show _ + 7 ≤ _
        omega
      · show vS ((⟨T.toArray⟩ : ByteArray) ++ ⟨(tItoa ((i : Int) + 1)).toArray⟩ ++ ⟨([32] : List UInt8).toArray⟩ ++ ⟨(nd l i).op.toArray⟩ ++ ⟨sBitvec.toArray⟩) = _
        rw [hxx, hS, catStr]
    · have hf : ((⟨(nd l i).op.toArray⟩ : ByteArray).toList == (⟨kSort.toArray⟩ : ByteArray).toList) = false := hf
      rw [hxx, isEq_bytes, decide_eq_false_iff_not] at hf
      refine sat_steps 2 tabOk Tryz.func11 rfl trivial ?_
      refine sat_le (keyB (T ++ tItoa ((i : Int) + 1) ++ [32] ++ x.op) (by omega) (by rw [if_neg hf, List.append_nil])) hC hCl ⟨⟨_, rfl, .refl _⟩, ⟨_, rfl, .of ?_⟩, ⟨_, rfl, .refl _⟩, ⟨_, rfl, .refl _⟩, trivial⟩ ⟨.refl _, .of (by show bNd (nd l i) = _; rw [hxx]), trivial⟩ rfl rfl (Nat.zero_le _)
      show vS ((⟨T.toArray⟩ : ByteArray) ++ ⟨(tItoa ((i : Int) + 1)).toArray⟩ ++ ⟨([32] : List UInt8).toArray⟩ ++ ⟨(nd l i).op.toArray⟩) = _
      rw [hxx, hS]
  intro SB hSB hSBe
  rw [← hSBe] at ih
  clear hSBe
  apply letK (p := ∀ S : List UInt8, S.length ≤ 120000000 → S = SB ++ (if 0 < x.s then [32] ++ tItoa x.s else []) → ASat Tryz.prog 11 Tryz.f11.ntmps C _ (rpE i S) (rpO l x) (fun r o => r = tupOf [vTx (textM l), vI .i64 0]))
  · intro keyC
    refine sat_branch tabOk Tryz.func11 rfl trivial (fun hs => ?_) (fun hs => ?_)
    · have hs : decide (x.s > 0) = true := hs
      rw [decide_eq_true_eq] at hs
      refine sat_call tabOk Tryz.func11 rfl ?nd (FigI_call x.s (by omega) (by omega)) (.refl _) rfl ⟨_, rfl⟩ (by rintro r o rfl; rfl) ?_
      case nd =>
        show (⟨SB.toArray⟩ : ByteArray).size + 1 ≤ 9223372036854775807 ∧ True
        rw [sizeBy]
        exact ⟨by omega, trivial⟩
      rintro _ o rfl
      have hsl := numT_len (n := x.s) (by omega) (by omega)
      rw [numT, List.length_cons] at hsl
      refine sat_steps 3 tabOk Tryz.func11 rfl ?nd2 ?_
      case nd2 =>
        show ((⟨SB.toArray⟩ : ByteArray) ++ ⟨([32] : List UInt8).toArray⟩).size + (⟨(tItoa x.s).toArray⟩ : ByteArray).size ≤ 9223372036854775807 ∧ True
        rw [catStr, sizeBy, sizeBy, List.length_append, List.length_singleton]
        exact ⟨by omega, trivial⟩
      refine sat_le (keyC (SB ++ [32] ++ tItoa x.s) ?_ (by rw [if_pos (by omega), List.append_assoc])) hC hCl ⟨⟨_, rfl, .refl _⟩, ⟨_, rfl, .of ?_⟩, ⟨_, rfl, .refl _⟩, ⟨_, rfl, .refl _⟩, trivial⟩ ⟨.refl _, .refl _, trivial⟩ rfl rfl (Nat.zero_le _)
      · rw [List.length_append, List.length_append, List.length_singleton]
        omega
      · show vS ((⟨SB.toArray⟩ : ByteArray) ++ ⟨([32] : List UInt8).toArray⟩ ++ ⟨(tItoa x.s).toArray⟩) = _
        rw [cat2]
    · have hs : decide (x.s > 0) = false := hs
      rw [decide_eq_false_iff_not] at hs
      refine sat_steps 2 tabOk Tryz.func11 rfl trivial ?_
      exact sat_le (keyC SB (by omega) (by rw [if_neg (by omega), List.append_nil])) hC hCl ⟨⟨_, rfl, .refl _⟩, ⟨_, rfl, .refl _⟩, ⟨_, rfl, .refl _⟩, ⟨_, rfl, .refl _⟩, trivial⟩ ⟨.refl _, .refl _, trivial⟩ rfl rfl (Nat.zero_le _)
  intro SC hSC hSCe
  rw [← hSCe] at ih
  clear hSCe
  refine sat_stop tabOk Tryz.func11 rfl trivial ?_
  refine sat_while (α := Nat) (fun k => rpE i (SC ++ (x.a.take k).flatMap numT) ++ [(8, vI .i64 (k : Int))]) (fun _ => rpO l x) (fun k => k ≤ x.a.length) (fun k => x.a.length - k) 0 (Nat.zero_le _) ?_ ?_
  · exact fun h => sat_le h hC hCl ⟨⟨_, rfl, .refl _⟩, ⟨_, rfl, .of (by rw [List.take_zero, List.flatMap_nil, List.append_nil])⟩, ⟨_, rfl, .refl _⟩, ⟨_, rfl, .refl _⟩, ⟨_, rfl, .refl _⟩, trivial⟩ ⟨.refl _, .refl _, trivial⟩ rfl rfl (Nat.zero_le _)
  rintro k hk iha
  have hfla := nums_len (x.a.take k) (fun n hn => hnum.2.1 n (List.mem_of_mem_take hn))
  rw [List.length_take] at hfla
  refine sat_branch tabOk Tryz.func11 rfl trivial (fun hb => ?_) (fun hb => ?_)
  · have hb : decide ((k : Int) < (((x.a.map eI).length : Nat) : Int)) = true := hb
    rw [decide_eq_true_eq, List.length_map] at hb
    have hk2 : k < x.a.length := by omega
    have eg : x.a.getD k 0 = x.a[k] := by simp [hk2]
    have hv := hnum.2.1 _ (List.getElem_mem hk2)
    rw [← eg] at hv
    have hsl := numT_len (n := x.a.getD k 0) (by omega) (by omega)
    rw [numT, List.length_cons] at hsl
    have hfk := flat_take hk2
    have hSl : (SC ++ (x.a.take k).flatMap numT).length ≤ 121000000 := by rw [List.length_append]; omega
    have iha := iha (k + 1) (by omega) (by omega)
    rw [hfk, ← List.append_assoc, ← List.append_assoc] at iha
    generalize SC ++ (x.a.take k).flatMap numT = S at *
    refine sat_call tabOk Tryz.func11 rfl ?nd (FigI_call (x.a.getD k 0) (by omega) (by omega)) (.refl _) rfl ⟨_, rfl⟩ (by rintro r o rfl; rfl) ?_
    case nd =>
      refine ⟨?_, ?_, trivial⟩
      · rw [List.length_map]
        omega
      · show (⟨S.toArray⟩ : ByteArray).size + 1 ≤ 9223372036854775807
        rw [sizeBy]
        omega
    rintro _ o rfl
    refine sat_stop tabOk Tryz.func11 rfl ?nd2 ?_
    case nd2 =>
      show ((⟨S.toArray⟩ : ByteArray) ++ ⟨([32] : List UInt8).toArray⟩).size + (⟨(tItoa (x.a.getD k 0)).toArray⟩ : ByteArray).size ≤ 9223372036854775807 ∧ True
      rw [catStr, sizeBy, sizeBy, List.length_append, List.length_singleton]
      exact ⟨by omega, trivial⟩
    refine sat_le iha hC hCl ⟨⟨_, rfl, .refl _⟩, ⟨_, rfl, .of ?_⟩, ⟨_, rfl, .refl _⟩, ⟨_, rfl, .refl _⟩, ⟨_, rfl, .of (by rw [wrap_id (by omega) (by omega)]; rfl)⟩, trivial⟩ ⟨.refl _, .refl _, trivial⟩ rfl rfl (Nat.zero_le _)
    show vS ((⟨S.toArray⟩ : ByteArray) ++ ⟨([32] : List UInt8).toArray⟩ ++ ⟨(tItoa (x.a.getD k 0)).toArray⟩) = _
    rw [cat2]
  have hb : decide ((k : Int) < (((x.a.map eI).length : Nat) : Int)) = false := hb
  rw [decide_eq_false_iff_not, List.length_map] at hb
  obtain rfl : k = x.a.length := by omega
  have hSl : (SC ++ (x.a.take x.a.length).flatMap numT).length ≤ 121000000 := by rw [List.length_append]; omega
  rw [List.take_length] at hSl ⊢
  clear hfla iha
  generalize SC ++ x.a.flatMap numT = SD at *
  refine sat_stop tabOk Tryz.func11 rfl trivial ?_
  refine sat_while (α := Nat) (fun k => rpE i (SD ++ (x.n.take k).flatMap numT) ++ [(9, vI .i64 (k : Int))]) (fun _ => rpO l x) (fun k => k ≤ x.n.length) (fun k => x.n.length - k) 0 (Nat.zero_le _) ?_ ?_
  · exact fun h => sat_le h hC hCl ⟨⟨_, rfl, .refl _⟩, ⟨_, rfl, .of (by rw [List.take_zero, List.flatMap_nil, List.append_nil])⟩, ⟨_, rfl, .refl _⟩, ⟨_, rfl, .refl _⟩, ⟨_, rfl, .refl _⟩, trivial⟩ ⟨.refl _, .refl _, trivial⟩ rfl rfl (Nat.zero_le _)
  rintro k hk ihn
  have hfln := nums_len (x.n.take k) (fun n hn => hnum.2.2 n (List.mem_of_mem_take hn))
  rw [List.length_take] at hfln
  refine sat_branch tabOk Tryz.func11 rfl trivial (fun hb => ?_) (fun hb => ?_)
  · have hb : decide ((k : Int) < (((x.n.map eI).length : Nat) : Int)) = true := hb
    rw [decide_eq_true_eq, List.length_map] at hb
    have hk2 : k < x.n.length := by omega
    have eg : x.n.getD k 0 = x.n[k] := by simp [hk2]
    have hv := hnum.2.2 _ (List.getElem_mem hk2)
    rw [← eg] at hv
    have hsl := numT_len (n := x.n.getD k 0) (by omega) (by omega)
    rw [numT, List.length_cons] at hsl
    have hfk := flat_take hk2
    have hSl : (SD ++ (x.n.take k).flatMap numT).length ≤ 122000000 := by rw [List.length_append]; omega
    have ihn := ihn (k + 1) (by omega) (by omega)
    rw [hfk, ← List.append_assoc, ← List.append_assoc] at ihn
    generalize SD ++ (x.n.take k).flatMap numT = S at *
    refine sat_call tabOk Tryz.func11 rfl ?nd (FigI_call (x.n.getD k 0) (by omega) (by omega)) (.refl _) rfl ⟨_, rfl⟩ (by rintro r o rfl; rfl) ?_
    case nd =>
      refine ⟨?_, ?_, trivial⟩
      · rw [List.length_map]
        omega
      · show (⟨S.toArray⟩ : ByteArray).size + 1 ≤ 9223372036854775807
        rw [sizeBy]
        omega
    rintro _ o rfl
    refine sat_stop tabOk Tryz.func11 rfl ?nd2 ?_
    case nd2 =>
      show ((⟨S.toArray⟩ : ByteArray) ++ ⟨([32] : List UInt8).toArray⟩).size + (⟨(tItoa (x.n.getD k 0)).toArray⟩ : ByteArray).size ≤ 9223372036854775807 ∧ True
      rw [catStr, sizeBy, sizeBy, List.length_append, List.length_singleton]
      exact ⟨by omega, trivial⟩
    refine sat_le ihn hC hCl ⟨⟨_, rfl, .refl _⟩, ⟨_, rfl, .of ?_⟩, ⟨_, rfl, .refl _⟩, ⟨_, rfl, .refl _⟩, ⟨_, rfl, .of (by rw [wrap_id (by omega) (by omega)]; rfl)⟩, trivial⟩ ⟨.refl _, .refl _, trivial⟩ rfl rfl (Nat.zero_le _)
    show vS ((⟨S.toArray⟩ : ByteArray) ++ ⟨([32] : List UInt8).toArray⟩ ++ ⟨(tItoa (x.n.getD k 0)).toArray⟩) = _
    rw [cat2]
  have hb : decide ((k : Int) < (((x.n.map eI).length : Nat) : Int)) = false := hb
  rw [decide_eq_false_iff_not, List.length_map] at hb
  obtain rfl : k = x.n.length := by omega
  have hSl : (SD ++ (x.n.take x.n.length).flatMap numT).length ≤ 122000000 := by rw [List.length_append]; omega
  rw [List.take_length] at hSl ⊢
  clear hfln ihn
  generalize SD ++ x.n.flatMap numT = SE at *
  have hSl2 : (SE ++ (if x.t = [] then [] else [32] ++ x.t)).length ≤ 125000000 := by
    rw [List.length_append]
    have : (if x.t = [] then [] else [32] ++ x.t).length ≤ 1000001 := by
      split
      · simp
      · rw [List.length_append, List.length_singleton]
        omega
    omega
  refine sat_branch tabOk Tryz.func11 rfl trivial (fun ht => ?_) (fun ht => ?_)
  · have ht : decide ((((⟨x.t.toArray⟩ : ByteArray).size : Nat) : Int) > 0) = true := ht
    rw [decide_eq_true_eq, sizeBy] at ht
    have ht : x.t ≠ [] := fun e => by
      rw [e] at ht
      simp at ht
    rw [if_neg ht, ← List.append_assoc] at ih hSl2
    refine sat_stop tabOk Tryz.func11 rfl ?nd ?_
    case nd =>
      rw [List.length_append, List.length_append, List.length_singleton] at hSl2
      have e1 : ((⟨SE.toArray⟩ : ByteArray) ++ ⟨([32] : List UInt8).toArray⟩).size = SE.length + 1 := by rw [catStr, sizeBy, List.length_append, List.length_singleton]
      have e2 : ((⟨SE.toArray⟩ : ByteArray) ++ ⟨([32] : List UInt8).toArray⟩ ++ ⟨x.t.toArray⟩).size = SE.length + 1 + x.t.length := by rw [cat2, sizeBy, List.length_append, List.length_append, List.length_singleton]
      show ((⟨SE.toArray⟩ : ByteArray) ++ ⟨([32] : List UInt8).toArray⟩ ++ ⟨x.t.toArray⟩).size + 1 ≤ 9223372036854775807 ∧ ((⟨SE.toArray⟩ : ByteArray) ++ ⟨([32] : List UInt8).toArray⟩).size + (⟨x.t.toArray⟩ : ByteArray).size ≤ 9223372036854775807 ∧ (⟨SE.toArray⟩ : ByteArray).size + 1 ≤ 9223372036854775807 ∧ True
      rw [e1, e2, sizeBy, sizeBy]
      exact ⟨by omega, by omega, by omega, trivial⟩
    refine sat_le ih hC hCl ⟨⟨_, rfl, .refl _⟩, ⟨_, rfl, .of ?_⟩, ⟨_, rfl, .of (by rw [wrap_id (by omega) (by omega)]; rfl)⟩, trivial⟩ ⟨.refl _, trivial⟩ rfl rfl (Nat.zero_le _)
    show vS ((⟨SE.toArray⟩ : ByteArray) ++ ⟨([32] : List UInt8).toArray⟩ ++ ⟨x.t.toArray⟩ ++ ⟨([10] : List UInt8).toArray⟩) = _
    rw [cat3]
  · have ht : decide ((((⟨x.t.toArray⟩ : ByteArray).size : Nat) : Int) > 0) = false := ht
    rw [decide_eq_false_iff_not, sizeBy] at ht
    have ht : x.t = [] := List.length_eq_zero_iff.1 (by omega)
    rw [if_pos ht, List.append_nil] at ih hSl2
    refine sat_stop tabOk Tryz.func11 rfl ?nd ?_
    case nd =>
      show (⟨SE.toArray⟩ : ByteArray).size + 1 ≤ 9223372036854775807 ∧ True
      rw [sizeBy]
      exact ⟨by omega, trivial⟩
    refine sat_le ih hC hCl ⟨⟨_, rfl, .refl _⟩, ⟨_, rfl, .of ?_⟩, ⟨_, rfl, .of (by rw [wrap_id (by omega) (by omega)]; rfl)⟩, trivial⟩ ⟨.refl _, trivial⟩ rfl rfl (Nat.zero_le _)
    show vS ((⟨SE.toArray⟩ : ByteArray) ++ ⟨([10] : List UInt8).toArray⟩) = _
    rw [catStr]
end Go.Proofs.YtjjlipbddlignaaGreatDoor
