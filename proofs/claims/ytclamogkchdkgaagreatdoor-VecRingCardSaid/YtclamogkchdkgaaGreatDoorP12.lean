/- A part of the proof: R4, R5, R6, N2, R7, R8, R9, R10, R11, L2, L4, L5, Ab54. -/
import Derived.Test.YtclamogkchdkgaaGreatDoorP11
set_option linter.unusedVariables false
set_option linter.unusedSimpArgs false
namespace Go.Proofs.YtclamogkchdkgaaGreatDoor
open Go Ab
set_option maxRecDepth 100000
set_option linter.unusedVariables false
set_option linter.unusedSimpArgs false

/-! ### The reference: cuts -/
theorem bl_slice (n lo len : Nat) (f : Nat → Bool) (h : lo + len ≤ n) : ((bl n f).drop lo).take len = bl len fun i => f (lo + i) := by
  apply List.ext_getElem?
  intro i
  rw [List.getElem?_take, List.getElem?_drop]
  simp only [bl]
  by_cases hi : i < len
  · rw [if_pos (by omega)]
    simp [hi, show lo + i < n by omega]
  · rw [if_neg (by omega)]
    simp [hi]
theorem rSlice_ok (w x lo hi : Nat) (hwb : w ≤ 128) (h1 : lo ≤ hi) (h2 : hi < w) : ACall Tryz.prog 27 [.d (vN w x), vI .i64 hi, vI .i64 lo] [] (fun r o => r = tupOf [.d (vN (hi - lo + 1) (slN x lo (hi - lo + 1))), vI .i64 0]) := by
  refine acall_enter Tryz.func27 rfl rfl (Nat.le_of_ble_eq_true rfl) fun C hC hCl => ?_
  have e1 : IntKind.i64.wrap ((hi : Int) + 1) = ((hi + 1 : Nat) : Int) := by rw [wrap_id (by omega) (by omega)]; omega
  refine sat_branch tabOk Tryz.func27 rfl trivial (fun h => by simp at h; omega) (fun _ => ?_)
  refine sat_branch tabOk Tryz.func27 rfl trivial (fun h => by simp at h; omega) (fun _ => ?_)
  refine sat_branch tabOk Tryz.func27 rfl trivial (fun h => by simp at h; omega) (fun _ => ?_)
  refine sat_call tabOk Tryz.func27 rfl trivial (Bits_call w x (by omega)) (.refl _) rfl ⟨_, rfl⟩ (by rintro r o rfl; rfl) ?_
  rintro r o rfl
  refine sat_call tabOk Tryz.func27 rfl ?_ (Of_call (hi - lo + 1) (fun i => x.testBit (lo + i)) (by omega)) ⟨.eL ?_, trivial⟩ rfl ⟨_, rfl⟩ (by rintro r o rfl; rfl) ?_
  · rw [e1, List.length_map, bl_len]
    exact ⟨⟨by omega, by omega, by omega⟩, trivial⟩
  · rw [e1, show (((hi + 1 : Nat) : Int) - lo).toNat = hi - lo + 1 by omega, Int.toNat_natCast, ← List.map_drop, ← List.map_take, bl_slice _ _ _ _ (by omega)]
  rintro r o rfl
  exact sat_ret tabOk Tryz.func27 rfl trivial rfl
theorem rSlice_no (w x : Nat) (lo hi : Int) (h : lo < 0 ∨ hi < lo ∨ (w : Int) ≤ hi) : ACall Tryz.prog 27 [.d (vN w x), vI .i64 hi, vI .i64 lo] [] (fun r o => r = tupOf [.d z24, vI .i64 5]) := by
  refine acall_enter Tryz.func27 rfl rfl (Nat.le_of_ble_eq_true rfl) fun C hC hCl => ?_
  refine sat_branch tabOk Tryz.func27 rfl trivial (fun _ => ?_) (fun h1 => ?_)
  · refine sat_branch tabOk Tryz.func27 rfl trivial (fun _ => ?_) (fun h => by cases h)
    refine sat_branch tabOk Tryz.func27 rfl trivial (fun _ => ?_) (fun h => by cases h)
    exact sat_ret tabOk Tryz.func27 rfl trivial rfl
  refine sat_branch tabOk Tryz.func27 rfl trivial (fun _ => ?_) (fun h2 => ?_)
  · refine sat_branch tabOk Tryz.func27 rfl trivial (fun _ => ?_) (fun h => by cases h)
    exact sat_ret tabOk Tryz.func27 rfl trivial rfl
  refine sat_branch tabOk Tryz.func27 rfl trivial (fun _ => ?_) (fun h3 => ?_)
  · exact sat_ret tabOk Tryz.func27 rfl trivial rfl
  · simp at h1 h2 h3
    omega
theorem rIte_ok (c w x y : Nat) (hc : c < 2 ^ 1) : ACall Tryz.prog 31 [.d (vN 1 c), .d (vN w x), .d (vN w y)] [] (fun r o => r = tupOf [.d (vN w (if c = 1 then x else y)), vI .i64 0]) := by
  refine acall_enter Tryz.func31 rfl rfl (Nat.le_of_ble_eq_true rfl) fun C hC hCl => ?_
  refine sat_branch tabOk Tryz.func31 rfl trivial (fun h => by cases h) (fun _ => ?_)
  refine sat_branch tabOk Tryz.func31 rfl trivial (fun h => ?_) (fun _ => ?_)
  · have h : ((w : Int) != (w : Int)) = true := h
    simp at h
  have h0 : (lmb (limbsN 1) c).getD 0 0 = c := by rw [lmb_get (by decide), lw, Nat.mod_eq_of_lt (by omega)]; simp
  refine sat_branch tabOk Tryz.func31 rfl ?_ (fun h => ?_) (fun h => ?_)
  · rw [List.length_map, lmb_len]
    exact ⟨⟨by decide, by decide⟩, trivial⟩
  · have h : ((((lmb (limbsN 1) c).getD 0 0 : Nat) : Int) == 1) = true := h
    rw [h0, beq_iff_eq] at h
    refine sat_ret tabOk Tryz.func31 rfl trivial ?_
    rw [if_pos (by omega)]
    rfl
  · have h : ((((lmb (limbsN 1) c).getD 0 0 : Nat) : Int) == 1) = false := h
    rw [h0, beq_eq_false_iff_ne] at h
    refine sat_ret tabOk Tryz.func31 rfl trivial ?_
    rw [if_neg (by omega)]
    rfl
theorem rIte_no (c u w v x y : Nat) (h : u ≠ 1 ∨ w ≠ v) : ACall Tryz.prog 31 [.d (vN u c), .d (vN w x), .d (vN v y)] [] (fun r o => r = tupOf [.d z24, vI .i64 5]) := by
  refine acall_enter Tryz.func31 rfl rfl (Nat.le_of_ble_eq_true rfl) fun C hC hCl => ?_
  refine sat_branch tabOk Tryz.func31 rfl trivial (fun _ => ?_) (fun h1 => ?_)
  · refine sat_branch tabOk Tryz.func31 rfl trivial (fun _ => ?_) (fun h => by cases h)
    exact sat_ret tabOk Tryz.func31 rfl trivial rfl
  refine sat_branch tabOk Tryz.func31 rfl trivial (fun _ => ?_) (fun h2 => ?_)
  · exact sat_ret tabOk Tryz.func31 rfl trivial rfl
  · have h1 : ((u : Int) != (1 : Int)) = false := h1
    have h2 : ((w : Int) != (v : Int)) = false := h2
    simp at h1 h2
    omega

theorem many_call (n : Nat) (f : Nat → Bool) (hb : n ≤ 1000000) : ACall Tryz.prog 48 [.d (eBs (bl n f))] [] (fun r o => r = vI .i64 (((bl n f).count true : Nat) : Int)) := by
  refine acall_enter Tryz.func48 rfl rfl (Nat.le_of_ble_eq_true rfl) fun C hC hCl => ?_
  refine sat_stop tabOk Tryz.func48 rfl trivial ?_
  refine sat_while (α := Nat) (fun i => [(0, .d (eBs (bl n f))), (3, vI .i64 (((bl i f).count true : Nat) : Int)), (4, vI .i64 i)]) (fun i => []) (fun i => i ≤ n) (fun i => n - i) 0 (Nat.zero_le _) ?_ ?_
  · exact fun h => sat_le h hC hCl ⟨⟨_, rfl, .refl _⟩, ⟨_, rfl, .refl _⟩, ⟨_, rfl, .refl _⟩, trivial⟩ trivial rfl rfl (Nat.zero_le _)
  rintro i hi ih
  have hcl : (bl i f).count true ≤ i := by
    have := List.count_le_length (a := true) (l := bl i f)
    rwa [bl_len] at this
  refine sat_branch tabOk Tryz.func48 rfl trivial (fun hb => ?_) (fun hb => ?_) <;> simp only [decide_eq_true_eq, decide_eq_false_iff_not, List.length_map, bl_len] at hb
  · have hbd : ((0 : Int) ≤ (i : Nat) ∧ ((i : Nat) : Int) < (n : Int)) ∧ True := ⟨⟨by omega, by omega⟩, trivial⟩
    have ef : ((bl n f).getD ((i : Nat) : Int).toNat false) = f i := bl_get (f := f) (show i < n by omega)
    refine sat_branch tabOk Tryz.func48 rfl (by simpa [bl_len] using hbd) (fun h1 => ?_) (fun h1 => ?_) <;> rw [ef] at h1
    · refine sat_stop tabOk Tryz.func48 rfl trivial ?_
      refine sat_le (ih (i + 1) (by omega) (by omega)) hC hCl ⟨⟨_, rfl, .refl _⟩, ⟨_, rfl, .of ?_⟩, ⟨_, rfl, .of (by rw [wrap_id (by omega) (by omega)]; rfl)⟩, trivial⟩ trivial rfl rfl (Nat.zero_le _)
      show vI .i64 (IntKind.i64.wrap ((((bl i f).count true : Nat) : Int) + 1)) = _
      rw [wrap_id (by omega) (by omega), bl_succ, List.count_append, h1]
      rfl
    · refine sat_stop tabOk Tryz.func48 rfl trivial ?_
      refine sat_le (ih (i + 1) (by omega) (by omega)) hC hCl ⟨⟨_, rfl, .refl _⟩, ⟨_, rfl, .of ?_⟩, ⟨_, rfl, .of (by rw [wrap_id (by omega) (by omega)]; rfl)⟩, trivial⟩ trivial rfl rfl (Nat.zero_le _)
      rw [bl_succ, List.count_append, h1]
      rfl
  · obtain rfl : i = n := by omega
    exact sat_ret tabOk Tryz.func48 rfl trivial rfl

theorem Bits_callO (w x : Nat) (hb : w ≤ 1000000) : ACall Tryz.prog 43 [.d (vN w x)] [] (fun r o => r = .gs 1 ∧ o = [none, some (gBs (bl w x.testBit))]) := by
  refine acall_enter Tryz.func43 rfl rfl (Nat.le_of_ble_eq_true rfl) fun C hC hCl => ?_
  refine sat_stop tabOk Tryz.func43 rfl trivial ?_
  refine sat_own (s := 1) (e := 4) (t := 3) (.inl rfl) (fun i => eB (([] : List Bool).getD i false)) ?_
  refine sat_while (α := Nat) (fun i => [(1, .ptr 0 0), (3, .gs 1), (4, vI .i64 i)]) (fun i => [some (bN w x), some (gBs (bl i x.testBit))]) (fun i => i ≤ w) (fun i => w - i) 0 (Nat.zero_le _) ?_ ?_
  · exact fun h => sat_le h hC hCl ⟨⟨_, rfl, .refl _⟩, ⟨_, rfl, .refl _⟩, ⟨_, rfl, .refl _⟩, trivial⟩ ⟨.refl _, .refl _, trivial⟩ rfl rfl (Nat.zero_le _)
  rintro i hi ih
  refine sat_branch tabOk Tryz.func43 rfl trivial (fun hb => ?_) (fun hb => ?_) <;> simp only [decide_eq_true_eq, decide_eq_false_iff_not] at hb
  · refine sat_call tabOk Tryz.func43 rfl trivial (rBit_call w x i (by omega)) (.refl _) rfl ⟨_, rfl⟩ (by rintro r o rfl; rfl) ?_
    rintro r o rfl
    rw [bitI'_nat (by omega)]
    refine sat_stop tabOk Tryz.func43 rfl ?_ ?_
    · simp only [List.length_map, bl_len, andP]
      exact ⟨show (i + 1) * 1 ≤ 140737488355328 by omega, trivial⟩
    refine sat_le (ih (i + 1) (by omega) (by omega)) hC hCl ⟨⟨_, rfl, .refl _⟩, ⟨_, rfl, .refl _⟩, ⟨_, rfl, .of (by rw [wrap_id (by omega) (by omega)]; rfl)⟩, trivial⟩ ⟨.refl _, .gL ?_, trivial⟩ rfl rfl (Nat.zero_le _)
    rw [bl_succ, List.map_append]
    rfl
  · obtain rfl : i = w := by omega
    exact sat_retL tabOk Tryz.func43 rfl trivial hC hCl (.refl _) (o2 := [none, some (gBs (bl i x.testBit))]) ⟨.refl _, trivial⟩ rfl rfl (Nat.zero_le _) ⟨rfl, rfl⟩

theorem rExt_ok (w x n : Nat) (s : Bool) (hw : 0 < w) (hwb : w ≤ 128) (hn : w + n ≤ 128) : ACall Tryz.prog 29 [.d (vN w x), vI .i64 n, vB s] [] (fun r o => r = tupOf [.d (vN (w + n) (exN w x n (s && x.testBit (w - 1)))), vI .i64 0]) := by
  refine acall_enter Tryz.func29 rfl rfl (Nat.le_of_ble_eq_true rfl) fun C hC hCl => ?_
  have e1 : IntKind.i64.wrap ((w : Int) - 1) = ((w - 1 : Nat) : Int) := by rw [wrap_id (by omega) (by omega)]; omega
  have e2 : IntKind.i64.wrap (128 - (w : Int)) = ((128 - w : Nat) : Int) := by rw [wrap_id (by omega) (by omega)]; omega
  refine sat_branch tabOk Tryz.func29 rfl trivial (fun h => by simp at h; omega) (fun _ => ?_)
  refine sat_branch tabOk Tryz.func29 rfl trivial (fun h => ?_) (fun _ => ?_)
  · have h : decide ((n : Int) > IntKind.i64.wrap (128 - (w : Int))) = true := h
    rw [e2, decide_eq_true_eq] at h
    omega
  refine sat_callG [] tabOk Tryz.func29 rfl trivial (Bits_callO w x (by omega)) trivial (.refl _) rfl rfl rfl ⟨_, rfl⟩ ?_
  rintro r o ⟨rfl, rfl⟩
  have ecg : bl w x.testBit = bl w fun i => if i < w then x.testBit i else (s && x.testBit (w - 1)) := bl_congr fun i hi => by rw [if_pos hi]
  have etop : (bl w x.testBit).getD (IntKind.i64.wrap ((w : Int) - 1)).toNat false = x.testBit (w - 1) := by
    rw [e1, Int.toNat_natCast]
    exact bl_get (by omega)
  cases s with
  | true =>
    rw [Bool.true_and] at ecg ⊢
    refine sat_branch tabOk Tryz.func29 rfl trivial (fun _ => ?_) (fun h => by cases h)
    refine sat_stop tabOk Tryz.func29 rfl ?_ ?_
    · simp only [List.length_map, bl_len, andP, e1]
      exact ⟨by omega, ⟨by omega, by omega⟩, trivial⟩
    refine sat_while (α := Nat) (fun i => [(1, vI .i64 n), (6, .ptr 1 0), (8, .gs 3), (9, vB (x.testBit (w - 1))), (10, vI .i64 i)]) (fun i => [some (bN w x), some zV, none, some (gBs (bl (w + i) fun i => if i < w then x.testBit i else x.testBit (w - 1)))]) (fun i => i ≤ n) (fun i => n - i) 0 (Nat.zero_le _) ?_ ?_
    · refine fun h => sat_le h hC hCl ⟨⟨_, rfl, .refl _⟩, ⟨_, rfl, .refl _⟩, ⟨_, rfl, .refl _⟩, ⟨_, rfl, .of ?_⟩, ⟨_, rfl, .refl _⟩, trivial⟩ ⟨.refl _, .refl _, .of (by rw [ecg]; rfl), trivial⟩ rfl rfl (Nat.zero_le _)
      show AV.d (eB ((bl w x.testBit).getD (IntKind.i64.wrap ((w : Int) - 1)).toNat false)) = _
      rw [etop]
      rfl
    rintro i hi ih
    refine sat_branch tabOk Tryz.func29 rfl trivial (fun hb => ?_) (fun hb => ?_) <;> simp only [decide_eq_true_eq, decide_eq_false_iff_not] at hb
    · refine sat_stop tabOk Tryz.func29 rfl ?_ ?_
      · simp only [List.length_map, bl_len, andP]
        exact ⟨show (w + i + 1) * 1 ≤ 140737488355328 by omega, trivial⟩
      refine sat_le (ih (i + 1) (by omega) (by omega)) hC hCl ⟨⟨_, rfl, .refl _⟩, ⟨_, rfl, .refl _⟩, ⟨_, rfl, .refl _⟩, ⟨_, rfl, .refl _⟩, ⟨_, rfl, .of (by rw [wrap_id (by omega) (by omega)]; rfl)⟩, trivial⟩ ⟨.refl _, .refl _, .gL ?_, trivial⟩ rfl rfl (Nat.zero_le _)
      rw [← Nat.add_assoc, bl_succ, List.map_append, if_neg (by omega)]
      rfl
    · obtain rfl : i = n := by omega
      refine sat_freeze 3 rfl ?_
      refine sat_call tabOk Tryz.func29 rfl trivial (Of_call (w + i) _ (by omega)) (.refl _) rfl ⟨_, rfl⟩ (by rintro r o rfl; rfl) ?_
      rintro r o rfl
      exact sat_ret tabOk Tryz.func29 rfl trivial rfl
  | false =>
    rw [Bool.false_and] at ecg ⊢
    refine sat_branch tabOk Tryz.func29 rfl trivial (fun h => by cases h) (fun _ => ?_)
    refine sat_stop tabOk Tryz.func29 rfl trivial ?_
    refine sat_while (α := Nat) (fun i => [(1, vI .i64 n), (6, .ptr 1 0), (8, .gs 3), (9, vB (false)), (10, vI .i64 i)]) (fun i => [some (bN w x), some zV, none, some (gBs (bl (w + i) fun i => if i < w then x.testBit i else false))]) (fun i => i ≤ n) (fun i => n - i) 0 (Nat.zero_le _) ?_ ?_
    · exact fun h => sat_le h hC hCl ⟨⟨_, rfl, .refl _⟩, ⟨_, rfl, .refl _⟩, ⟨_, rfl, .refl _⟩, ⟨_, rfl, .refl _⟩, ⟨_, rfl, .refl _⟩, trivial⟩ ⟨.refl _, .refl _, .of (by rw [ecg]; rfl), trivial⟩ rfl rfl (Nat.zero_le _)
    rintro i hi ih
    refine sat_branch tabOk Tryz.func29 rfl trivial (fun hb => ?_) (fun hb => ?_) <;> simp only [decide_eq_true_eq, decide_eq_false_iff_not] at hb
    · refine sat_stop tabOk Tryz.func29 rfl ?_ ?_
      · simp only [List.length_map, bl_len, andP]
        exact ⟨show (w + i + 1) * 1 ≤ 140737488355328 by omega, trivial⟩
      refine sat_le (ih (i + 1) (by omega) (by omega)) hC hCl ⟨⟨_, rfl, .refl _⟩, ⟨_, rfl, .refl _⟩, ⟨_, rfl, .refl _⟩, ⟨_, rfl, .refl _⟩, ⟨_, rfl, .of (by rw [wrap_id (by omega) (by omega)]; rfl)⟩, trivial⟩ ⟨.refl _, .refl _, .gL ?_, trivial⟩ rfl rfl (Nat.zero_le _)
      rw [← Nat.add_assoc, bl_succ, List.map_append, if_neg (by omega)]
      rfl
    · obtain rfl : i = n := by omega
      refine sat_freeze 3 rfl ?_
      refine sat_call tabOk Tryz.func29 rfl trivial (Of_call (w + i) _ (by omega)) (.refl _) rfl ⟨_, rfl⟩ (by rintro r o rfl; rfl) ?_
      rintro r o rfl
      exact sat_ret tabOk Tryz.func29 rfl trivial rfl
theorem rExt_no (w x : Nat) (n : Int) (s : Bool) (hwb : w ≤ 128) (h : n < 0 ∨ (128 : Int) < w + n) : ACall Tryz.prog 29 [.d (vN w x), vI .i64 n, vB s] [] (fun r o => r = tupOf [.d z24, vI .i64 5]) := by
  refine acall_enter Tryz.func29 rfl rfl (Nat.le_of_ble_eq_true rfl) fun C hC hCl => ?_
  have e2 : IntKind.i64.wrap (128 - (w : Int)) = 128 - (w : Int) := wrap_id (by omega) (by omega)
  refine sat_branch tabOk Tryz.func29 rfl trivial (fun _ => ?_) (fun h1 => ?_)
  · refine sat_branch tabOk Tryz.func29 rfl trivial (fun _ => ?_) (fun h => by cases h)
    exact sat_ret tabOk Tryz.func29 rfl trivial rfl
  refine sat_branch tabOk Tryz.func29 rfl trivial (fun _ => ?_) (fun h2 => ?_)
  · exact sat_ret tabOk Tryz.func29 rfl trivial rfl
  · have h2 : decide (n > IntKind.i64.wrap (128 - (w : Int))) = false := h2
    rw [e2] at h2
    simp at h1 h2
    omega
end Go.Proofs.YtclamogkchdkgaaGreatDoor
namespace Go.Proofs.YtclamogkchdkgaaGreatDoor
open Go Ab
set_option maxRecDepth 100000
set_option linter.unusedVariables false
set_option linter.unusedSimpArgs false

theorem div_step (X i : Nat) : X / 2 ^ i = 2 * (X / 2 ^ (i + 1)) + if X.testBit i then 1 else 0 := by
  rw [Nat.pow_succ, ← Nat.div_div_eq_div_mul, Nat.testBit_eq_decide_div_mod_eq]
  have := Nat.mod_add_div (X / 2 ^ i) 2
  rcases Nat.mod_two_eq_zero_or_one (X / 2 ^ i) with h | h <;> simp [h] <;> omega
theorem ofB_top (f : Nat → Bool) {n i : Nat} (hi : i < n) : (ofB f n).testBit i = f i := by rw [ofB_tb]; simp [hi]
theorem ofB_all (f : Nat → Bool) (n : Nat) : ofB f n / 2 ^ n = 0 := Nat.div_eq_of_lt (ofB_lt f n)

theorem rless_call (n : Nat) (f g : Nat → Bool) (hb : n ≤ 1000000) : ACall Tryz.prog 102 [.d (eBs (bl n f)), .d (eBs (bl n g))] [] (fun r o => r = vB (decide (ofB f n < ofB g n))) := by
  refine acall_enter Tryz.func102 rfl rfl (Nat.le_of_ble_eq_true rfl) fun C hC hCl => ?_
  refine sat_stop tabOk Tryz.func102 rfl trivial ?_
  refine sat_while (α := Nat) (fun k => [(0, .d (eBs (bl n f))), (1, .d (eBs (bl n g))), (5, vI .i64 ((n : Int) - 1 - k))]) (fun k => []) (fun k => k ≤ n ∧ ofB f n / 2 ^ (n - k) = ofB g n / 2 ^ (n - k)) (fun k => n - k) 0 ⟨Nat.zero_le _, by rw [Nat.sub_zero, ofB_all, ofB_all]⟩ ?_ ?_
  · refine fun h => sat_le h hC hCl ⟨⟨_, rfl, .refl _⟩, ⟨_, rfl, .refl _⟩, ⟨_, rfl, .of ?_⟩, trivial⟩ trivial rfl rfl (Nat.zero_le _)
    show vI .i64 (IntKind.i64.wrap ((((bl n f).map eB).length : Int) - 1)) = _
    rw [List.length_map, bl_len, wrap_id (by omega) (by omega)]
    simp
  rintro k ⟨hk, he⟩ ih
  refine sat_branch tabOk Tryz.func102 rfl trivial (fun hb => ?_) (fun hb => ?_) <;> simp only [decide_eq_true_eq, decide_eq_false_iff_not] at hb
  · have en : ((n : Int) - 1 - k).toNat = n - 1 - k := by omega
    have hlt : n - 1 - k < n := by omega
    have ef : (bl n f).getD ((n : Int) - 1 - k).toNat false = f (n - 1 - k) := by rw [en]; exact bl_get hlt
    have eg : (bl n g).getD ((n : Int) - 1 - k).toNat false = g (n - 1 - k) := by rw [en]; exact bl_get hlt
    have ew : IntKind.i64.wrap ((n : Int) - 1 - k - 1) = (n : Int) - 1 - ((k + 1 : Nat) : Int) := by rw [wrap_id (by omega) (by omega)]; omega
    have d1 := div_step (ofB f n) (n - 1 - k)
    have d2 := div_step (ofB g n) (n - 1 - k)
    rw [show n - 1 - k + 1 = n - k by omega, ofB_top f hlt] at d1
    rw [show n - 1 - k + 1 = n - k by omega, ofB_top g hlt] at d2
    have hin : ∀ h : Nat → Bool, ((0 : Int) ≤ (n : Int) - 1 - k ∧ (n : Int) - 1 - k < (((bl n h).map eB).length : Nat)) := fun h => by rw [List.length_map, bl_len]; omega
    refine sat_drawT 8 tabOk Tryz.func102 rfl rfl trivial (by kernel_rfl) ?_
    refine ds_done tabOk rfl ⟨hin g, hin f, trivial⟩ ?_
    refine sat_branch tabOk Tryz.func102 rfl trivial (fun h => ?_) (fun h => ?_)
    · have h : ((bl n f).getD ((n : Int) - 1 - k).toNat false != (bl n g).getD ((n : Int) - 1 - k).toNat false) = true := h
      rw [ef, eg] at h
      refine sat_ret tabOk Tryz.func102 rfl ⟨hin g, trivial⟩ ?_
      show vB ((bl n g).getD ((n : Int) - 1 - k).toNat false) = _
      rw [eg]
      congr 4
      cases hf : f (n - 1 - k) <;> cases hg : g (n - 1 - k) <;> rw [hf, hg] at h <;> first | (cases h; done) | skip
      · rw [hf] at d1
        rw [hg] at d2
        simp only [Bool.false_eq_true, if_false, if_true] at d1 d2
        exact (decide_eq_true (Nat.lt_of_div_lt_div (c := 2 ^ (n - 1 - k)) (by omega))).symm
      · rw [hf] at d1
        rw [hg] at d2
        simp only [Bool.false_eq_true, if_false, if_true] at d1 d2
        have : ofB g n < ofB f n := Nat.lt_of_div_lt_div (c := 2 ^ (n - 1 - k)) (by omega)
        exact (decide_eq_false (by omega)).symm
    · have h : ((bl n f).getD ((n : Int) - 1 - k).toNat false != (bl n g).getD ((n : Int) - 1 - k).toNat false) = false := h
      rw [ef, eg] at h
      have h : f (n - 1 - k) = g (n - 1 - k) := by simpa using h
      refine sat_stop tabOk Tryz.func102 rfl trivial ?_
      refine sat_le (ih (k + 1) ⟨by omega, ?_⟩ (by omega)) hC hCl ⟨⟨_, rfl, .refl _⟩, ⟨_, rfl, .refl _⟩, ⟨_, rfl, .of (by rw [← ew])⟩, trivial⟩ trivial rfl rfl (Nat.zero_le _)
      rw [show n - (k + 1) = n - 1 - k by omega, d1, d2, h, he]
  · obtain rfl : k = n := by omega
    refine sat_ret tabOk Tryz.func102 rfl trivial ?_
    rw [Nat.sub_self, Nat.pow_zero, Nat.div_one, Nat.div_one] at he
    rw [he]
    simp
    rfl

/-- How far to shift, by the reference: the number, at most the width. -/
theorem min_step {v b m : Nat} (hb : b ≤ 1) (hm : 0 < m) : min (min v (2 * m) * 2 + b) (2 * m) = min (2 * v + b) (2 * m) := by omega
theorem far_call (m : Nat) (f : Nat → Bool) (hb : m ≤ 1000000) : ACall Tryz.prog 101 [.d (eBs (bl m f))] [] (fun r o => r = vI .i64 ((min (ofB f m) m : Nat) : Int)) := by
  refine acall_enter Tryz.func101 rfl rfl (Nat.le_of_ble_eq_true rfl) fun C hC hCl => ?_
  refine sat_stop tabOk Tryz.func101 rfl trivial ?_
  refine sat_while (α := Nat) (fun k => [(0, .d (eBs (bl m f))), (3, vI .i64 ((min (ofB f m / 2 ^ (m - k)) (2 * m) : Nat) : Int)), (4, vI .i64 ((m : Int) - 1 - k))]) (fun k => []) (fun k => k ≤ m) (fun k => m - k) 0 (Nat.zero_le _) ?_ ?_
  · refine fun h => sat_le h hC hCl ⟨⟨_, rfl, .refl _⟩, ⟨_, rfl, .of ?_⟩, ⟨_, rfl, .of ?_⟩, trivial⟩ trivial rfl rfl (Nat.zero_le _)
    · rw [Nat.sub_zero, ofB_all, Nat.zero_min]
      rfl
    · show vI .i64 (IntKind.i64.wrap ((((bl m f).map eB).length : Int) - 1)) = _
      rw [List.length_map, bl_len, wrap_id (by omega) (by omega)]
      simp
  rintro k hk ih
  refine sat_branch tabOk Tryz.func101 rfl trivial (fun hb => ?_) (fun hb => ?_) <;> simp only [decide_eq_true_eq, decide_eq_false_iff_not] at hb
  · have en : ((m : Int) - 1 - k).toNat = m - 1 - k := by omega
    have hlt : m - 1 - k < m := by omega
    have ef : (bl m f).getD ((m : Int) - 1 - k).toNat false = f (m - 1 - k) := by rw [en]; exact bl_get hlt
    have ew : IntKind.i64.wrap ((m : Int) - 1 - k - 1) = (m : Int) - 1 - ((k + 1 : Nat) : Int) := by rw [wrap_id (by omega) (by omega)]; omega
    have d1 := div_step (ofB f m) (m - 1 - k)
    rw [show m - 1 - k + 1 = m - k by omega, ofB_top f hlt] at d1
    have hin : ((0 : Int) ≤ (m : Int) - 1 - k ∧ (m : Int) - 1 - k < (((bl m f).map eB).length : Nat)) := by rw [List.length_map, bl_len]; omega
    have hv : min (ofB f m / 2 ^ (m - k)) (2 * m) ≤ 2 * m := Nat.min_le_right _ _
    have w1 : IntKind.i64.wrap (((min (ofB f m / 2 ^ (m - k)) (2 * m) : Nat) : Int) * 2) = ((min (ofB f m / 2 ^ (m - k)) (2 * m) * 2 : Nat) : Int) := by rw [wrap_id (by omega) (by omega)]; omega
    have w2 : IntKind.i64.wrap (2 * (m : Int)) = ((2 * m : Nat) : Int) := by rw [wrap_id (by omega) (by omega)]; omega
    refine sat_branch tabOk Tryz.func101 rfl ⟨hin, trivial⟩ (fun h => ?_) (fun h => ?_) <;> rw [ef] at h
    · refine sat_stop tabOk Tryz.func101 rfl trivial ?_
      refine sat_le (ih (k + 1) (by omega) (by omega)) hC hCl ⟨⟨_, rfl, .refl _⟩, ⟨_, rfl, .of ?_⟩, ⟨_, rfl, .of (by rw [← ew])⟩, trivial⟩ trivial rfl rfl (Nat.zero_le _)
      refine congrArg (fun z : Int => vI .i64 z) ?_
      rw [List.length_map, bl_len, w1, w2, wrap_id (n := ((min (ofB f m / 2 ^ (m - k)) (2 * m) * 2 : Nat) : Int) + 1) (by omega) (by omega), show m - (k + 1) = m - 1 - k by omega, d1, h]
      simp only [if_true]
      omega
    · refine sat_stop tabOk Tryz.func101 rfl trivial ?_
      refine sat_le (ih (k + 1) (by omega) (by omega)) hC hCl ⟨⟨_, rfl, .refl _⟩, ⟨_, rfl, .of ?_⟩, ⟨_, rfl, .of (by rw [← ew])⟩, trivial⟩ trivial rfl rfl (Nat.zero_le _)
      refine congrArg (fun z : Int => vI .i64 z) ?_
      rw [List.length_map, bl_len, w1, w2, show m - (k + 1) = m - 1 - k by omega, d1, h]
      simp only [Bool.false_eq_true, if_false]
      omega
  · obtain rfl : k = m := by omega
    refine sat_ret tabOk Tryz.func101 rfl trivial ?_
    refine congrArg (fun z : Int => vI .i64 z) ?_
    rw [List.length_map, bl_len, Nat.sub_self, Nat.pow_zero, Nat.div_one]
    omega
end Go.Proofs.YtclamogkchdkgaaGreatDoor
namespace Go.Proofs.YtclamogkchdkgaaGreatDoor
open Go Ab
set_option maxRecDepth 100000
set_option linter.unusedVariables false
set_option linter.unusedSimpArgs false

theorem adS_bl (m : Nat) (f g : Nat → Bool) (c : Bool) : bl m (adS f g c) = bl m ((ofB f m + ofB g m + (if c then 1 else 0)) % 2 ^ m).testBit := bl_congr fun i hi => by
  rw [← adS_mod, ofB_top _ hi]
theorem shF_up (x m i : Nat) : ofB (shF x.testBit m i false) m = x * 2 ^ i % 2 ^ m := ofB_eq (Nat.mod_lt _ (Nat.two_pow_pos _)) fun j hj => by
  rw [Nat.testBit_mod_two_pow, Nat.testBit_mul_two_pow, shF]
  by_cases h : i ≤ j
  · rw [if_pos (by omega), show ((j : Int) - i).toNat = j - i by omega]
    simp [hj, h]
  · rw [if_neg (by omega)]
    simp [h]
theorem zero_bl {m : Nat} {f : Nat → Bool} (h : ∀ i, f i = false) : (bl m f).map eB = List.replicate m (eB false) := by
  rw [bl, List.map_map, List.eq_replicate_iff]
  refine ⟨by simp, fun b hb => ?_⟩
  obtain ⟨i, _, rfl⟩ := List.mem_map.1 hb
  show eB (f i) = _
  rw [h]
theorem prI_lt (m x y i : Nat) : prI m x y i < 2 ^ m := Nat.mod_lt _ (Nat.two_pow_pos _)

theorem rmul_call (m x y : Nat) (hy : y < 2 ^ m) (hb : m ≤ 100000) : ACall Tryz.prog 98 [.d (eBs (bl m x.testBit)), .d (eBs (bl m y.testBit))] [] (fun r o => r = .d (eBs (bl m (x * y % 2 ^ m).testBit))) := by
  refine acall_enter Tryz.func98 rfl rfl (Nat.le_of_ble_eq_true rfl) fun C hC hCl => ?_
  refine sat_stop tabOk Tryz.func98 rfl ?_ ?_
  · simp only [List.length_map, bl_len, andP]
    exact ⟨⟨by omega, by omega, show (m : Int) * (1 : Int) ≤ _ by omega⟩, trivial⟩
  refine sat_freeze 0 rfl ?_
  refine sat_while (α := Nat) (fun i => [(0, .d (eBs (bl m x.testBit))), (1, .d (eBs (bl m y.testBit))), (5, .d (eBs (bl m (prI m x y i).testBit))), (6, vI .i64 i)]) (fun i => []) (fun i => i ≤ m) (fun i => m - i) 0 (Nat.zero_le _) ?_ ?_
  · refine fun h => sat_le h hC hCl ⟨⟨_, rfl, .refl _⟩, ⟨_, rfl, .refl _⟩, ⟨_, rfl, .eL ?_⟩, ⟨_, rfl, .refl _⟩, trivial⟩ trivial rfl rfl (Nat.zero_le _)
    rw [List.length_map, bl_len, Int.toNat_natCast, zero_bl (f := (prI m x y 0).testBit) fun i => by simp [prI, Nat.mod_one]]
    rfl
  rintro i hi ih
  refine sat_branch tabOk Tryz.func98 rfl trivial (fun hb => ?_) (fun hb => ?_) <;> simp only [decide_eq_true_eq, decide_eq_false_iff_not, List.length_map, bl_len] at hb
  · have hbd : ((0 : Int) ≤ (i : Nat) ∧ ((i : Nat) : Int) < (m : Int)) ∧ True := ⟨⟨by omega, by omega⟩, trivial⟩
    have ef : ((bl m y.testBit).getD ((i : Nat) : Int).toNat false) = y.testBit i := bl_get (f := y.testBit) (show i < m by omega)
    refine sat_branch tabOk Tryz.func98 rfl (by simpa [bl_len] using hbd) (fun h1 => ?_) (fun h1 => ?_) <;> rw [ef] at h1
    · refine sat_call tabOk Tryz.func98 rfl trivial (shift_call m x.testBit i false (by omega) (by omega)) (.refl _) rfl ⟨_, rfl⟩ (by rintro r o rfl; rfl) ?_
      rintro r o rfl
      refine sat_call tabOk Tryz.func98 rfl trivial (rAdd_call m (prI m x y i).testBit (shF x.testBit m i false) false (by omega)) (.refl _) rfl ⟨_, rfl⟩ (by rintro r o rfl; rfl) ?_
      rintro r o rfl
      refine sat_stop tabOk Tryz.func98 rfl trivial ?_
      refine sat_le (ih (i + 1) (by omega) (by omega)) hC hCl ⟨⟨_, rfl, .refl _⟩, ⟨_, rfl, .refl _⟩, ⟨_, rfl, .of ?_⟩, ⟨_, rfl, .of (by rw [wrap_id (by omega) (by omega)]; rfl)⟩, trivial⟩ trivial rfl rfl (Nat.zero_le _)
      rw [adS_bl, shF_up, ofB_self (prI_lt _ _ _ _), prI_t h1]
      rfl
    · refine sat_stop tabOk Tryz.func98 rfl trivial ?_
      exact sat_le (ih (i + 1) (by omega) (by omega)) hC hCl ⟨⟨_, rfl, .refl _⟩, ⟨_, rfl, .refl _⟩, ⟨_, rfl, .of (by rw [prI_f h1])⟩, ⟨_, rfl, .of (by rw [wrap_id (by omega) (by omega)]; rfl)⟩, trivial⟩ trivial rfl rfl (Nat.zero_le _)
  · obtain rfl : i = m := by omega
    refine sat_ret tabOk Tryz.func98 rfl trivial ?_
    rw [prI, Nat.mod_eq_of_lt hy]
    rfl
end Go.Proofs.YtclamogkchdkgaaGreatDoor
namespace Go.Proofs.YtclamogkchdkgaaGreatDoor
open Go Ab
set_option linter.unusedVariables false
set_option linter.unusedSimpArgs false

/-! ### Division, a bit at a time -/
def quN (m x y : Nat) : Nat := if y = 0 then 2 ^ m - 1 else x / y
def reN (x y : Nat) : Nat := if y = 0 then x else x % y
def dvA (m x k : Nat) : Nat := x / 2 ^ (m - k)
def dvR (m x y k : Nat) : Nat := reN (dvA m x k) y
def dvQ (m x y k : Nat) (i : Nat) : Bool := decide (m - k ≤ i) && (quN m x y).testBit i
theorem dvA_step {m x k : Nat} (hk : k < m) : dvA m x (k + 1) = 2 * dvA m x k + if x.testBit (m - 1 - k) then 1 else 0 := by
  have := div_step x (m - 1 - k)
  rw [show m - 1 - k + 1 = m - k by omega] at this
  rw [dvA, dvA, show m - (k + 1) = m - 1 - k by omega, this]
theorem dvA_lt {m x k : Nat} (hx : x < 2 ^ m) (hk : k ≤ m) : dvA m x k < 2 ^ k := by
  rw [dvA, Nat.div_lt_iff_lt_mul (Nat.two_pow_pos _), ← Nat.pow_add]
  rwa [show k + (m - k) = m by omega]
theorem reN_le (x y : Nat) : reN x y ≤ x := by
  unfold reN
  split
  · exact Nat.le_refl _
  · exact Nat.mod_le _ _
theorem dvR_lt {m x y k : Nat} (hx : x < 2 ^ m) (hk : k ≤ m) : dvR m x y k < 2 ^ k := Nat.lt_of_le_of_lt (reN_le _ _) (dvA_lt hx hk)
theorem dvR_zero {m x y : Nat} (hx : x < 2 ^ m) : dvR m x y 0 = 0 := by
  have := dvR_lt (y := y) hx (Nat.zero_le m)
  simpa using this
theorem dvR_end (m x y : Nat) : dvR m x y m = reN x y := by rw [dvR, dvA, Nat.sub_self, Nat.pow_zero, Nat.div_one]
/-- One step: the doubled rest, the next bit behind it; y is taken off where it goes. -/
theorem dvR_step {m x y k : Nat} (hk : k < m) : dvR m x y (k + 1) = (if 2 * dvR m x y k + (if x.testBit (m - 1 - k) then 1 else 0) < y then 2 * dvR m x y k + (if x.testBit (m - 1 - k) then 1 else 0) else 2 * dvR m x y k + (if x.testBit (m - 1 - k) then 1 else 0) - y) := by
  have hA := dvA_step (x := x) hk
  generalize hb : (if x.testBit (m - 1 - k) then 1 else 0) = b at *
  have hb1 : b ≤ 1 := by rw [← hb]; split <;> omega
  unfold dvR reN
  by_cases hy : y = 0
  · subst hy
    simp [hA]
  · simp only [hy, if_false]
    rw [hA]
    have hr := Nat.mod_lt (dvA m x k) (Nat.pos_of_ne_zero hy)
    have hd := Nat.mod_add_div (dvA m x k) y
    generalize dvA m x k % y = r at *
    generalize dvA m x k / y = q at *
    have e : 2 * dvA m x k + b = 2 * r + b + y * (2 * q) := by rw [← hd, Nat.mul_add, Nat.mul_left_comm]; omega
    rw [e, Nat.add_mul_mod_self_left]
    split
    · rename_i h
      exact Nat.mod_eq_of_lt h
    · rename_i h
      rw [Nat.mod_eq_sub_mod (by omega), Nat.mod_eq_of_lt (by omega)]
theorem dvQ_step {m x y k : Nat} (hk : k < m) : (quN m x y).testBit (m - 1 - k) = !decide (2 * dvR m x y k + (if x.testBit (m - 1 - k) then 1 else 0) < y) := by
  have hA := dvA_step (x := x) hk
  generalize hb : (if x.testBit (m - 1 - k) then 1 else 0) = b at *
  have hb1 : b ≤ 1 := by rw [← hb]; split <;> omega
  unfold dvR reN quN
  by_cases hy : y = 0
  · subst hy
    simp only [if_true]
    rw [Nat.testBit_two_pow_sub_one]
    simp
    omega
  · simp only [hy, if_false]
    have hdd : x / y / 2 ^ (m - 1 - k) = dvA m x (k + 1) / y := by
      rw [dvA, show m - (k + 1) = m - 1 - k by omega, Nat.div_div_eq_div_mul, Nat.div_div_eq_div_mul, Nat.mul_comm]
    rw [Nat.testBit_eq_decide_div_mod_eq, hdd, hA]
    have hr := Nat.mod_lt (dvA m x k) (Nat.pos_of_ne_zero hy)
    have hd := Nat.mod_add_div (dvA m x k) y
    generalize dvA m x k % y = r at *
    generalize dvA m x k / y = q at *
    have e : 2 * dvA m x k + b = 2 * r + b + y * (2 * q) := by rw [← hd, Nat.mul_add, Nat.mul_left_comm]; omega
    rw [e, Nat.add_mul_div_left _ _ (Nat.pos_of_ne_zero hy)]
    by_cases h : 2 * r + b < y
    · rw [Nat.div_eq_of_lt h]
      simp [h]
    · have : (2 * r + b) / y = 1 := by
        rw [Nat.div_eq_iff (Nat.pos_of_ne_zero hy)]
        omega
      rw [this]
      simp [h]
theorem quN_lt {m x y : Nat} (hx : x < 2 ^ m) : quN m x y < 2 ^ m := by
  have := Nat.two_pow_pos m
  unfold quN
  split
  · omega
  · exact Nat.lt_of_le_of_lt (Nat.div_le_self _ _) hx
theorem dvQ_end (m x y i : Nat) : dvQ m x y m i = (quN m x y).testBit i := by simp [dvQ]
theorem dvQ_zero {m x y i : Nat} (hi : i < m) : dvQ m x y 0 i = false := by simp [dvQ]; omega
end Go.Proofs.YtclamogkchdkgaaGreatDoor
namespace Go.Proofs.YtclamogkchdkgaaGreatDoor
open Go Ab
set_option maxRecDepth 100000
set_option linter.unusedVariables false
set_option linter.unusedSimpArgs false

theorem shF_dbl {r m : Nat} {b : Bool} (hr : r < 2 ^ m) : ofB (shF r.testBit (m + 1) 1 b) (m + 1) = 2 * r + if b then 1 else 0 := ofB_eq (by rw [Nat.pow_succ]; split <;> omega) fun j hj => by
  rw [shF]
  cases j with
  | zero => cases b <;> simp
  | succ j =>
    rw [if_pos (by omega), show (((j + 1 : Nat) : Int) - 1).toNat = j by omega, Nat.testBit_succ]
    congr 1
    split <;> omega
theorem _root_.Ab.VLe.tp2 {cs ds : List AV} (h : VLs cs ds) : VLe (.tp cs) (.tp ds) := fun w ok π v hv => by
  cases hv with | tp h2 => exact .tp (h.rel h2)
theorem bl_tb (n : Nat) (f : Nat → Bool) : bl n f = bl n (ofB f n).testBit := bl_congr fun i hi => (ofB_top f hi).symm
theorem not_ofB {m y : Nat} (hy : y < 2 ^ m) : ofB (fun i => !y.testBit i) m = 2 ^ m - (y + 1) := ofB_eq (by omega) fun j hj => by
  rw [Nat.testBit_two_pow_sub_succ hy]
  simp [hj]
theorem by_bl {m y : Nat} (hy : y < 2 ^ m) : bl m y.testBit ++ [false] = bl (m + 1) y.testBit := by
  rw [bl_succ, tb_ge hy (Nat.le_refl _)]
theorem dvQ_set {m x y k : Nat} (hk : k < m) (h : (quN m x y).testBit (m - 1 - k) = true) : (bl m (dvQ m x y k)).set (m - 1 - k) true = bl m (dvQ m x y (k + 1)) := by
  apply List.ext_getElem?
  intro i
  rw [List.getElem?_set]
  simp only [bl_len]
  by_cases hi : i < m
  · have e1 : (bl m (dvQ m x y k))[i]? = some (dvQ m x y k i) := by simp [bl, hi]
    have e2 : (bl m (dvQ m x y (k + 1)))[i]? = some (dvQ m x y (k + 1) i) := by simp [bl, hi]
    rw [e1, e2]
    by_cases e : m - 1 - k = i
    · subst e
      simp only [if_true, hi]
      simp [dvQ, h]
      omega
    · rw [if_neg e]
      simp only [dvQ]
      congr 2
      exact decide_eq_decide.2 (by omega)
  · rw [if_neg (by omega), List.getElem?_eq_none (by rw [bl_len]; omega), List.getElem?_eq_none (by rw [bl_len]; omega)]
theorem dvQ_same {m x y k : Nat} (hk : k < m) (h : (quN m x y).testBit (m - 1 - k) = false) : bl m (dvQ m x y k) = bl m (dvQ m x y (k + 1)) := bl_congr fun i hi => by
  simp only [dvQ]
  by_cases e : m - 1 - k = i
  · subst e; simp [h]
  · congr 1
    exact decide_eq_decide.2 (by omega)

theorem rdiv_call (m x y : Nat) (hx : x < 2 ^ m) (hy : y < 2 ^ m) (hb : m ≤ 100000) : ACall Tryz.prog 99 [.d (eBs (bl m x.testBit)), .d (eBs (bl m y.testBit))] [] (fun r o => r = .tp [.d (eBs (bl m (quN m x y).testBit)), .d (eBs (bl m (reN x y).testBit))]) := by
  refine acall_enter Tryz.func99 rfl rfl (Nat.le_of_ble_eq_true rfl) fun C hC hCl => ?_
  have em : IntKind.i64.wrap ((m : Int) + 1) = ((m + 1 : Nat) : Int) := by rw [wrap_id (by omega) (by omega)]; omega
  refine sat_stop tabOk Tryz.func99 rfl ?_ ?_
  · simp only [List.length_map, bl_len, andP, em]
    exact ⟨show (m + 1) * 1 ≤ 140737488355328 by omega, by omega, ⟨by omega, by omega, show ((m + 1 : Nat) : Int) * (1 : Int) ≤ _ by omega⟩, ⟨by omega, by omega, show (m : Int) * (1 : Int) ≤ _ by omega⟩, trivial⟩
  refine sat_freeze 1 rfl ?_
  refine sat_freeze 2 rfl ?_
  refine sat_while (α := Nat) (fun k => [(0, .d (eBs (bl m x.testBit))), (6, .gs 0), (7, .d (eBs (bl (m + 1) (dvR m x y k).testBit))), (8, .d (eBs (bl (m + 1) y.testBit))), (9, vI .i64 ((m : Int) - 1 - k))]) (fun k => [some (gBs (bl m (dvQ m x y k)))]) (fun k => k ≤ m) (fun k => m - k) 0 (Nat.zero_le _) ?_ ?_
  · refine fun h => sat_le h hC hCl ⟨⟨_, rfl, .refl _⟩, ⟨_, rfl, .refl _⟩, ⟨_, rfl, .eL ?_⟩, ⟨_, rfl, .eL ?_⟩, ⟨_, rfl, .of ?_⟩, trivial⟩ ⟨.gL ?_, trivial⟩ rfl rfl (Nat.zero_le _)
    · rw [List.length_map, bl_len, em, Int.toNat_natCast, dvR_zero hx, zero_bl fun i => Nat.zero_testBit i]
      rfl
    · rw [← by_bl hy, List.map_append]
      rfl
    · show vI .i64 (IntKind.i64.wrap ((((bl m x.testBit).map eB).length : Int) - 1)) = _
      rw [List.length_map, bl_len, wrap_id (by omega) (by omega)]
      simp
    · rw [List.length_map, bl_len, Int.toNat_natCast, bl_congr (g := fun _ => false) fun i hi => dvQ_zero hi, zero_bl fun i => rfl]
      rfl
  rintro k hk ih
  refine sat_branch tabOk Tryz.func99 rfl trivial (fun hb => ?_) (fun hb => ?_) <;> simp only [decide_eq_true_eq, decide_eq_false_iff_not] at hb
  · have en : ((m : Int) - 1 - k).toNat = m - 1 - k := by omega
    have hlt : m - 1 - k < m := by omega
    have ef : (bl m x.testBit).getD ((m : Int) - 1 - k).toNat false = x.testBit (m - 1 - k) := by rw [en]; exact bl_get hlt
    have ew : IntKind.i64.wrap ((m : Int) - 1 - k - 1) = (m : Int) - 1 - ((k + 1 : Nat) : Int) := by rw [wrap_id (by omega) (by omega)]; omega
    have hin : ((0 : Int) ≤ (m : Int) - 1 - k ∧ (m : Int) - 1 - k < (((bl m x.testBit).map eB).length : Nat)) := by rw [List.length_map, bl_len]; omega
    have hR : dvR m x y k < 2 ^ m := Nat.lt_of_lt_of_le (dvR_lt hx (by omega)) (Nat.pow_le_pow_right (by decide) (by omega))
    have hs := dvR_step (x := x) (y := y) (show k < m by omega)
    have hq := dvQ_step (x := x) (y := y) (show k < m by omega)
    have hsh := bl_tb (m + 1) (shF (dvR m x y k).testBit (m + 1) 1 (x.testBit (m - 1 - k)))
    rw [shF_dbl hR] at hsh
    have h2 : 2 * dvR m x y k + (if x.testBit (m - 1 - k) then 1 else 0) < 2 ^ (m + 1) := by rw [Nat.pow_succ]; split <;> omega
    have q1 := shift_call (m + 1) (dvR m x y k).testBit 1 (x.testBit (m - 1 - k)) (by omega) (by omega)
    rw [hsh] at q1
    generalize hR2 : 2 * dvR m x y k + (if x.testBit (m - 1 - k) then 1 else 0) = R2 at *
    have hy2 : y < 2 ^ (m + 1) := Nat.lt_trans hy (Nat.pow_lt_pow_right (by decide) (by omega))
    have q2 := rless_call (m + 1) R2.testBit y.testBit (by omega)
    rw [ofB_self h2, ofB_self hy2] at q2
    refine sat_call tabOk Tryz.func99 rfl ⟨hin, trivial⟩ q1 ⟨.refl _, .refl _, .of (by show vB ((bl m x.testBit).getD ((m : Int) - 1 - k).toNat false) = _; rw [ef]), trivial⟩ rfl ⟨_, rfl⟩ (by rintro r o rfl; rfl) ?_
    rintro r o rfl
    refine sat_call tabOk Tryz.func99 rfl trivial q2 (.refl _) rfl ⟨_, rfl⟩ (by rintro r o rfl; rfl) ?_
    rintro r o rfl
    refine sat_branch tabOk Tryz.func99 rfl trivial (fun h => ?_) (fun h => ?_)
    · have h : ¬ R2 < y := by simpa using h
      rw [if_neg h] at hs
      rw [decide_eq_false h] at hq
      have q3 := rSub_call (m + 1) R2.testBit y.testBit (by omega)
      rw [adS_bl, ofB_self h2, not_ofB hy2, show (R2 + (2 ^ (m + 1) - (y + 1)) + (if true = true then 1 else 0)) = (R2 - y) + 2 ^ (m + 1) by simp only [if_true]; omega, Nat.add_mod_right, Nat.mod_eq_of_lt (by omega), ← hs] at q3
      refine sat_call tabOk Tryz.func99 rfl trivial q3 (.refl _) rfl ⟨_, rfl⟩ (by rintro r o rfl; rfl) ?_
      rintro r o rfl
      refine sat_stop tabOk Tryz.func99 rfl ?_ ?_
      · simp only [List.length_map, bl_len, andP]
        exact ⟨by omega, ⟨by omega, by omega⟩, trivial⟩
      refine sat_le (ih (k + 1) (by omega) (by omega)) hC hCl ⟨⟨_, rfl, .refl _⟩, ⟨_, rfl, .refl _⟩, ⟨_, rfl, .refl _⟩, ⟨_, rfl, .refl _⟩, ⟨_, rfl, .of (by rw [← ew])⟩, trivial⟩ ⟨.gL ?_, trivial⟩ rfl rfl (Nat.zero_le _)
      rw [← dvQ_set (by omega) hq, List.map_set, en]
      rfl
    · have h : R2 < y := by simpa using h
      rw [if_pos h] at hs
      rw [decide_eq_true h] at hq
      refine sat_stop tabOk Tryz.func99 rfl trivial ?_
      refine sat_le (ih (k + 1) (by omega) (by omega)) hC hCl ⟨⟨_, rfl, .refl _⟩, ⟨_, rfl, .refl _⟩, ⟨_, rfl, .of (by rw [hs])⟩, ⟨_, rfl, .refl _⟩, ⟨_, rfl, .of (by rw [← ew])⟩, trivial⟩ ⟨.of (by rw [dvQ_same (by omega) hq]), trivial⟩ rfl rfl (Nat.zero_le _)
  · obtain rfl : k = m := by omega
    refine sat_freeze 0 rfl ?_
    refine sat_drawT 6 tabOk Tryz.func99 rfl rfl trivial (by kernel_rfl) ?_
    refine ds_done tabOk rfl ?_ ?_
    · simp only [List.length_map, bl_len]
      exact ⟨⟨by omega, by omega, by omega⟩, trivial⟩
    refine sat_retL tabOk Tryz.func99 rfl trivial hC hCl (r2 := .tp [.d (eBs (bl k (quN k x y).testBit)), .d (eBs (bl k (reN x y).testBit))]) (.tp2 ⟨.of ?_, .eL ?_, trivial⟩) (o2 := []) trivial rfl rfl (Nat.zero_le _) rfl
    · rw [bl_congr (g := (quN k x y).testBit) fun i hi => dvQ_end k x y i]
      rfl
    · rw [List.length_map, bl_len, dvR_end, bl_succ]
      simp [bl, List.take_append]
end Go.Proofs.YtclamogkchdkgaaGreatDoor
namespace Go.Proofs.YtclamogkchdkgaaGreatDoor
open Go Ab
set_option maxRecDepth 100000
set_option linter.unusedVariables false
set_option linter.unusedSimpArgs false
set_option maxHeartbeats 400000

/-- How many bits of a number are set. -/
def onN (w x : Nat) : Nat := (bl w x.testBit).count true
/-- What 'Un' answers, whatever the word. -/
def unR (op : List UInt8) (w x : Nat) : AV :=
  if op = sNot then tupOf [.d (vN w (2 ^ w - (x + 1))), vI .i64 0]
  else if op = sInc then tupOf [.d (vN w ((x + 1) % 2 ^ w)), vI .i64 0]
  else if op = sDec then tupOf [.d (vN w ((x + (2 ^ w - 1)) % 2 ^ w)), vI .i64 0]
  else if op = sNeg then tupOf [.d (vN w ((0 + (2 ^ w - (x + 1)) + 1) % 2 ^ w)), vI .i64 0]
  else if op = sRedand then tupOf [.d (vN 1 (if onN w x = w then 1 else 0)), vI .i64 0]
  else if op = sRedor then tupOf [.d (vN 1 (if 0 < onN w x then 1 else 0)), vI .i64 0]
  else if op = sRedxor then tupOf [.d (vN 1 (if onN w x % 2 = 1 then 1 else 0)), vI .i64 0]
  else tupOf [.d z24, vI .i64 1]
theorem flag_ofB (b : Bool) : ofB (fun _ => b) 1 = if b then 1 else 0 := by cases b <;> rfl

theorem beqN (a b : Nat) : ((a : Int) == (b : Int)) = decide (a = b) := by
  by_cases h : a = b
  · subst h; simp
  · have : (a : Int) ≠ b := by omega
    simp [h, this]
theorem OfN_call (w N : Nat) (hN : N < 2 ^ w) (hb : w ≤ 1000000) : ACall Tryz.prog 36 [.d (eBs (bl w N.testBit))] [] (fun r o => r = .d (vN w N)) := by
  have := Of_call w N.testBit hb
  rwa [ofB_self hN] at this
theorem rUn_call (op : List UInt8) (w x : Nat) (hx : x < 2 ^ w) (hw : 0 < w) (hb : w ≤ 128) : ACall Tryz.prog 23 [vSL op, .d (vN w x)] [] (fun r o => r = unR op w x) := by
  refine acall_enter Tryz.func23 rfl rfl (Nat.le_of_ble_eq_true rfl) fun C hC hCl => ?_
  have hcw : (bl w x.testBit).count true ≤ w := by
    have := List.count_le_length (a := true) (l := bl w x.testBit)
    rwa [bl_len] at this
  have hst : ∀ k : List UInt8, ((⟨op.toArray⟩ : ByteArray).toList == (⟨k.toArray⟩ : ByteArray).toList) = decide (op = k) := fun k => strE op k
  refine sat_call tabOk Tryz.func23 rfl trivial (Bits_call w x (by omega)) (.refl _) rfl ⟨_, rfl⟩ (by rintro r o rfl; rfl) ?_
  rintro r o rfl
  refine sat_branch tabOk Tryz.func23 rfl ?_ (fun h => ?_) (fun h1 => ?_)
  · simp only [List.length_map, bl_len, andP]
    exact ⟨⟨by omega, by omega, show (w : Int) * (1 : Int) ≤ _ by omega⟩, trivial⟩
  · have h := (hst sNot).symm.trans h
    have h : op = sNot := by simpa using h
    refine sat_call tabOk Tryz.func23 rfl trivial (not_call w x.testBit (by omega)) (.refl _) rfl ⟨_, rfl⟩ (by rintro r o rfl; rfl) ?_
    rintro r o rfl
    refine sat_call tabOk Tryz.func23 rfl trivial (Of_call w (fun i => !x.testBit i) (by omega)) (.refl _) rfl ⟨_, rfl⟩ (by rintro r o rfl; rfl) ?_
    rintro r o rfl
    refine sat_ret tabOk Tryz.func23 rfl trivial ?_
    rw [unR, if_pos h, not_ofB hx]
    rfl
  have h1 := (hst sNot).symm.trans h1
  have h1 : ¬ op = sNot := by simpa using h1
  refine sat_freeze 2 rfl ?_
  refine sat_le (env' := [(4, .ptr 1 0), (6, .d (eBs (bl w x.testBit))), (7, .d (eBs (bl w fun _ => false))), (13, vSL op), (14, .lit false)]) (objs' := [none, some zV]) ?_ hC hCl ⟨⟨_, rfl, .refl _⟩, ⟨_, rfl, .refl _⟩, ⟨_, rfl, .eL ?_⟩, ⟨_, rfl, .refl _⟩, ⟨_, rfl, .refl _⟩, trivial⟩ ⟨.refl _, trivial⟩ rfl rfl (Nat.zero_le _)
  rotate_left
  · rw [List.length_map, bl_len, Int.toNat_natCast, zero_bl fun i => rfl]
    rfl
  have hp : 0 < 2 ^ w := Nat.two_pow_pos w
  have z0 : ∀ n, ofB (fun _ => false) n = 0 := fun n => by
    induction n with
    | zero => rfl
    | succ n ih => simp [ofB, ih]
  have z1 : ofB (fun _ => !false) w = 2 ^ w - 1 := by
    have := not_ofB (m := w) (y := 0) hp
    simpa using this
  have a1 := rAdd_call w x.testBit (fun _ => false) true (by omega)
  rw [adS_bl, ofB_self hx, z0, Nat.add_zero, if_pos rfl] at a1
  have a2 := not_call w (fun _ => false) (by omega)
  have a3 := rAdd_call w x.testBit (fun _ => !false) false (by omega)
  rw [adS_bl, ofB_self hx, z1, if_neg (by simp), Nat.add_zero] at a3
  have a4 := rSub_call w (fun _ => false) x.testBit (by omega)
  rw [adS_bl, z0, not_ofB hx, if_pos rfl] at a4
  have a5 := many_call w x.testBit (by omega)
  have hcn : (bl w x.testBit).count true = onN w x := rfl
  rw [hcn] at a5 hcw
  generalize hcn2 : onN w x = cn at a5 hcw hcn
  have o1 := OfN_call w ((x + 1) % 2 ^ w) (Nat.mod_lt _ hp) (by omega)
  have o2 := OfN_call w ((x + (2 ^ w - 1)) % 2 ^ w) (Nat.mod_lt _ hp) (by omega)
  have o3 := OfN_call w ((0 + (2 ^ w - (x + 1)) + 1) % 2 ^ w) (Nat.mod_lt _ hp) (by omega)
  refine sat_branch tabOk Tryz.func23 rfl trivial (fun h => ?_) (fun h2 => ?_)
  · have h := (hst sInc).symm.trans h
    have h : op = sInc := by simpa using h
    refine sat_call tabOk Tryz.func23 rfl trivial a1 (.refl _) rfl ⟨_, rfl⟩ (by rintro r o rfl; rfl) ?_
    rintro r o rfl
    refine sat_call tabOk Tryz.func23 rfl trivial o1 (.refl _) rfl ⟨_, rfl⟩ (by rintro r o rfl; rfl) ?_
    rintro r o rfl
    refine sat_ret tabOk Tryz.func23 rfl trivial ?_
    rw [unR, if_neg h1, if_pos h]
    rfl
  have h2 := (hst sInc).symm.trans h2
  have h2 : ¬ op = sInc := by simpa using h2
  refine sat_branch tabOk Tryz.func23 rfl trivial (fun h => ?_) (fun h3 => ?_)
  · have h := (hst sDec).symm.trans h
    have h : op = sDec := by simpa using h
    refine sat_call tabOk Tryz.func23 rfl trivial a2 (.refl _) rfl ⟨_, rfl⟩ (by rintro r o rfl; rfl) ?_
    rintro r o rfl
    refine sat_call tabOk Tryz.func23 rfl trivial a3 (.refl _) rfl ⟨_, rfl⟩ (by rintro r o rfl; rfl) ?_
    rintro r o rfl
    refine sat_call tabOk Tryz.func23 rfl trivial o2 (.refl _) rfl ⟨_, rfl⟩ (by rintro r o rfl; rfl) ?_
    rintro r o rfl
    refine sat_ret tabOk Tryz.func23 rfl trivial ?_
    rw [unR, if_neg h1, if_neg h2, if_pos h]
    rfl
  have h3 := (hst sDec).symm.trans h3
  have h3 : ¬ op = sDec := by simpa using h3
  refine sat_branch tabOk Tryz.func23 rfl trivial (fun h => ?_) (fun h4 => ?_)
  · have h := (hst sNeg).symm.trans h
    have h : op = sNeg := by simpa using h
    refine sat_call tabOk Tryz.func23 rfl trivial a4 (.refl _) rfl ⟨_, rfl⟩ (by rintro r o rfl; rfl) ?_
    rintro r o rfl
    refine sat_call tabOk Tryz.func23 rfl trivial o3 (.refl _) rfl ⟨_, rfl⟩ (by rintro r o rfl; rfl) ?_
    rintro r o rfl
    refine sat_ret tabOk Tryz.func23 rfl trivial ?_
    rw [unR, if_neg h1, if_neg h2, if_neg h3, if_pos h]
    rfl
  have h4 := (hst sNeg).symm.trans h4
  have h4 : ¬ op = sNeg := by simpa using h4
  refine sat_branch tabOk Tryz.func23 rfl trivial (fun h => ?_) (fun h5 => ?_)
  · have h := (hst sRedand).symm.trans h
    have h : op = sRedand := by simpa using h
    refine sat_call tabOk Tryz.func23 rfl trivial a5 (.refl _) rfl ⟨_, rfl⟩ (by rintro r o rfl; rfl) ?_
    rintro r o rfl
    refine sat_call tabOk Tryz.func23 rfl trivial (rFlag_call (decide (cn = w))) ⟨.of ?_, trivial⟩ rfl ⟨_, rfl⟩ (by rintro r o rfl; rfl) ?_
    · show vB (((cn : Nat) : Int) == ((((bl w x.testBit).map eB).length : Nat) : Int)) = _
      rw [List.length_map, bl_len, beqN]
    rintro r o rfl
    refine sat_call tabOk Tryz.func23 rfl trivial (Of_call 1 (fun _ => decide (cn = w)) (by decide)) (.refl _) rfl ⟨_, rfl⟩ (by rintro r o rfl; rfl) ?_
    rintro r o rfl
    refine sat_ret tabOk Tryz.func23 rfl trivial ?_
    rw [unR, if_neg h1, if_neg h2, if_neg h3, if_neg h4, if_pos h, flag_ofB, hcn2]
    simp only [decide_eq_true_eq]
    rfl
  have h5 := (hst sRedand).symm.trans h5
  have h5 : ¬ op = sRedand := by simpa using h5
  refine sat_branch tabOk Tryz.func23 rfl trivial (fun h => ?_) (fun h6 => ?_)
  · have h := (hst sRedor).symm.trans h
    have h : op = sRedor := by simpa using h
    refine sat_call tabOk Tryz.func23 rfl trivial a5 (.refl _) rfl ⟨_, rfl⟩ (by rintro r o rfl; rfl) ?_
    rintro r o rfl
    refine sat_call tabOk Tryz.func23 rfl trivial (rFlag_call (decide (0 < cn))) ⟨.of ?_, trivial⟩ rfl ⟨_, rfl⟩ (by rintro r o rfl; rfl) ?_
    · show vB (decide (((cn : Nat) : Int) > 0)) = _
      rw [decide_eq_decide.2 (show ((cn : Nat) : Int) > 0 ↔ 0 < cn by omega)]
    rintro r o rfl
    refine sat_call tabOk Tryz.func23 rfl trivial (Of_call 1 (fun _ => decide (0 < cn)) (by decide)) (.refl _) rfl ⟨_, rfl⟩ (by rintro r o rfl; rfl) ?_
    rintro r o rfl
    refine sat_ret tabOk Tryz.func23 rfl trivial ?_
    rw [unR, if_neg h1, if_neg h2, if_neg h3, if_neg h4, if_neg h5, if_pos h, flag_ofB, hcn2]
    simp only [decide_eq_true_eq]
    rfl
  have h6 := (hst sRedor).symm.trans h6
  have h6 : ¬ op = sRedor := by simpa using h6
  refine sat_branch tabOk Tryz.func23 rfl trivial (fun h => ?_) (fun h7 => ?_)
  · have h := (hst sRedxor).symm.trans h
    have h : op = sRedxor := by simpa using h
    refine sat_call tabOk Tryz.func23 rfl trivial a5 (.refl _) rfl ⟨_, rfl⟩ (by rintro r o rfl; rfl) ?_
    rintro r o rfl
    refine sat_call tabOk Tryz.func23 rfl ⟨by decide, trivial⟩ (rFlag_call (decide (cn % 2 = 1))) ⟨.of ?_, trivial⟩ rfl ⟨_, rfl⟩ (by rintro r o rfl; rfl) ?_
    · show vB ((((cn : Nat) : Int).tmod ((2 : Nat) : Int)) == ((1 : Nat) : Int)) = _
      rw [tmodN, beqN]
    rintro r o rfl
    refine sat_call tabOk Tryz.func23 rfl trivial (Of_call 1 (fun _ => decide (cn % 2 = 1)) (by decide)) (.refl _) rfl ⟨_, rfl⟩ (by rintro r o rfl; rfl) ?_
    rintro r o rfl
    refine sat_ret tabOk Tryz.func23 rfl trivial ?_
    rw [unR, if_neg h1, if_neg h2, if_neg h3, if_neg h4, if_neg h5, if_neg h6, if_pos h, flag_ofB, hcn2]
    simp only [decide_eq_true_eq]
    rfl
  have h7 := (hst sRedxor).symm.trans h7
  have h7 : ¬ op = sRedxor := by simpa using h7
  refine sat_ret tabOk Tryz.func23 rfl trivial ?_
  rw [unR, if_neg h1, if_neg h2, if_neg h3, if_neg h4, if_neg h5, if_neg h6, if_neg h7]
  rfl
end Go.Proofs.YtclamogkchdkgaaGreatDoor
namespace Go.Proofs.YtclamogkchdkgaaGreatDoor
open Go Ab
set_option maxRecDepth 100000
set_option linter.unusedVariables false
set_option linter.unusedSimpArgs false
set_option maxHeartbeats 400000

theorem flag_bl (b : Bool) : bl 1 (fun _ => b) = bl 1 (if b then 1 else 0 : Nat).testBit := by cases b <;> rfl
theorem shF_dn (x w s : Nat) (b : Bool) : ofB (shF x.testBit w (-(s : Int)) b) w = dnN w x s b w := by
  rw [dnN]
  congr 1
  funext j
  simp only [shF]
  by_cases h : j + s < w
  · rw [if_pos (by omega), if_pos h, show ((j : Int) - -(s : Int)).toNat = j + s by omega]
  · rw [if_neg (by omega), if_neg h]
/-- What the reference's 'bin' answers: a width and a number, or nothing. -/
def binR (op : List UInt8) (w x y : Nat) : Option (Nat × Nat) :=
  if op = sAnd then some (w, x &&& y) else if op = sOr then some (w, x ||| y) else if op = sXor then some (w, x ^^^ y)
  else if op = sAdd then some (w, (x + y) % 2 ^ w) else if op = sSub then some (w, (x + (2 ^ w - (y + 1)) + 1) % 2 ^ w) else if op = sMul then some (w, x * y % 2 ^ w)
  else if op = sUdiv then some (w, quN w x y) else if op = sUrem then some (w, reN x y)
  else if op = sSll then some (w, x * 2 ^ (min y w) % 2 ^ w) else if op = sSrl then some (w, dnN w x (min y w) false w) else if op = sSra then some (w, dnN w x (min y w) (x.testBit (w - 1)) w)
  else if op = sEq then some (1, if x = y then 1 else 0) else if op = sUlt then some (1, if x < y then 1 else 0)
  else if op = sSlt then some (1, if (x.testBit (w - 1) && !y.testBit (w - 1)) || ((x.testBit (w - 1) == y.testBit (w - 1)) && decide (x < y)) then 1 else 0)
  else none
def binA : Option (Nat × Nat) → AV
  | some p => .tp [.d (eBs (bl p.1 p.2.testBit)), vB true]
  | none => .tp [.d (.v (.slice none 0 0)), vB false]

theorem bin_call (op : List UInt8) (w x y : Nat) (hx : x < 2 ^ w) (hy : y < 2 ^ w) (hw : 0 < w) (hb : w ≤ 128) : ACall Tryz.prog 52 [vSL op, .d (eBs (bl w x.testBit)), .d (eBs (bl w y.testBit))] [] (fun r o => r = binA (binR op w x y)) := by
  refine acall_enter Tryz.func52 rfl rfl (Nat.le_of_ble_eq_true rfl) fun C hC hCl => ?_
  have hst : ∀ k : List UInt8, ((⟨op.toArray⟩ : ByteArray).toList == (⟨k.toArray⟩ : ByteArray).toList) = decide (op = k) := fun k => strE op k
  refine sat_branch tabOk Tryz.func52 rfl trivial (fun h => ?_) (fun h1 => ?_)
  · have h := (hst sAnd).symm.trans h
    have h : op = sAnd := by simpa using h
    subst h
    refine sat_stop tabOk Tryz.func52 rfl trivial ?_
    refine sat_own (s := 1) (e := 4) (t := 9) (.inl rfl) (fun i => eB (([] : List Bool).getD i false)) ?_
    refine sat_while (α := Nat) (fun i => [(0, vSL sAnd), (1, .d (eBs (bl w x.testBit))), (2, .d (eBs (bl w y.testBit))), (9, .gs 0), (10, vI .i64 i)]) (fun i => [some (gBs (bl i (x &&& y).testBit))]) (fun i => i ≤ w) (fun i => w - i) 0 (Nat.zero_le _) ?_ ?_
    · exact fun h => sat_le h hC hCl ⟨⟨_, rfl, .refl _⟩, ⟨_, rfl, .refl _⟩, ⟨_, rfl, .refl _⟩, ⟨_, rfl, .refl _⟩, ⟨_, rfl, .refl _⟩, trivial⟩ ⟨.refl _, trivial⟩ rfl rfl (Nat.zero_le _)
    rintro i hi ih
    refine sat_branch tabOk Tryz.func52 rfl trivial (fun hb => ?_) (fun hb => ?_) <;> simp only [decide_eq_true_eq, decide_eq_false_iff_not, List.length_map, bl_len] at hb
    · have ex : ((bl w x.testBit).getD ((i : Nat) : Int).toNat false) = x.testBit i := bl_get (f := x.testBit) (show i < w by omega)
      have ey : ((bl w y.testBit).getD ((i : Nat) : Int).toNat false) = y.testBit i := bl_get (f := y.testBit) (show i < w by omega)
      have fin : ∀ b : Bool, b = (x &&& y).testBit i → (bl i (x &&& y).testBit).map eB ++ [D.v (.bool b)] = (bl (i + 1) (x &&& y).testBit).map eB := fun b hb => by rw [bl_succ, List.map_append, hb]; rfl
      refine sat_drawT 8 tabOk Tryz.func52 rfl rfl trivial (by kernel_rfl) ?_
      refine ds_done tabOk rfl (by simp only [List.length_map, bl_len, and_true]; omega) ?_
      refine sat_branch tabOk Tryz.func52 rfl trivial (fun _ => ?_) (fun hc => (strF rfl hc).elim)
      refine sat_branch tabOk Tryz.func52 rfl (by simp only [List.length_map, bl_len, and_true]; omega) (fun ha => ?_) (fun ha => ?_) <;> rw [ex] at ha
      · refine sat_stop tabOk Tryz.func52 rfl ?_ ?_
        · simp only [List.length_map, bl_len, andP]
          first | exact ⟨show (i + 1) * 1 ≤ 140737488355328 by omega, trivial⟩ | exact ⟨show (i + 1) * 1 ≤ 140737488355328 by omega, ⟨by omega, by omega⟩, trivial⟩
        refine sat_le (ih (i + 1) (by omega) (by omega)) hC hCl ⟨⟨_, rfl, .refl _⟩, ⟨_, rfl, .refl _⟩, ⟨_, rfl, .refl _⟩, ⟨_, rfl, .refl _⟩, ⟨_, rfl, .of (by rw [wrap_id (by omega) (by omega)]; rfl)⟩, trivial⟩ ⟨.gL (fin _ ?_), trivial⟩ rfl rfl (Nat.zero_le _)
        show (bl w y.testBit).getD ((i : Nat) : Int).toNat false = _
        rw [ey, Nat.testBit_and, ha]
        rfl
      · refine sat_stop tabOk Tryz.func52 rfl ?_ ?_
        · simp only [List.length_map, bl_len, andP]
          first | exact ⟨show (i + 1) * 1 ≤ 140737488355328 by omega, trivial⟩ | exact ⟨show (i + 1) * 1 ≤ 140737488355328 by omega, ⟨by omega, by omega⟩, trivial⟩
        refine sat_le (ih (i + 1) (by omega) (by omega)) hC hCl ⟨⟨_, rfl, .refl _⟩, ⟨_, rfl, .refl _⟩, ⟨_, rfl, .refl _⟩, ⟨_, rfl, .refl _⟩, ⟨_, rfl, .of (by rw [wrap_id (by omega) (by omega)]; rfl)⟩, trivial⟩ ⟨.gL (fin _ ?_), trivial⟩ rfl rfl (Nat.zero_le _)
        rw [Nat.testBit_and, ha]
        rfl
    · obtain rfl : i = w := by omega
      refine sat_freeze 0 rfl ?_
      refine sat_ret tabOk Tryz.func52 rfl trivial ?_
      rfl
  have h1 := (hst sAnd).symm.trans h1
  have h1 : ¬ op = sAnd := by simpa using h1
  refine sat_branch tabOk Tryz.func52 rfl trivial (fun h => ?_) (fun h2 => ?_)
  · have h := (hst sOr).symm.trans h
    have h : op = sOr := by simpa using h
    subst h
    refine sat_stop tabOk Tryz.func52 rfl trivial ?_
    refine sat_own (s := 1) (e := 4) (t := 9) (.inl rfl) (fun i => eB (([] : List Bool).getD i false)) ?_
    refine sat_while (α := Nat) (fun i => [(0, vSL sOr), (1, .d (eBs (bl w x.testBit))), (2, .d (eBs (bl w y.testBit))), (9, .gs 0), (10, vI .i64 i)]) (fun i => [some (gBs (bl i (x ||| y).testBit))]) (fun i => i ≤ w) (fun i => w - i) 0 (Nat.zero_le _) ?_ ?_
    · exact fun h => sat_le h hC hCl ⟨⟨_, rfl, .refl _⟩, ⟨_, rfl, .refl _⟩, ⟨_, rfl, .refl _⟩, ⟨_, rfl, .refl _⟩, ⟨_, rfl, .refl _⟩, trivial⟩ ⟨.refl _, trivial⟩ rfl rfl (Nat.zero_le _)
    rintro i hi ih
    refine sat_branch tabOk Tryz.func52 rfl trivial (fun hb => ?_) (fun hb => ?_) <;> simp only [decide_eq_true_eq, decide_eq_false_iff_not, List.length_map, bl_len] at hb
    · have ex : ((bl w x.testBit).getD ((i : Nat) : Int).toNat false) = x.testBit i := bl_get (f := x.testBit) (show i < w by omega)
      have ey : ((bl w y.testBit).getD ((i : Nat) : Int).toNat false) = y.testBit i := bl_get (f := y.testBit) (show i < w by omega)
      have fin : ∀ b : Bool, b = (x ||| y).testBit i → (bl i (x ||| y).testBit).map eB ++ [D.v (.bool b)] = (bl (i + 1) (x ||| y).testBit).map eB := fun b hb => by rw [bl_succ, List.map_append, hb]; rfl
      refine sat_drawT 8 tabOk Tryz.func52 rfl rfl trivial (by kernel_rfl) ?_
      refine ds_done tabOk rfl (by simp only [List.length_map, bl_len, and_true]; omega) ?_
      refine sat_branch tabOk Tryz.func52 rfl trivial (fun hc => by rw [show (⟨#[97, 110, 100]⟩ : ByteArray) = ⟨([97, 110, 100] : List UInt8).toArray⟩ from rfl, strE] at hc; exact absurd hc (by decide)) (fun _ => ?_)
      refine sat_branch tabOk Tryz.func52 rfl trivial (fun _ => ?_) (fun hc => (strF rfl hc).elim)
      refine sat_branch tabOk Tryz.func52 rfl (by simp only [List.length_map, bl_len, and_true]; omega) (fun ha => ?_) (fun ha => ?_) <;> rw [ex] at ha
      · refine sat_stop tabOk Tryz.func52 rfl ?_ ?_
        · simp only [List.length_map, bl_len, andP]
          first | exact ⟨show (i + 1) * 1 ≤ 140737488355328 by omega, trivial⟩ | exact ⟨show (i + 1) * 1 ≤ 140737488355328 by omega, ⟨by omega, by omega⟩, trivial⟩
        refine sat_le (ih (i + 1) (by omega) (by omega)) hC hCl ⟨⟨_, rfl, .refl _⟩, ⟨_, rfl, .refl _⟩, ⟨_, rfl, .refl _⟩, ⟨_, rfl, .refl _⟩, ⟨_, rfl, .of (by rw [wrap_id (by omega) (by omega)]; rfl)⟩, trivial⟩ ⟨.gL (fin _ ?_), trivial⟩ rfl rfl (Nat.zero_le _)
        rw [Nat.testBit_or, ha]
        rfl
      · refine sat_stop tabOk Tryz.func52 rfl ?_ ?_
        · simp only [List.length_map, bl_len, andP]
          first | exact ⟨show (i + 1) * 1 ≤ 140737488355328 by omega, trivial⟩ | exact ⟨show (i + 1) * 1 ≤ 140737488355328 by omega, ⟨by omega, by omega⟩, trivial⟩
        refine sat_le (ih (i + 1) (by omega) (by omega)) hC hCl ⟨⟨_, rfl, .refl _⟩, ⟨_, rfl, .refl _⟩, ⟨_, rfl, .refl _⟩, ⟨_, rfl, .refl _⟩, ⟨_, rfl, .of (by rw [wrap_id (by omega) (by omega)]; rfl)⟩, trivial⟩ ⟨.gL (fin _ ?_), trivial⟩ rfl rfl (Nat.zero_le _)
        show (bl w y.testBit).getD ((i : Nat) : Int).toNat false = _
        rw [ey, Nat.testBit_or, ha]
        rfl
    · obtain rfl : i = w := by omega
      refine sat_freeze 0 rfl ?_
      refine sat_ret tabOk Tryz.func52 rfl trivial ?_
      rfl
  have h2 := (hst sOr).symm.trans h2
  have h2 : ¬ op = sOr := by simpa using h2
  refine sat_branch tabOk Tryz.func52 rfl trivial (fun h => ?_) (fun h3 => ?_)
  · have h := (hst sXor).symm.trans h
    have h : op = sXor := by simpa using h
    subst h
    refine sat_stop tabOk Tryz.func52 rfl trivial ?_
    refine sat_own (s := 1) (e := 4) (t := 9) (.inl rfl) (fun i => eB (([] : List Bool).getD i false)) ?_
    refine sat_while (α := Nat) (fun i => [(0, vSL sXor), (1, .d (eBs (bl w x.testBit))), (2, .d (eBs (bl w y.testBit))), (9, .gs 0), (10, vI .i64 i)]) (fun i => [some (gBs (bl i (x ^^^ y).testBit))]) (fun i => i ≤ w) (fun i => w - i) 0 (Nat.zero_le _) ?_ ?_
    · exact fun h => sat_le h hC hCl ⟨⟨_, rfl, .refl _⟩, ⟨_, rfl, .refl _⟩, ⟨_, rfl, .refl _⟩, ⟨_, rfl, .refl _⟩, ⟨_, rfl, .refl _⟩, trivial⟩ ⟨.refl _, trivial⟩ rfl rfl (Nat.zero_le _)
    rintro i hi ih
    refine sat_branch tabOk Tryz.func52 rfl trivial (fun hb => ?_) (fun hb => ?_) <;> simp only [decide_eq_true_eq, decide_eq_false_iff_not, List.length_map, bl_len] at hb
    · have ex : ((bl w x.testBit).getD ((i : Nat) : Int).toNat false) = x.testBit i := bl_get (f := x.testBit) (show i < w by omega)
      have ey : ((bl w y.testBit).getD ((i : Nat) : Int).toNat false) = y.testBit i := bl_get (f := y.testBit) (show i < w by omega)
      have fin : ∀ b : Bool, b = (x ^^^ y).testBit i → (bl i (x ^^^ y).testBit).map eB ++ [D.v (.bool b)] = (bl (i + 1) (x ^^^ y).testBit).map eB := fun b hb => by rw [bl_succ, List.map_append, hb]; rfl
      refine sat_drawT 8 tabOk Tryz.func52 rfl rfl trivial (by kernel_rfl) ?_
      refine ds_done tabOk rfl (by simp only [List.length_map, bl_len, and_true]; omega) ?_
      refine sat_branch tabOk Tryz.func52 rfl trivial (fun hc => by rw [show (⟨#[97, 110, 100]⟩ : ByteArray) = ⟨([97, 110, 100] : List UInt8).toArray⟩ from rfl, strE] at hc; exact absurd hc (by decide)) (fun _ => ?_)
      refine sat_branch tabOk Tryz.func52 rfl trivial (fun hc => by rw [show (⟨#[111, 114]⟩ : ByteArray) = ⟨([111, 114] : List UInt8).toArray⟩ from rfl, strE] at hc; exact absurd hc (by decide)) (fun _ => ?_)
      refine sat_stop tabOk Tryz.func52 rfl ?_ ?_
      · simp only [List.length_map, bl_len, andP]
        first | exact ⟨show (i + 1) * 1 ≤ 140737488355328 by omega, trivial⟩ | exact ⟨show (i + 1) * 1 ≤ 140737488355328 by omega, ⟨by omega, by omega⟩, trivial⟩
      refine sat_le (ih (i + 1) (by omega) (by omega)) hC hCl ⟨⟨_, rfl, .refl _⟩, ⟨_, rfl, .refl _⟩, ⟨_, rfl, .refl _⟩, ⟨_, rfl, .refl _⟩, ⟨_, rfl, .of (by rw [wrap_id (by omega) (by omega)]; rfl)⟩, trivial⟩ ⟨.gL (fin _ ?_), trivial⟩ rfl rfl (Nat.zero_le _)
      show ((bl w x.testBit).getD ((i : Nat) : Int).toNat false != (bl w y.testBit).getD ((i : Nat) : Int).toNat false) = _
      rw [ex, ey, Nat.testBit_xor]
    · obtain rfl : i = w := by omega
      refine sat_freeze 0 rfl ?_
      refine sat_ret tabOk Tryz.func52 rfl trivial ?_
      rfl
  have h3 := (hst sXor).symm.trans h3
  have h3 : ¬ op = sXor := by simpa using h3
  refine sat_branch tabOk Tryz.func52 rfl trivial (fun h => ?_) (fun h4 => ?_)
  · have h := (hst sAdd).symm.trans h
    have h : op = sAdd := by simpa using h
    have q := rAdd_call w x.testBit y.testBit false (by omega)
    rw [adS_bl, ofB_self hx, ofB_self hy, if_neg (by simp), Nat.add_zero] at q
    refine sat_call tabOk Tryz.func52 rfl trivial q (.refl _) rfl ⟨_, rfl⟩ (by rintro r o rfl; rfl) ?_
    rintro r o rfl
    refine sat_ret tabOk Tryz.func52 rfl trivial ?_
    rw [binR, if_neg h1, if_neg h2, if_neg h3, if_pos h]
    rfl
  have h4 := (hst sAdd).symm.trans h4
  have h4 : ¬ op = sAdd := by simpa using h4
  refine sat_branch tabOk Tryz.func52 rfl trivial (fun h => ?_) (fun h5 => ?_)
  · have h := (hst sSub).symm.trans h
    have h : op = sSub := by simpa using h
    have q := rSub_call w x.testBit y.testBit (by omega)
    rw [adS_bl, ofB_self hx, not_ofB hy, if_pos rfl] at q
    refine sat_call tabOk Tryz.func52 rfl trivial q (.refl _) rfl ⟨_, rfl⟩ (by rintro r o rfl; rfl) ?_
    rintro r o rfl
    refine sat_ret tabOk Tryz.func52 rfl trivial ?_
    rw [binR, if_neg h1, if_neg h2, if_neg h3, if_neg h4, if_pos h]
    rfl
  have h5 := (hst sSub).symm.trans h5
  have h5 : ¬ op = sSub := by simpa using h5
  refine sat_branch tabOk Tryz.func52 rfl trivial (fun h => ?_) (fun h6 => ?_)
  · have h := (hst sMul).symm.trans h
    have h : op = sMul := by simpa using h
    refine sat_call tabOk Tryz.func52 rfl trivial (rmul_call w x y hy (by omega)) (.refl _) rfl ⟨_, rfl⟩ (by rintro r o rfl; rfl) ?_
    rintro r o rfl
    refine sat_ret tabOk Tryz.func52 rfl trivial ?_
    rw [binR, if_neg h1, if_neg h2, if_neg h3, if_neg h4, if_neg h5, if_pos h]
    rfl
  have h6 := (hst sMul).symm.trans h6
  have h6 : ¬ op = sMul := by simpa using h6
  refine sat_branch tabOk Tryz.func52 rfl trivial (fun h => ?_) (fun h7 => ?_)
  · have h := (hst sUdiv).symm.trans h
    have h : op = sUdiv := by simpa using h
    refine sat_call tabOk Tryz.func52 rfl trivial (rdiv_call w x y hx hy (by omega)) (.refl _) rfl ⟨_, rfl⟩ (by rintro r o rfl; rfl) ?_
    rintro r o rfl
    refine sat_ret tabOk Tryz.func52 rfl trivial ?_
    rw [binR, if_neg h1, if_neg h2, if_neg h3, if_neg h4, if_neg h5, if_neg h6, if_pos h]
    rfl
  have h7 := (hst sUdiv).symm.trans h7
  have h7 : ¬ op = sUdiv := by simpa using h7
  refine sat_branch tabOk Tryz.func52 rfl trivial (fun h => ?_) (fun h8 => ?_)
  · have h := (hst sUrem).symm.trans h
    have h : op = sUrem := by simpa using h
    refine sat_call tabOk Tryz.func52 rfl trivial (rdiv_call w x y hx hy (by omega)) (.refl _) rfl ⟨_, rfl⟩ (by rintro r o rfl; rfl) ?_
    rintro r o rfl
    refine sat_ret tabOk Tryz.func52 rfl trivial ?_
    rw [binR, if_neg h1, if_neg h2, if_neg h3, if_neg h4, if_neg h5, if_neg h6, if_neg h7, if_pos h]
    rfl
  have h8 := (hst sUrem).symm.trans h8
  have h8 : ¬ op = sUrem := by simpa using h8
  have hmin : min y w ≤ w := Nat.min_le_right _ _
  have f1 := far_call w y.testBit (by omega)
  rw [ofB_self hy] at f1
  have s1 := shift_call w x.testBit ((min y w : Nat) : Int) false (by omega) (by omega)
  rw [bl_tb w (shF _ _ _ _), shF_up] at s1
  have s2 := fun b => shift_call w x.testBit (-((min y w : Nat) : Int)) b (by omega) (by omega)
  have s3 : ∀ b, bl w (shF x.testBit w (-((min y w : Nat) : Int)) b) = bl w (dnN w x (min y w) b w).testBit := fun b => by
    rw [bl_tb w (shF _ _ _ _), shF_dn]
  simp only [s3] at s2
  have en : IntKind.i64.wrap (0 - ((min y w : Nat) : Int)) = -((min y w : Nat) : Int) := by rw [wrap_id (by omega) (by omega)]; omega
  have l1 := rless_call w x.testBit y.testBit (by omega)
  have l2 := rless_call w y.testBit x.testBit (by omega)
  rw [ofB_self hx, ofB_self hy] at l1 l2
  refine sat_branch tabOk Tryz.func52 rfl trivial (fun h => ?_) (fun h9 => ?_)
  · have h := (hst sSll).symm.trans h
    have h : op = sSll := by simpa using h
    refine sat_call tabOk Tryz.func52 rfl trivial f1 (.refl _) rfl ⟨_, rfl⟩ (by rintro r o rfl; rfl) ?_
    rintro r o rfl
    refine sat_call tabOk Tryz.func52 rfl trivial s1 (.refl _) rfl ⟨_, rfl⟩ (by rintro r o rfl; rfl) ?_
    rintro r o rfl
    refine sat_ret tabOk Tryz.func52 rfl trivial ?_
    rw [binR, if_neg h1, if_neg h2, if_neg h3, if_neg h4, if_neg h5, if_neg h6, if_neg h7, if_neg h8, if_pos h]
    rfl
  have h9 := (hst sSll).symm.trans h9
  have h9 : ¬ op = sSll := by simpa using h9
  refine sat_branch tabOk Tryz.func52 rfl trivial (fun h => ?_) (fun h10 => ?_)
  · have h := (hst sSrl).symm.trans h
    have h : op = sSrl := by simpa using h
    refine sat_call tabOk Tryz.func52 rfl trivial f1 (.refl _) rfl ⟨_, rfl⟩ (by rintro r o rfl; rfl) ?_
    rintro r o rfl
    refine sat_call tabOk Tryz.func52 rfl trivial (s2 false) ⟨.refl _, .of (by show vI .i64 (IntKind.i64.wrap (0 - ((min y w : Nat) : Int))) = _; rw [en]), .refl _, trivial⟩ rfl ⟨_, rfl⟩ (by rintro r o rfl; rfl) ?_
    rintro r o rfl
    refine sat_ret tabOk Tryz.func52 rfl trivial ?_
    rw [binR, if_neg h1, if_neg h2, if_neg h3, if_neg h4, if_neg h5, if_neg h6, if_neg h7, if_neg h8, if_neg h9, if_pos h]
    rfl
  have h10 := (hst sSrl).symm.trans h10
  have h10 : ¬ op = sSrl := by simpa using h10
  have ei : IntKind.i64.wrap ((w : Int) - 1) = ((w - 1 : Nat) : Int) := by rw [wrap_id (by omega) (by omega)]; omega
  have etop : ∀ z : Nat, (bl w z.testBit).getD (IntKind.i64.wrap ((((bl w x.testBit).map eB).length : Int) - 1)).toNat false = z.testBit (w - 1) := fun z => by
    rw [List.length_map, bl_len, ei, Int.toNat_natCast]
    exact bl_get (by omega)
  refine sat_branch tabOk Tryz.func52 rfl trivial (fun h => ?_) (fun h11 => ?_)
  · have h := (hst sSra).symm.trans h
    have h : op = sSra := by simpa using h
    refine sat_drawT 8 tabOk Tryz.func52 rfl rfl trivial (by kernel_rfl) ?_
    refine ds_call tabOk rfl trivial (f1) (callFunc_run Tryz.func101 rfl rfl) (by rintro r o rfl; rfl) (.refl _) rfl rfl ⟨_, rfl⟩ ?_
    refine ds_done tabOk rfl ?_ ?_
    · simp only [List.length_map, bl_len, ei]
      exact ⟨⟨by omega, by omega⟩, trivial⟩
    refine sat_call tabOk Tryz.func52 rfl trivial (s2 (x.testBit (w - 1))) ⟨.refl _, .of (by show vI .i64 (IntKind.i64.wrap (0 - ((min y w : Nat) : Int))) = _; rw [en]), .of (by show vB ((bl w x.testBit).getD (IntKind.i64.wrap ((((bl w x.testBit).map eB).length : Int) - 1)).toNat false) = _; rw [etop]), trivial⟩ rfl ⟨_, rfl⟩ (by rintro r o rfl; rfl) ?_
    rintro r o rfl
    refine sat_ret tabOk Tryz.func52 rfl trivial ?_
    rw [binR, if_neg h1, if_neg h2, if_neg h3, if_neg h4, if_neg h5, if_neg h6, if_neg h7, if_neg h8, if_neg h9, if_neg h10, if_pos h]
    rfl
  have h11 := (hst sSra).symm.trans h11
  have h11 : ¬ op = sSra := by simpa using h11
  refine sat_branch tabOk Tryz.func52 rfl trivial (fun h => ?_) (fun h12 => ?_)
  · have h := (hst sEq).symm.trans h
    have h : op = sEq := by simpa using h
    refine sat_call tabOk Tryz.func52 rfl trivial l1 (.refl _) rfl ⟨_, rfl⟩ (by rintro r o rfl; rfl) ?_
    rintro r o rfl
    refine sat_branch tabOk Tryz.func52 rfl trivial (fun h' => ?_) (fun h' => ?_)
    · refine sat_call tabOk Tryz.func52 rfl trivial l2 (.refl _) rfl ⟨_, rfl⟩ (by rintro r o rfl; rfl) ?_
      rintro r o rfl
      refine sat_call tabOk Tryz.func52 rfl trivial (rFlag_call (!decide (y < x))) (.refl _) rfl ⟨_, rfl⟩ (by rintro r o rfl; rfl) ?_
      rintro r o rfl
      refine sat_ret tabOk Tryz.func52 rfl trivial ?_
      have h' : ¬ x < y := by simpa using h'
      rw [binR, if_neg h1, if_neg h2, if_neg h3, if_neg h4, if_neg h5, if_neg h6, if_neg h7, if_neg h8, if_neg h9, if_neg h10, if_neg h11, if_pos h, flag_bl]
      have : (if (!decide (y < x)) = true then 1 else 0) = (if x = y then 1 else 0) := by
        by_cases e : x = y
        · subst e; simp
        · simp [e]; omega
      rw [this]
      rfl
    · refine sat_call tabOk Tryz.func52 rfl trivial (rFlag_call false) (.refl _) rfl ⟨_, rfl⟩ (by rintro r o rfl; rfl) ?_
      rintro r o rfl
      refine sat_ret tabOk Tryz.func52 rfl trivial ?_
      have h' : x < y := by simpa using h'
      rw [binR, if_neg h1, if_neg h2, if_neg h3, if_neg h4, if_neg h5, if_neg h6, if_neg h7, if_neg h8, if_neg h9, if_neg h10, if_neg h11, if_pos h, flag_bl, if_neg (by omega : ¬ x = y)]
      rfl
  have h12 := (hst sEq).symm.trans h12
  have h12 : ¬ op = sEq := by simpa using h12
  refine sat_branch tabOk Tryz.func52 rfl trivial (fun h => ?_) (fun h13 => ?_)
  · have h := (hst sUlt).symm.trans h
    have h : op = sUlt := by simpa using h
    refine sat_call tabOk Tryz.func52 rfl trivial l1 (.refl _) rfl ⟨_, rfl⟩ (by rintro r o rfl; rfl) ?_
    rintro r o rfl
    refine sat_call tabOk Tryz.func52 rfl trivial (rFlag_call (decide (x < y))) (.refl _) rfl ⟨_, rfl⟩ (by rintro r o rfl; rfl) ?_
    rintro r o rfl
    refine sat_ret tabOk Tryz.func52 rfl trivial ?_
    rw [binR, if_neg h1, if_neg h2, if_neg h3, if_neg h4, if_neg h5, if_neg h6, if_neg h7, if_neg h8, if_neg h9, if_neg h10, if_neg h11, if_neg h12, if_pos h, flag_bl]
    simp only [decide_eq_true_eq]
    rfl
  have h13 := (hst sUlt).symm.trans h13
  have h13 : ¬ op = sUlt := by simpa using h13
  refine sat_branch tabOk Tryz.func52 rfl trivial (fun h => ?_) (fun h14 => ?_)
  · have h := (hst sSlt).symm.trans h
    have h : op = sSlt := by simpa using h
    cases hsx : x.testBit (w - 1) <;> cases hsy : y.testBit (w - 1)
    · refine sat_drawT 24 tabOk Tryz.func52 rfl rfl trivial (by kernel_rfl) ?_
      refine ds_branch tabOk rfl (by simp only [List.length_map, bl_len, ei, and_true]; omega) (fun h => by rw [etop, hsx] at h; cases h) (fun _ => ?_)
      refine ds_branch tabOk rfl trivial (fun h => by cases h) (fun _ => ?_)
      refine ds_branch tabOk rfl (by simp only [List.length_map, bl_len, ei, and_true]; omega) (fun _ => ?_) (fun h => by rw [etop, etop, hsx, hsy] at h; cases h)
      refine ds_done tabOk rfl trivial ?_
      refine sat_call tabOk Tryz.func52 rfl trivial l1 (.refl _) rfl ⟨_, rfl⟩ (by rintro r o rfl; rfl) ?_
      rintro r o rfl
      refine sat_call tabOk Tryz.func52 rfl trivial (rFlag_call (decide (x < y))) (.refl _) rfl ⟨_, rfl⟩ (by rintro r o rfl; rfl) ?_
      rintro r o rfl
      refine sat_ret tabOk Tryz.func52 rfl trivial ?_
      rw [binR, if_neg h1, if_neg h2, if_neg h3, if_neg h4, if_neg h5, if_neg h6, if_neg h7, if_neg h8, if_neg h9, if_neg h10, if_neg h11, if_neg h12, if_neg h13, if_pos h, flag_bl, hsx, hsy]
      simp
      rfl
    · refine sat_drawT 24 tabOk Tryz.func52 rfl rfl trivial (by kernel_rfl) ?_
      refine ds_branch tabOk rfl (by simp only [List.length_map, bl_len, ei, and_true]; omega) (fun h => by rw [etop, hsx] at h; cases h) (fun _ => ?_)
      refine ds_branch tabOk rfl trivial (fun h => by cases h) (fun _ => ?_)
      refine ds_branch tabOk rfl (by simp only [List.length_map, bl_len, ei, and_true]; omega) (fun h => by rw [etop, etop, hsx, hsy] at h; cases h) (fun _ => ?_)
      refine ds_done tabOk rfl trivial ?_
      refine sat_call tabOk Tryz.func52 rfl trivial (rFlag_call (false)) (.refl _) rfl ⟨_, rfl⟩ (by rintro r o rfl; rfl) ?_
      rintro r o rfl
      refine sat_ret tabOk Tryz.func52 rfl trivial ?_
      rw [binR, if_neg h1, if_neg h2, if_neg h3, if_neg h4, if_neg h5, if_neg h6, if_neg h7, if_neg h8, if_neg h9, if_neg h10, if_neg h11, if_neg h12, if_neg h13, if_pos h, flag_bl, hsx, hsy]
      simp
      rfl
    · refine sat_drawT 24 tabOk Tryz.func52 rfl rfl trivial (by kernel_rfl) ?_
      refine ds_branch tabOk rfl (by simp only [List.length_map, bl_len, ei, and_true]; omega) (fun _ => ?_) (fun h => by rw [etop, hsx] at h; cases h)
      refine ds_branch tabOk rfl (by simp only [List.length_map, bl_len, ei, and_true]; omega) (fun _ => ?_) (fun h => by rw [etop, hsy] at h; cases h)
      refine ds_done tabOk rfl trivial ?_
      refine sat_call tabOk Tryz.func52 rfl trivial (rFlag_call (true)) (.refl _) rfl ⟨_, rfl⟩ (by rintro r o rfl; rfl) ?_
      rintro r o rfl
      refine sat_ret tabOk Tryz.func52 rfl trivial ?_
      rw [binR, if_neg h1, if_neg h2, if_neg h3, if_neg h4, if_neg h5, if_neg h6, if_neg h7, if_neg h8, if_neg h9, if_neg h10, if_neg h11, if_neg h12, if_neg h13, if_pos h, flag_bl, hsx, hsy]
      simp
      rfl
    · refine sat_drawT 24 tabOk Tryz.func52 rfl rfl trivial (by kernel_rfl) ?_
      refine ds_branch tabOk rfl (by simp only [List.length_map, bl_len, ei, and_true]; omega) (fun _ => ?_) (fun h => by rw [etop, hsx] at h; cases h)
      refine ds_branch tabOk rfl (by simp only [List.length_map, bl_len, ei, and_true]; omega) (fun h => by rw [etop, hsy] at h; cases h) (fun _ => ?_)
      refine ds_branch tabOk rfl (by simp only [List.length_map, bl_len, ei, and_true]; omega) (fun _ => ?_) (fun h => by rw [etop, etop, hsx, hsy] at h; cases h)
      refine ds_done tabOk rfl trivial ?_
      refine sat_call tabOk Tryz.func52 rfl trivial l1 (.refl _) rfl ⟨_, rfl⟩ (by rintro r o rfl; rfl) ?_
      rintro r o rfl
      refine sat_call tabOk Tryz.func52 rfl trivial (rFlag_call (decide (x < y))) (.refl _) rfl ⟨_, rfl⟩ (by rintro r o rfl; rfl) ?_
      rintro r o rfl
      refine sat_ret tabOk Tryz.func52 rfl trivial ?_
      rw [binR, if_neg h1, if_neg h2, if_neg h3, if_neg h4, if_neg h5, if_neg h6, if_neg h7, if_neg h8, if_neg h9, if_neg h10, if_neg h11, if_neg h12, if_neg h13, if_pos h, flag_bl, hsx, hsy]
      simp
      rfl
  have h14 := (hst sSlt).symm.trans h14
  have h14 : ¬ op = sSlt := by simpa using h14
  refine sat_ret tabOk Tryz.func52 rfl trivial ?_
  rw [binR, if_neg h1, if_neg h2, if_neg h3, if_neg h4, if_neg h5, if_neg h6, if_neg h7, if_neg h8, if_neg h9, if_neg h10, if_neg h11, if_neg h12, if_neg h13, if_neg h14]
  rfl
end Go.Proofs.YtclamogkchdkgaaGreatDoor
namespace Go.Proofs.YtclamogkchdkgaaGreatDoor
open Go Ab
set_option maxRecDepth 100000
set_option linter.unusedVariables false
set_option linter.unusedSimpArgs false
set_option maxHeartbeats 400000

def binK (op : List UInt8) : Bool := (binR op 1 0 0).isSome
theorem binR_some (op : List UInt8) (w x y : Nat) : (binR op w x y).isSome = binK op := by
  unfold binK binR
  simp only [apply_ite Option.isSome, Option.isSome_some, Option.isSome_none]
theorem binR_lt {op : List UInt8} {w x y : Nat} (hx : x < 2 ^ w) (hy : y < 2 ^ w) {p : Nat × Nat} (h : binR op w x y = some p) : p.2 < 2 ^ p.1 ∧ p.1 ≤ max w 1 := by
  have hp := Nat.two_pow_pos w
  unfold binR at h
  by_cases c0 : op = sAnd
  · rw [if_pos c0] at h
    cases h
    exact ⟨Nat.lt_of_le_of_lt Nat.and_le_left hx, by omega⟩
  rw [if_neg c0] at h
  by_cases c1 : op = sOr
  · rw [if_pos c1] at h
    cases h
    exact ⟨Nat.or_lt_two_pow hx hy, by omega⟩
  rw [if_neg c1] at h
  by_cases c2 : op = sXor
  · rw [if_pos c2] at h
    cases h
    exact ⟨Nat.xor_lt_two_pow hx hy, by omega⟩
  rw [if_neg c2] at h
  by_cases c3 : op = sAdd
  · rw [if_pos c3] at h
    cases h
    exact ⟨Nat.mod_lt _ hp, by omega⟩
  rw [if_neg c3] at h
  by_cases c4 : op = sSub
  · rw [if_pos c4] at h
    cases h
    exact ⟨Nat.mod_lt _ hp, by omega⟩
  rw [if_neg c4] at h
  by_cases c5 : op = sMul
  · rw [if_pos c5] at h
    cases h
    exact ⟨Nat.mod_lt _ hp, by omega⟩
  rw [if_neg c5] at h
  by_cases c6 : op = sUdiv
  · rw [if_pos c6] at h
    cases h
    exact ⟨quN_lt hx, by omega⟩
  rw [if_neg c6] at h
  by_cases c7 : op = sUrem
  · rw [if_pos c7] at h
    cases h
    exact ⟨Nat.lt_of_le_of_lt (reN_le _ _) hx, by omega⟩
  rw [if_neg c7] at h
  by_cases c8 : op = sSll
  · rw [if_pos c8] at h
    cases h
    exact ⟨Nat.mod_lt _ hp, by omega⟩
  rw [if_neg c8] at h
  by_cases c9 : op = sSrl
  · rw [if_pos c9] at h
    cases h
    exact ⟨ofB_lt _ _, by omega⟩
  rw [if_neg c9] at h
  by_cases c10 : op = sSra
  · rw [if_pos c10] at h
    cases h
    exact ⟨ofB_lt _ _, by omega⟩
  rw [if_neg c10] at h
  by_cases c11 : op = sEq
  · rw [if_pos c11] at h
    cases h
    exact ⟨by show (if _ then 1 else 0) < 2; split <;> omega, by omega⟩
  rw [if_neg c11] at h
  by_cases c12 : op = sUlt
  · rw [if_pos c12] at h
    cases h
    exact ⟨by show (if _ then 1 else 0) < 2; split <;> omega, by omega⟩
  rw [if_neg c12] at h
  by_cases c13 : op = sSlt
  · rw [if_pos c13] at h
    cases h
    exact ⟨by show (if _ then 1 else 0) < 2; split <;> omega, by omega⟩
  rw [if_neg c13] at h
  cases h
theorem known_call (op : List UInt8) : ACall Tryz.prog 51 [vSL op] [] (fun r o => r = vB (binK op)) := by
  refine acall_enter Tryz.func51 rfl rfl (Nat.le_of_ble_eq_true rfl) fun C hC hCl => ?_
  have q := bin_call op 1 0 0 (by decide) (by decide) (by decide) (by decide)
  refine sat_call tabOk Tryz.func51 rfl trivial q ⟨.refl _, .eL ?_, .eL ?_, trivial⟩ rfl ⟨_, rfl⟩ (by rintro r o rfl; unfold binA; split <;> rfl) ?_
  · rfl
  · rfl
  rintro r o rfl
  unfold binK
  cases hb : binR op 1 0 0 with
  | none => exact sat_ret tabOk Tryz.func51 rfl trivial rfl
  | some p => exact sat_ret tabOk Tryz.func51 rfl trivial rfl
end Go.Proofs.YtclamogkchdkgaaGreatDoor
namespace Go.Proofs.YtclamogkchdkgaaGreatDoor
open Go Ab
set_option maxRecDepth 100000
set_option linter.unusedVariables false
set_option linter.unusedSimpArgs false
set_option maxHeartbeats 400000

def rbinA : Option (Nat × Nat) → AV
  | some p => tupOf [.d (vN p.1 p.2), vI .i64 0]
  | none => tupOf [.d z24, vI .i64 1]
theorem rBin_call (op : List UInt8) (w x y : Nat) (hc : op ≠ sConcat) (hx : x < 2 ^ w) (hy : y < 2 ^ w) (hw : 0 < w) (hb : w ≤ 128) : ACall Tryz.prog 25 [vSL op, .d (vN w x), .d (vN w y)] [] (fun r o => r = rbinA (binR op w x y)) := by
  refine acall_enter Tryz.func25 rfl rfl (Nat.le_of_ble_eq_true rfl) fun C hC hCl => ?_
  have q := bin_call op w x y hx hy hw hb
  have hs := binR_some op w x y
  refine sat_branch tabOk Tryz.func25 rfl trivial (fun h => ?_) (fun h => ?_) <;> rw [show ((⟨#[99, 111, 110, 99, 97, 116]⟩ : ByteArray)) = ⟨sConcat.toArray⟩ from rfl, strE] at h
  · simp at h
    exact absurd h hc
  refine sat_call tabOk Tryz.func25 rfl trivial (known_call op) (.refl _) rfl ⟨_, rfl⟩ (by rintro r o rfl; rfl) ?_
  rintro r o rfl
  refine sat_branch tabOk Tryz.func25 rfl trivial (fun h1 => ?_) (fun h1 => ?_)
  · refine sat_ret tabOk Tryz.func25 rfl trivial ?_
    have h1 : binK op = false := by simpa using h1
    rw [h1] at hs
    cases hr : binR op w x y with
    | none => rfl
    | some p => rw [hr] at hs; cases hs
  have h1 : binK op = true := by simpa using h1
  rw [h1] at hs
  obtain ⟨p, hr⟩ := Option.isSome_iff_exists.1 hs
  obtain ⟨hp1, hp2⟩ := binR_lt hx hy hr
  rw [hr] at q ⊢
  refine sat_branch tabOk Tryz.func25 rfl trivial (fun h => ?_) (fun _ => ?_)
  · have h : ((w : Int) != (w : Int)) = true := h
    simp at h
  refine sat_drawT 10 tabOk Tryz.func25 rfl rfl trivial (by kernel_rfl) ?_
  refine ds_call tabOk rfl trivial (Bits_call w x (by omega)) (callFunc_run Tryz.func43 rfl rfl) (by rintro r o rfl; rfl) (.refl _) rfl rfl ⟨_, rfl⟩ ?_
  refine ds_call tabOk rfl trivial (Bits_call w y (by omega)) (callFunc_run Tryz.func43 rfl rfl) (by rintro r o rfl; rfl) (.refl _) rfl rfl ⟨_, rfl⟩ ?_
  refine ds_call tabOk rfl trivial (q) (callFunc_run Tryz.func52 rfl rfl) (by rintro r o rfl; rfl) (.refl _) rfl rfl ⟨_, rfl⟩ ?_
  refine ds_done tabOk rfl trivial ?_
  refine sat_call tabOk Tryz.func25 rfl trivial (OfN_call p.1 p.2 hp1 (by omega)) (.refl _) rfl ⟨_, rfl⟩ (by rintro r o rfl; rfl) ?_
  rintro r o rfl
  exact sat_ret tabOk Tryz.func25 rfl trivial rfl
theorem rBin_ne (op : List UInt8) (w v x y : Nat) (hne : w ≠ v) (hc : op ≠ sConcat) : ACall Tryz.prog 25 [vSL op, .d (vN w x), .d (vN v y)] [] (fun r o => r = tupOf [.d z24, vI .i64 (if binK op then 5 else 1)]) := by
  refine acall_enter Tryz.func25 rfl rfl (Nat.le_of_ble_eq_true rfl) fun C hC hCl => ?_
  refine sat_branch tabOk Tryz.func25 rfl trivial (fun h => ?_) (fun h => ?_) <;> rw [show ((⟨#[99, 111, 110, 99, 97, 116]⟩ : ByteArray)) = ⟨sConcat.toArray⟩ from rfl, strE] at h
  · simp at h
    exact absurd h hc
  refine sat_call tabOk Tryz.func25 rfl trivial (known_call op) (.refl _) rfl ⟨_, rfl⟩ (by rintro r o rfl; rfl) ?_
  rintro r o rfl
  refine sat_branch tabOk Tryz.func25 rfl trivial (fun h1 => ?_) (fun h1 => ?_)
  · refine sat_ret tabOk Tryz.func25 rfl trivial ?_
    have h1 : binK op = false := by simpa using h1
    rw [h1]
    rfl
  have h1 : binK op = true := by simpa using h1
  refine sat_branch tabOk Tryz.func25 rfl trivial (fun h => ?_) (fun h => ?_)
  · refine sat_ret tabOk Tryz.func25 rfl trivial ?_
    rw [h1]
    rfl
  · have h : ((w : Int) != (v : Int)) = false := h
    simp at h
    omega
end Go.Proofs.YtclamogkchdkgaaGreatDoor
namespace Go.Proofs.YtclamogkchdkgaaGreatDoor
open Go Ab
set_option maxRecDepth 100000
set_option linter.unusedVariables false
set_option linter.unusedSimpArgs false
set_option maxHeartbeats 400000

theorem of_call (op : List UInt8) (w x v y w' x' : Nat) (f : Int) (hb : ACall Tryz.prog 24 [vSL op, .d (vN w x), .d (vN v y)] [] (fun r o => r = tupOf [.d (vN w' x'), vI .i64 f])) : ACall Tryz.prog 32 [vSL op, .d (vN w x), .d (vN v y)] [] (fun r o => r = .d (vN w' x')) := by
  refine acall_enter Tryz.func32 rfl rfl (Nat.le_of_ble_eq_true rfl) fun C hC hCl => ?_
  refine sat_call tabOk Tryz.func32 rfl trivial hb (.refl _) rfl ⟨_, rfl⟩ (by rintro r o rfl; rfl) ?_
  rintro r o rfl
  exact sat_ret tabOk Tryz.func32 rfl trivial rfl
theorem not_lt {w x : Nat} (hx : x < 2 ^ w) : 2 ^ w - (x + 1) < 2 ^ w := by omega
theorem not_tb {w x i : Nat} (hx : x < 2 ^ w) (hi : i < w) : (2 ^ w - (x + 1)).testBit i = !x.testBit i := by
  rw [Nat.testBit_two_pow_sub_succ hx]
  simp [hi]
theorem decinc {w x : Nat} (hw : 0 < w) (hx : x < 2 ^ w) : ((x + 1) % 2 ^ w + (2 ^ w - (1 + 1)) + 1) % 2 ^ w = x := by
  have h2 : 2 ≤ 2 ^ w := by
    have := Nat.pow_le_pow_right (n := 2) (by decide) hw
    simpa using this
  rcases Nat.lt_or_ge (x + 1) (2 ^ w) with h | h
  · rw [Nat.mod_eq_of_lt h, show x + 1 + (2 ^ w - (1 + 1)) + 1 = x + 2 ^ w by omega, Nat.add_mod_right, Nat.mod_eq_of_lt hx]
  · have e : x + 1 = 2 ^ w := by omega
    rw [e, Nat.mod_self, Nat.mod_eq_of_lt (by omega)]
    omega
theorem demorgan {w x y : Nat} (hx : x < 2 ^ w) (hy : y < 2 ^ w) : (2 ^ w - (x + 1)) ||| (2 ^ w - (y + 1)) = 2 ^ w - ((x &&& y) + 1) := by
  apply Nat.eq_of_testBit_eq
  intro i
  rw [Nat.testBit_or, Nat.testBit_two_pow_sub_succ hx, Nat.testBit_two_pow_sub_succ hy, Nat.testBit_two_pow_sub_succ (Nat.lt_of_le_of_lt Nat.and_le_left hx), Nat.testBit_and]
  by_cases hi : i < w <;> simp [hi]

theorem VecBits_law (w v i : Int) (l k : List Nat) (hl : lims l) (hk : lims k) (hll : l.length ≤ maxLen) (hkl : k.length ≤ maxLen) : ACall Tryz.prog 7 [.d (eV w l), .d (eV v k), vI .i64 i] [] (fun r o => r = vB true) := by
  refine acall_enter Tryz.func7 rfl rfl (Nat.le_of_ble_eq_true rfl) fun C hC hCl => ?_
  refine sat_call tabOk Tryz.func7 rfl trivial shown_call (.refl _) rfl ⟨_, rfl⟩ (by rintro r o rfl; rfl) ?_
  rintro r o rfl
  refine sat_call tabOk Tryz.func7 rfl trivial (rRight_call w l hl hll) (.refl _) rfl ⟨_, rfl⟩ (by rintro r o rfl; rfl) ?_
  rintro r o rfl
  refine sat_branch tabOk Tryz.func7 rfl trivial (fun h1 => ?_) (fun h1 => ?_)
  · refine sat_branch tabOk Tryz.func7 rfl trivial (fun _ => ?_) (fun h => by cases h)
    refine sat_branch tabOk Tryz.func7 rfl trivial (fun _ => ?_) (fun h => by cases h)
    refine sat_branch tabOk Tryz.func7 rfl trivial (fun _ => ?_) (fun h => by cases h)
    refine sat_branch tabOk Tryz.func7 rfl trivial (fun _ => ?_) (fun h => by cases h)
    exact sat_ret tabOk Tryz.func7 rfl trivial rfl
  refine sat_call tabOk Tryz.func7 rfl trivial (rRight_call v k hk hkl) (.refl _) rfl ⟨_, rfl⟩ (by rintro r o rfl; rfl) ?_
  rintro r o rfl
  refine sat_branch tabOk Tryz.func7 rfl trivial (fun h2 => ?_) (fun h2 => ?_)
  · refine sat_branch tabOk Tryz.func7 rfl trivial (fun _ => ?_) (fun h => by cases h)
    refine sat_branch tabOk Tryz.func7 rfl trivial (fun _ => ?_) (fun h => by cases h)
    refine sat_branch tabOk Tryz.func7 rfl trivial (fun _ => ?_) (fun h => by cases h)
    exact sat_ret tabOk Tryz.func7 rfl trivial rfl
  refine sat_branch tabOk Tryz.func7 rfl trivial (fun h3 => ?_) (fun h3 => ?_)
  · refine sat_branch tabOk Tryz.func7 rfl trivial (fun _ => ?_) (fun h => by cases h)
    refine sat_branch tabOk Tryz.func7 rfl trivial (fun _ => ?_) (fun h => by cases h)
    exact sat_ret tabOk Tryz.func7 rfl trivial rfl
  refine sat_branch tabOk Tryz.func7 rfl trivial (fun h4 => ?_) (fun h4 => ?_)
  · refine sat_branch tabOk Tryz.func7 rfl trivial (fun _ => ?_) (fun h => by cases h)
    exact sat_ret tabOk Tryz.func7 rfl trivial rfl
  refine sat_branch tabOk Tryz.func7 rfl trivial (fun h5 => ?_) (fun h5 => ?_)
  · exact sat_ret tabOk Tryz.func7 rfl trivial rfl
  have r1 : rightV w l = true := by cases h : rightV w l with | true => rfl | false => rw [h] at h1; cases h1
  have r2 : rightV v k = true := by cases h : rightV v k with | true => rfl | false => rw [h] at h2; cases h2
  obtain ⟨n, x, rfl, n1, n2, hx, rfl⟩ := right_lmb hl r1
  obtain ⟨m, y, rfl, m1, m2, hy, rfl⟩ := right_lmb hk r2
  have h3 : ((n : Int) != (m : Int)) = false := h3
  have h4 : decide (i < 0) = false := h4
  have h5 : decide (i ≥ (n : Int)) = false := h5
  simp at h3 h4 h5
  obtain rfl : n = m := by omega
  obtain ⟨j, rfl⟩ : ∃ j : Nat, i = j := ⟨i.toNat, by omega⟩
  have hj : j < n := by omega
  have hxy : x &&& y < 2 ^ n := Nat.lt_of_le_of_lt Nat.and_le_left hx
  have hor : x ||| y < 2 ^ n := Nat.or_lt_two_pow hx hy
  have hxr : x ^^^ y < 2 ^ n := Nat.xor_lt_two_pow hx hy
  have p : 0 < 2 ^ n := Nat.two_pow_pos n
  have b1 : (2 ^ n - (x + 1)).testBit j = !x.testBit j := not_tb hx hj
  have b2 : (x &&& y).testBit j = (x.testBit j && y.testBit j) := Nat.testBit_and ..
  have b3 : (x ||| y).testBit j = (x.testBit j || y.testBit j) := Nat.testBit_or ..
  have b4 : (x ^^^ y).testBit j = (x.testBit j ^^ y.testBit j) := Nat.testBit_xor ..
  have l1 : (2 ^ n - (x + 1) + 1) % 2 ^ n < 2 ^ n := Nat.mod_lt _ p
  have l2 : 2 ^ n - ((x &&& y) + 1) < 2 ^ n := not_lt hxy
  have c1 := Un_fn sNot _ n x n _ rfl (turnedN_call n x hx (by omega) (by omega))
  have c2 := Un_fn sNot _ n y n _ rfl (turnedN_call n y hy (by omega) (by omega))
  have c3 := Un_cl sInc _ n x n _ rfl (inc_call n x (by omega) (by omega))
  have c4 := Un_cl sDec _ n ((x + 1) % 2 ^ n) n _ rfl (dec_call n _ (by omega) (by omega))
  rw [decinc (by omega) hx] at c4
  have c5 := Un_fn sNeg _ n x n _ rfl (neg_call n x hx (by omega) (by omega))
  rw [Nat.zero_add] at c5
  have c6 := Un_cl sInc _ n (2 ^ n - (x + 1)) n _ rfl (inc_call n _ (by omega) (by omega))
  have c7 := of_call sOr n (2 ^ n - (x + 1)) n (2 ^ n - (y + 1)) n _ 0 (Bin_fn sOr _ n _ _ n _ (by decide) rfl (orN_call n _ _ (not_lt hx) (not_lt hy) (by omega) (by omega)))
  rw [demorgan hx hy] at c7
  have c8 := of_call sAnd n x n y n _ 0 (Bin_fn sAnd _ n _ _ n _ (by decide) rfl (andN_call n x y hx (by omega) (by omega)))
  have c9 := Un_fn sNot _ n (x &&& y) n _ rfl (turnedN_call n _ hxy (by omega) (by omega))
  have c10 := of_call sOr n x n y n _ 0 (Bin_fn sOr _ n _ _ n _ (by decide) rfl (orN_call n x y hx hy (by omega) (by omega)))
  have c11 := of_call sXor n x n y n _ 0 (Bin_fn sXor _ n _ _ n _ (by decide) rfl (xorN_call n x y hx hy (by omega) (by omega)))
  generalize (2 ^ n - (x + 1) + 1) % 2 ^ n = gx at *
  generalize 2 ^ n - ((x &&& y) + 1) = dm at *
  generalize 2 ^ n - (x + 1) = nx at *
  generalize 2 ^ n - (y + 1) = ny at *
  generalize (x + 1) % 2 ^ n = ix at *
  generalize x &&& y = xay at *
  generalize x ||| y = xoy at *
  generalize x ^^^ y = xxy at *
  refine sat_call tabOk Tryz.func7 rfl trivial c1 (.refl _) rfl ⟨_, rfl⟩ (by rintro r o rfl; rfl) ?_
  rintro r o rfl
  refine sat_le (env' := [(2, vI .i64 j), (3, .ptr 0 0), (4, .ptr 1 0), (7, vB true), (54, tupOf [.d (vN n nx), vI .i64 0])]) (objs' := [some (bN n x), some (bN n y)]) ?_ hC hCl ⟨⟨_, rfl, .refl _⟩, ⟨_, rfl, .refl _⟩, ⟨_, rfl, .refl _⟩, ⟨_, rfl, .refl _⟩, ⟨_, rfl, .refl _⟩, trivial⟩ ⟨.refl _, .refl _, trivial⟩ rfl rfl (Nat.zero_le _)
  refine sat_call tabOk Tryz.func7 rfl trivial c2 (.refl _) rfl ⟨_, rfl⟩ (by rintro r o rfl; rfl) ?_
  rintro r o rfl
  refine sat_le (env' := [(2, vI .i64 j), (3, .ptr 0 0), (4, .ptr 1 0), (7, vB true), (8, .ptr 2 0), (59, tupOf [.d (vN n ny), vI .i64 0])]) (objs' := [some (bN n x), some (bN n y), some (bN n nx)]) ?_ hC hCl ⟨⟨_, rfl, .refl _⟩, ⟨_, rfl, .refl _⟩, ⟨_, rfl, .refl _⟩, ⟨_, rfl, .refl _⟩, ⟨_, rfl, .refl _⟩, ⟨_, rfl, .refl _⟩, trivial⟩ ⟨.refl _, .refl _, .refl _, trivial⟩ rfl rfl (Nat.zero_le _)
  refine sat_call tabOk Tryz.func7 rfl trivial c3 (.refl _) rfl ⟨_, rfl⟩ (by rintro r o rfl; rfl) ?_
  rintro r o rfl
  refine sat_le (env' := [(2, vI .i64 j), (3, .ptr 0 0), (4, .ptr 1 0), (7, vB true), (8, .ptr 2 0), (10, .ptr 3 0), (64, tupOf [.d (vN n ix), vI .i64 0])]) (objs' := [some (bN n x), some (bN n y), some (bN n nx), some (bN n ny)]) ?_ hC hCl ⟨⟨_, rfl, .refl _⟩, ⟨_, rfl, .refl _⟩, ⟨_, rfl, .refl _⟩, ⟨_, rfl, .refl _⟩, ⟨_, rfl, .refl _⟩, ⟨_, rfl, .refl _⟩, ⟨_, rfl, .refl _⟩, trivial⟩ ⟨.refl _, .refl _, .refl _, .refl _, trivial⟩ rfl rfl (Nat.zero_le _)
  refine sat_call tabOk Tryz.func7 rfl trivial c4 (.refl _) rfl ⟨_, rfl⟩ (by rintro r o rfl; rfl) ?_
  rintro r o rfl
  refine sat_le (env' := [(2, vI .i64 j), (3, .ptr 0 0), (4, .ptr 1 0), (7, vB true), (8, .ptr 2 0), (10, .ptr 3 0), (12, .ptr 4 0), (69, tupOf [.d (vN n x), vI .i64 0])]) (objs' := [some (bN n x), some (bN n y), some (bN n nx), some (bN n ny), some (bN n ix)]) ?_ hC hCl ⟨⟨_, rfl, .refl _⟩, ⟨_, rfl, .refl _⟩, ⟨_, rfl, .refl _⟩, ⟨_, rfl, .refl _⟩, ⟨_, rfl, .refl _⟩, ⟨_, rfl, .refl _⟩, ⟨_, rfl, .refl _⟩, ⟨_, rfl, .refl _⟩, trivial⟩ ⟨.refl _, .refl _, .refl _, .refl _, .refl _, trivial⟩ rfl rfl (Nat.zero_le _)
  refine sat_call tabOk Tryz.func7 rfl trivial c5 (.refl _) rfl ⟨_, rfl⟩ (by rintro r o rfl; rfl) ?_
  rintro r o rfl
  refine sat_le (env' := [(2, vI .i64 j), (3, .ptr 0 0), (4, .ptr 1 0), (7, vB true), (8, .ptr 2 0), (10, .ptr 3 0), (12, .ptr 4 0), (14, .ptr 5 0), (74, tupOf [.d (vN n gx), vI .i64 0])]) (objs' := [some (bN n x), some (bN n y), some (bN n nx), some (bN n ny), some (bN n ix), some (bN n x)]) ?_ hC hCl ⟨⟨_, rfl, .refl _⟩, ⟨_, rfl, .refl _⟩, ⟨_, rfl, .refl _⟩, ⟨_, rfl, .refl _⟩, ⟨_, rfl, .refl _⟩, ⟨_, rfl, .refl _⟩, ⟨_, rfl, .refl _⟩, ⟨_, rfl, .refl _⟩, ⟨_, rfl, .refl _⟩, trivial⟩ ⟨.refl _, .refl _, .refl _, .refl _, .refl _, .refl _, trivial⟩ rfl rfl (Nat.zero_le _)
  refine sat_call tabOk Tryz.func7 rfl trivial c6 (.refl _) rfl ⟨_, rfl⟩ (by rintro r o rfl; rfl) ?_
  rintro r o rfl
  refine sat_le (env' := [(2, vI .i64 j), (3, .ptr 0 0), (4, .ptr 1 0), (7, vB true), (8, .ptr 2 0), (10, .ptr 3 0), (12, .ptr 4 0), (14, .ptr 5 0), (16, .ptr 6 0), (79, tupOf [.d (vN n gx), vI .i64 0])]) (objs' := [some (bN n x), some (bN n y), some (bN n nx), some (bN n ny), some (bN n ix), some (bN n x), some (bN n gx)]) ?_ hC hCl ⟨⟨_, rfl, .refl _⟩, ⟨_, rfl, .refl _⟩, ⟨_, rfl, .refl _⟩, ⟨_, rfl, .refl _⟩, ⟨_, rfl, .refl _⟩, ⟨_, rfl, .refl _⟩, ⟨_, rfl, .refl _⟩, ⟨_, rfl, .refl _⟩, ⟨_, rfl, .refl _⟩, ⟨_, rfl, .refl _⟩, trivial⟩ ⟨.refl _, .refl _, .refl _, .refl _, .refl _, .refl _, .refl _, trivial⟩ rfl rfl (Nat.zero_le _)
  refine sat_call tabOk Tryz.func7 rfl trivial c7 (.refl _) rfl ⟨_, rfl⟩ (by rintro r o rfl; rfl) ?_
  rintro r o rfl
  refine sat_le (env' := [(2, vI .i64 j), (3, .ptr 0 0), (4, .ptr 1 0), (7, vB true), (8, .ptr 2 0), (10, .ptr 3 0), (12, .ptr 4 0), (14, .ptr 5 0), (16, .ptr 6 0), (18, .ptr 7 0), (84, .d (vN n dm))]) (objs' := [some (bN n x), some (bN n y), some (bN n nx), some (bN n ny), some (bN n ix), some (bN n x), some (bN n gx), some (bN n gx)]) ?_ hC hCl ⟨⟨_, rfl, .refl _⟩, ⟨_, rfl, .refl _⟩, ⟨_, rfl, .refl _⟩, ⟨_, rfl, .refl _⟩, ⟨_, rfl, .refl _⟩, ⟨_, rfl, .refl _⟩, ⟨_, rfl, .refl _⟩, ⟨_, rfl, .refl _⟩, ⟨_, rfl, .refl _⟩, ⟨_, rfl, .refl _⟩, ⟨_, rfl, .refl _⟩, trivial⟩ ⟨.refl _, .refl _, .refl _, .refl _, .refl _, .refl _, .refl _, .refl _, trivial⟩ rfl rfl (Nat.zero_le _)
  refine sat_call tabOk Tryz.func7 rfl trivial c8 (.refl _) rfl ⟨_, rfl⟩ (by rintro r o rfl; rfl) ?_
  rintro r o rfl
  refine sat_le (env' := [(2, vI .i64 j), (3, .ptr 0 0), (4, .ptr 1 0), (7, vB true), (8, .ptr 2 0), (10, .ptr 3 0), (12, .ptr 4 0), (14, .ptr 5 0), (16, .ptr 6 0), (18, .ptr 7 0), (20, .ptr 8 0), (88, .d (vN n xay))]) (objs' := [some (bN n x), some (bN n y), some (bN n nx), some (bN n ny), some (bN n ix), some (bN n x), some (bN n gx), some (bN n gx), some (bN n dm)]) ?_ hC hCl ⟨⟨_, rfl, .refl _⟩, ⟨_, rfl, .refl _⟩, ⟨_, rfl, .refl _⟩, ⟨_, rfl, .refl _⟩, ⟨_, rfl, .refl _⟩, ⟨_, rfl, .refl _⟩, ⟨_, rfl, .refl _⟩, ⟨_, rfl, .refl _⟩, ⟨_, rfl, .refl _⟩, ⟨_, rfl, .refl _⟩, ⟨_, rfl, .refl _⟩, ⟨_, rfl, .refl _⟩, trivial⟩ ⟨.refl _, .refl _, .refl _, .refl _, .refl _, .refl _, .refl _, .refl _, .refl _, trivial⟩ rfl rfl (Nat.zero_le _)
  refine sat_call tabOk Tryz.func7 rfl trivial c9 (.refl _) rfl ⟨_, rfl⟩ (by rintro r o rfl; rfl) ?_
  rintro r o rfl
  refine sat_le (env' := [(2, vI .i64 j), (3, .ptr 0 0), (4, .ptr 1 0), (7, vB true), (8, .ptr 2 0), (10, .ptr 3 0), (12, .ptr 4 0), (14, .ptr 5 0), (16, .ptr 6 0), (18, .ptr 7 0), (20, .ptr 8 0), (89, tupOf [.d (vN n dm), vI .i64 0])]) (objs' := [some (bN n x), some (bN n y), some (bN n nx), some (bN n ny), some (bN n ix), some (bN n x), some (bN n gx), some (bN n gx), some (bN n dm)]) ?_ hC hCl ⟨⟨_, rfl, .refl _⟩, ⟨_, rfl, .refl _⟩, ⟨_, rfl, .refl _⟩, ⟨_, rfl, .refl _⟩, ⟨_, rfl, .refl _⟩, ⟨_, rfl, .refl _⟩, ⟨_, rfl, .refl _⟩, ⟨_, rfl, .refl _⟩, ⟨_, rfl, .refl _⟩, ⟨_, rfl, .refl _⟩, ⟨_, rfl, .refl _⟩, ⟨_, rfl, .refl _⟩, trivial⟩ ⟨.refl _, .refl _, .refl _, .refl _, .refl _, .refl _, .refl _, .refl _, .refl _, trivial⟩ rfl rfl (Nat.zero_le _)
  refine sat_drawT 5 tabOk Tryz.func7 rfl rfl trivial (by kernel_rfl) ?_
  refine ds_call tabOk rfl trivial (BitN_call n x j (by omega)) (callFunc_run Tryz.func17 rfl rfl) (by rintro r o rfl; rfl) (.refl _) rfl rfl ⟨_, rfl⟩ ?_
  refine ds_done tabOk rfl trivial ?_
  refine sat_call tabOk Tryz.func7 rfl trivial (BitN_call n y j (by omega)) (.refl _) rfl ⟨_, rfl⟩ (by rintro r o rfl; rfl) ?_
  rintro r o rfl
  rw [bitI'_nat hj, bitI'_nat hj]
  cases hxj : x.testBit j <;> cases hyj : y.testBit j <;> rw [hxj, hyj] at b2 b3 b4 <;> rw [hxj] at b1
  · refine sat_branch tabOk Tryz.func7 rfl trivial (fun _ => ?_) (fun h => by cases h)
    refine sat_call tabOk Tryz.func7 rfl trivial (BitN_call n nx j (by omega)) (.refl _) rfl ⟨_, rfl⟩ (by rintro r o rfl; rfl) ?_
    rintro r o rfl
    rw [bitI'_nat hj, b1]
    refine sat_branch tabOk Tryz.func7 rfl trivial (fun _ => ?_) (fun h => by cases h)
    refine sat_call tabOk Tryz.func7 rfl trivial c8 (.refl _) rfl ⟨_, rfl⟩ (by rintro r o rfl; rfl) ?_
    rintro r o rfl
    refine sat_call tabOk Tryz.func7 rfl trivial (BitN_call n xay j (by omega)) (.refl _) rfl ⟨_, rfl⟩ (by rintro r o rfl; rfl) ?_
    rintro r o rfl
    rw [bitI'_nat hj, b2]
    refine sat_branch tabOk Tryz.func7 rfl trivial (fun h => by cases h) (fun _ => ?_)
    refine sat_branch tabOk Tryz.func7 rfl trivial (fun _ => ?_) (fun h => by cases h)
    refine sat_call tabOk Tryz.func7 rfl trivial c10 (.refl _) rfl ⟨_, rfl⟩ (by rintro r o rfl; rfl) ?_
    rintro r o rfl
    refine sat_call tabOk Tryz.func7 rfl trivial (BitN_call n xoy j (by omega)) (.refl _) rfl ⟨_, rfl⟩ (by rintro r o rfl; rfl) ?_
    rintro r o rfl
    rw [bitI'_nat hj, b3]
    refine sat_branch tabOk Tryz.func7 rfl trivial (fun h => by cases h) (fun _ => ?_)
    refine sat_branch tabOk Tryz.func7 rfl trivial (fun _ => ?_) (fun h => by cases h)
    refine sat_call tabOk Tryz.func7 rfl trivial c11 (.refl _) rfl ⟨_, rfl⟩ (by rintro r o rfl; rfl) ?_
    rintro r o rfl
    refine sat_call tabOk Tryz.func7 rfl trivial (BitN_call n xxy j (by omega)) (.refl _) rfl ⟨_, rfl⟩ (by rintro r o rfl; rfl) ?_
    rintro r o rfl
    rw [bitI'_nat hj, b4]
    refine sat_branch tabOk Tryz.func7 rfl trivial (fun _ => ?_) (fun h => by cases h)
    refine sat_call tabOk Tryz.func7 rfl trivial (rSameN_call n x n x hx hx (by omega)) (.refl _) rfl ⟨_, rfl⟩ (by rintro r o rfl; rfl) ?_
    rintro r o rfl
    rw [decide_eq_true (rfl : n = n), decide_eq_true (rfl : x = x)]
    refine sat_branch tabOk Tryz.func7 rfl trivial (fun _ => ?_) (fun h => by cases h)
    refine sat_call tabOk Tryz.func7 rfl trivial (rSameN_call n gx n gx l1 l1 (by omega)) (.refl _) rfl ⟨_, rfl⟩ (by rintro r o rfl; rfl) ?_
    rintro r o rfl
    rw [decide_eq_true (rfl : n = n), decide_eq_true (rfl : gx = gx)]
    refine sat_branch tabOk Tryz.func7 rfl trivial (fun _ => ?_) (fun h => by cases h)
    refine sat_call tabOk Tryz.func7 rfl trivial (rSameN_call n dm n dm l2 l2 (by omega)) (.refl _) rfl ⟨_, rfl⟩ (by rintro r o rfl; rfl) ?_
    rintro r o rfl
    refine sat_ret tabOk Tryz.func7 rfl trivial ?_
    rw [decide_eq_true (rfl : n = n), decide_eq_true (rfl : dm = dm)]
    rfl
  · refine sat_branch tabOk Tryz.func7 rfl trivial (fun _ => ?_) (fun h => by cases h)
    refine sat_call tabOk Tryz.func7 rfl trivial (BitN_call n nx j (by omega)) (.refl _) rfl ⟨_, rfl⟩ (by rintro r o rfl; rfl) ?_
    rintro r o rfl
    rw [bitI'_nat hj, b1]
    refine sat_branch tabOk Tryz.func7 rfl trivial (fun _ => ?_) (fun h => by cases h)
    refine sat_call tabOk Tryz.func7 rfl trivial c8 (.refl _) rfl ⟨_, rfl⟩ (by rintro r o rfl; rfl) ?_
    rintro r o rfl
    refine sat_call tabOk Tryz.func7 rfl trivial (BitN_call n xay j (by omega)) (.refl _) rfl ⟨_, rfl⟩ (by rintro r o rfl; rfl) ?_
    rintro r o rfl
    rw [bitI'_nat hj, b2]
    refine sat_branch tabOk Tryz.func7 rfl trivial (fun h => by cases h) (fun _ => ?_)
    refine sat_branch tabOk Tryz.func7 rfl trivial (fun _ => ?_) (fun h => by cases h)
    refine sat_call tabOk Tryz.func7 rfl trivial c10 (.refl _) rfl ⟨_, rfl⟩ (by rintro r o rfl; rfl) ?_
    rintro r o rfl
    refine sat_call tabOk Tryz.func7 rfl trivial (BitN_call n xoy j (by omega)) (.refl _) rfl ⟨_, rfl⟩ (by rintro r o rfl; rfl) ?_
    rintro r o rfl
    rw [bitI'_nat hj, b3]
    refine sat_branch tabOk Tryz.func7 rfl trivial (fun h => by cases h) (fun _ => ?_)
    refine sat_branch tabOk Tryz.func7 rfl trivial (fun _ => ?_) (fun h => by cases h)
    refine sat_call tabOk Tryz.func7 rfl trivial c11 (.refl _) rfl ⟨_, rfl⟩ (by rintro r o rfl; rfl) ?_
    rintro r o rfl
    refine sat_call tabOk Tryz.func7 rfl trivial (BitN_call n xxy j (by omega)) (.refl _) rfl ⟨_, rfl⟩ (by rintro r o rfl; rfl) ?_
    rintro r o rfl
    rw [bitI'_nat hj, b4]
    refine sat_branch tabOk Tryz.func7 rfl trivial (fun _ => ?_) (fun h => by cases h)
    refine sat_call tabOk Tryz.func7 rfl trivial (rSameN_call n x n x hx hx (by omega)) (.refl _) rfl ⟨_, rfl⟩ (by rintro r o rfl; rfl) ?_
    rintro r o rfl
    rw [decide_eq_true (rfl : n = n), decide_eq_true (rfl : x = x)]
    refine sat_branch tabOk Tryz.func7 rfl trivial (fun _ => ?_) (fun h => by cases h)
    refine sat_call tabOk Tryz.func7 rfl trivial (rSameN_call n gx n gx l1 l1 (by omega)) (.refl _) rfl ⟨_, rfl⟩ (by rintro r o rfl; rfl) ?_
    rintro r o rfl
    rw [decide_eq_true (rfl : n = n), decide_eq_true (rfl : gx = gx)]
    refine sat_branch tabOk Tryz.func7 rfl trivial (fun _ => ?_) (fun h => by cases h)
    refine sat_call tabOk Tryz.func7 rfl trivial (rSameN_call n dm n dm l2 l2 (by omega)) (.refl _) rfl ⟨_, rfl⟩ (by rintro r o rfl; rfl) ?_
    rintro r o rfl
    refine sat_ret tabOk Tryz.func7 rfl trivial ?_
    rw [decide_eq_true (rfl : n = n), decide_eq_true (rfl : dm = dm)]
    rfl
  · refine sat_branch tabOk Tryz.func7 rfl trivial (fun _ => ?_) (fun h => by cases h)
    refine sat_call tabOk Tryz.func7 rfl trivial (BitN_call n nx j (by omega)) (.refl _) rfl ⟨_, rfl⟩ (by rintro r o rfl; rfl) ?_
    rintro r o rfl
    rw [bitI'_nat hj, b1]
    refine sat_branch tabOk Tryz.func7 rfl trivial (fun _ => ?_) (fun h => by cases h)
    refine sat_call tabOk Tryz.func7 rfl trivial c8 (.refl _) rfl ⟨_, rfl⟩ (by rintro r o rfl; rfl) ?_
    rintro r o rfl
    refine sat_call tabOk Tryz.func7 rfl trivial (BitN_call n xay j (by omega)) (.refl _) rfl ⟨_, rfl⟩ (by rintro r o rfl; rfl) ?_
    rintro r o rfl
    rw [bitI'_nat hj, b2]
    refine sat_branch tabOk Tryz.func7 rfl trivial (fun _ => ?_) (fun h => by cases h)
    refine sat_branch tabOk Tryz.func7 rfl trivial (fun _ => ?_) (fun h => by cases h)
    refine sat_call tabOk Tryz.func7 rfl trivial c10 (.refl _) rfl ⟨_, rfl⟩ (by rintro r o rfl; rfl) ?_
    rintro r o rfl
    refine sat_call tabOk Tryz.func7 rfl trivial (BitN_call n xoy j (by omega)) (.refl _) rfl ⟨_, rfl⟩ (by rintro r o rfl; rfl) ?_
    rintro r o rfl
    rw [bitI'_nat hj, b3]
    refine sat_branch tabOk Tryz.func7 rfl trivial (fun _ => ?_) (fun h => by cases h)
    refine sat_branch tabOk Tryz.func7 rfl trivial (fun _ => ?_) (fun h => by cases h)
    refine sat_call tabOk Tryz.func7 rfl trivial c11 (.refl _) rfl ⟨_, rfl⟩ (by rintro r o rfl; rfl) ?_
    rintro r o rfl
    refine sat_call tabOk Tryz.func7 rfl trivial (BitN_call n xxy j (by omega)) (.refl _) rfl ⟨_, rfl⟩ (by rintro r o rfl; rfl) ?_
    rintro r o rfl
    rw [bitI'_nat hj, b4]
    refine sat_branch tabOk Tryz.func7 rfl trivial (fun _ => ?_) (fun h => by cases h)
    refine sat_call tabOk Tryz.func7 rfl trivial (rSameN_call n x n x hx hx (by omega)) (.refl _) rfl ⟨_, rfl⟩ (by rintro r o rfl; rfl) ?_
    rintro r o rfl
    rw [decide_eq_true (rfl : n = n), decide_eq_true (rfl : x = x)]
    refine sat_branch tabOk Tryz.func7 rfl trivial (fun _ => ?_) (fun h => by cases h)
    refine sat_call tabOk Tryz.func7 rfl trivial (rSameN_call n gx n gx l1 l1 (by omega)) (.refl _) rfl ⟨_, rfl⟩ (by rintro r o rfl; rfl) ?_
    rintro r o rfl
    rw [decide_eq_true (rfl : n = n), decide_eq_true (rfl : gx = gx)]
    refine sat_branch tabOk Tryz.func7 rfl trivial (fun _ => ?_) (fun h => by cases h)
    refine sat_call tabOk Tryz.func7 rfl trivial (rSameN_call n dm n dm l2 l2 (by omega)) (.refl _) rfl ⟨_, rfl⟩ (by rintro r o rfl; rfl) ?_
    rintro r o rfl
    refine sat_ret tabOk Tryz.func7 rfl trivial ?_
    rw [decide_eq_true (rfl : n = n), decide_eq_true (rfl : dm = dm)]
    rfl
  · refine sat_branch tabOk Tryz.func7 rfl trivial (fun _ => ?_) (fun h => by cases h)
    refine sat_call tabOk Tryz.func7 rfl trivial (BitN_call n nx j (by omega)) (.refl _) rfl ⟨_, rfl⟩ (by rintro r o rfl; rfl) ?_
    rintro r o rfl
    rw [bitI'_nat hj, b1]
    refine sat_branch tabOk Tryz.func7 rfl trivial (fun _ => ?_) (fun h => by cases h)
    refine sat_call tabOk Tryz.func7 rfl trivial c8 (.refl _) rfl ⟨_, rfl⟩ (by rintro r o rfl; rfl) ?_
    rintro r o rfl
    refine sat_call tabOk Tryz.func7 rfl trivial (BitN_call n xay j (by omega)) (.refl _) rfl ⟨_, rfl⟩ (by rintro r o rfl; rfl) ?_
    rintro r o rfl
    rw [bitI'_nat hj, b2]
    refine sat_branch tabOk Tryz.func7 rfl trivial (fun _ => ?_) (fun h => by cases h)
    refine sat_branch tabOk Tryz.func7 rfl trivial (fun _ => ?_) (fun h => by cases h)
    refine sat_call tabOk Tryz.func7 rfl trivial c10 (.refl _) rfl ⟨_, rfl⟩ (by rintro r o rfl; rfl) ?_
    rintro r o rfl
    refine sat_call tabOk Tryz.func7 rfl trivial (BitN_call n xoy j (by omega)) (.refl _) rfl ⟨_, rfl⟩ (by rintro r o rfl; rfl) ?_
    rintro r o rfl
    rw [bitI'_nat hj, b3]
    refine sat_branch tabOk Tryz.func7 rfl trivial (fun _ => ?_) (fun h => by cases h)
    refine sat_branch tabOk Tryz.func7 rfl trivial (fun _ => ?_) (fun h => by cases h)
    refine sat_call tabOk Tryz.func7 rfl trivial c11 (.refl _) rfl ⟨_, rfl⟩ (by rintro r o rfl; rfl) ?_
    rintro r o rfl
    refine sat_call tabOk Tryz.func7 rfl trivial (BitN_call n xxy j (by omega)) (.refl _) rfl ⟨_, rfl⟩ (by rintro r o rfl; rfl) ?_
    rintro r o rfl
    rw [bitI'_nat hj, b4]
    refine sat_branch tabOk Tryz.func7 rfl trivial (fun _ => ?_) (fun h => by cases h)
    refine sat_call tabOk Tryz.func7 rfl trivial (rSameN_call n x n x hx hx (by omega)) (.refl _) rfl ⟨_, rfl⟩ (by rintro r o rfl; rfl) ?_
    rintro r o rfl
    rw [decide_eq_true (rfl : n = n), decide_eq_true (rfl : x = x)]
    refine sat_branch tabOk Tryz.func7 rfl trivial (fun _ => ?_) (fun h => by cases h)
    refine sat_call tabOk Tryz.func7 rfl trivial (rSameN_call n gx n gx l1 l1 (by omega)) (.refl _) rfl ⟨_, rfl⟩ (by rintro r o rfl; rfl) ?_
    rintro r o rfl
    rw [decide_eq_true (rfl : n = n), decide_eq_true (rfl : gx = gx)]
    refine sat_branch tabOk Tryz.func7 rfl trivial (fun _ => ?_) (fun h => by cases h)
    refine sat_call tabOk Tryz.func7 rfl trivial (rSameN_call n dm n dm l2 l2 (by omega)) (.refl _) rfl ⟨_, rfl⟩ (by rintro r o rfl; rfl) ?_
    rintro r o rfl
    refine sat_ret tabOk Tryz.func7 rfl trivial ?_
    rw [decide_eq_true (rfl : n = n), decide_eq_true (rfl : dm = dm)]
    rfl
end Go.Proofs.YtclamogkchdkgaaGreatDoor
namespace Go.Proofs.YtclamogkchdkgaaGreatDoor
open Go Ab
set_option maxRecDepth 100000
set_option linter.unusedVariables false
set_option linter.unusedSimpArgs false
set_option maxHeartbeats 400000

/-- strings.Repeat of one digit. -/
def RepOk : Prop := ∀ (c : UInt8) (n : Nat), n ≤ 127 → ACall Tryz.prog 53 [vSL [c], vI .i64 n] [] (fun r o => r = vSL (List.replicate n c))
@[reducible] def cutD (w' : Int) (q : D) : D := .ag [eI w', q]
@[reducible] def cD (w : Int) (q : D) : AObj := .cells 24 [.d (eI w), .d q]
theorem vlen (w x : Nat) (hw : w ≤ 128) : (lmb (limbsN w) x).length ≤ 1000 := by rw [lmb_len]; unfold limbsN; omega
theorem Slice_both (w x : Nat) (lo hi : Int) (hwb : w ≤ 128) : ∃ (w' : Int) (q : D) (l' : List Nat) (f : Int), ACall Tryz.prog 26 [.d (vN w x), vI .i64 hi, vI .i64 lo] [] (fun r o => r = tupOf [.d (cutD w' q), vI .i64 f]) ∧ ACall Tryz.prog 27 [.d (vN w x), vI .i64 hi, vI .i64 lo] [] (fun r o => r = tupOf [.d (cutD w' q), vI .i64 f]) ∧ VLe (.d (cutD w' q)) (.d (eV w' l')) ∧ l'.length ≤ 1000 := by
  by_cases h : lo < 0 ∨ hi < lo ∨ (w : Int) ≤ hi
  · exact ⟨0, .v (.slice none 0 0), [], 5, Slice_no w x lo hi h, rSlice_no w x lo hi h, z24_le, by simp⟩
  · obtain ⟨a, rfl⟩ : ∃ a : Nat, lo = a := ⟨lo.toNat, by omega⟩
    obtain ⟨b, rfl⟩ : ∃ b : Nat, hi = b := ⟨hi.toNat, by omega⟩
    exact ⟨_, _, _, 0, Slice_ok w x a b hwb (by omega) (by omega), rSlice_ok w x a b hwb (by omega) (by omega), .refl _, vlen _ _ (by omega)⟩
theorem Ext_both (hr : RepOk) (w x : Nat) (n : Int) (s : Bool) (hw : 0 < w) (hwb : w ≤ 128) : ∃ (w' : Int) (q : D) (l' : List Nat) (f : Int), ACall Tryz.prog 28 [.d (vN w x), vI .i64 n, vB s] [] (fun r o => r = tupOf [.d (cutD w' q), vI .i64 f]) ∧ ACall Tryz.prog 29 [.d (vN w x), vI .i64 n, vB s] [] (fun r o => r = tupOf [.d (cutD w' q), vI .i64 f]) ∧ VLe (.d (cutD w' q)) (.d (eV w' l')) ∧ l'.length ≤ 1000 := by
  by_cases h : n < 0 ∨ (128 : Int) < w + n
  · exact ⟨0, .v (.slice none 0 0), [], 5, Ext_no w x n s hwb h, rExt_no w x n s hwb h, z24_le, by simp⟩
  · obtain ⟨a, rfl⟩ : ∃ a : Nat, n = a := ⟨n.toNat, by omega⟩
    exact ⟨_, _, _, 0, Ext_ok w x a s hw hwb (by omega) (hr _ a (by omega)), rExt_ok w x a s hw hwb (by omega), .refl _, vlen _ _ (by omega)⟩
theorem Ite_both (u c w x v y : Nat) (hc : c < 2 ^ u) (hwb : w ≤ 128) : ∃ (w' : Int) (q : D) (l' : List Nat) (f : Int), ACall Tryz.prog 30 [.d (vN u c), .d (vN w x), .d (vN v y)] [] (fun r o => r = tupOf [.d (cutD w' q), vI .i64 f]) ∧ ACall Tryz.prog 31 [.d (vN u c), .d (vN w x), .d (vN v y)] [] (fun r o => r = tupOf [.d (cutD w' q), vI .i64 f]) ∧ VLe (.d (cutD w' q)) (.d (eV w' l')) ∧ l'.length ≤ 1000 := by
  by_cases h : u ≠ 1 ∨ w ≠ v
  · exact ⟨0, .v (.slice none 0 0), [], 5, Ite_no c u w v x y h, rIte_no c u w v x y h, z24_le, by simp⟩
  · obtain ⟨rfl, rfl⟩ : u = 1 ∧ w = v := by omega
    exact ⟨_, _, _, 0, Ite_ok c w x y hc, rIte_ok c w x y hc, .refl _, vlen _ _ hwb⟩

theorem VecCuts_law (hr : RepOk) (w v u i0 i1 i2 : Int) (s : Bool) (l k m : List Nat) (hl : lims l) (hk : lims k) (hm : lims m) (hll : l.length ≤ maxLen) (hkl : k.length ≤ maxLen) (hml : m.length ≤ maxLen) : ACall Tryz.prog 5 [.d (.ag [eI w, eUs l, eI v, eUs k, eI u, eUs m, eI i0, eI i1, eI i2, .v (.bool s)])] [] (fun r o => r = vB true) := by
  refine acall_enter Tryz.func5 rfl rfl (Nat.le_of_ble_eq_true rfl) fun C hC hCl => ?_
  refine sat_call tabOk Tryz.func5 rfl trivial shown_call (.refl _) rfl ⟨_, rfl⟩ (by rintro r o rfl; rfl) ?_
  rintro r o rfl
  refine sat_le (env' := [(3, .ptr 1 0), (4, .ptr 2 0), (5, .ptr 3 0), (6, .ptr 4 0), (7, vB s), (31, vB true)]) (objs' := [none, some (bV w l), some (bV v k), some (bV u m), some (.cells 43 [vI .i64 i0, vI .i64 i1, vI .i64 i2])]) ?_ hC hCl ⟨⟨_, rfl, .refl _⟩, ⟨_, rfl, .refl _⟩, ⟨_, rfl, .refl _⟩, ⟨_, rfl, .refl _⟩, ⟨_, rfl, .refl _⟩, ⟨_, rfl, .refl _⟩, trivial⟩ ⟨.refl _, .refl _, .refl _, .refl _, trivial⟩ rfl rfl (Nat.zero_le _)
  refine sat_call tabOk Tryz.func5 rfl trivial (rRight_call w l hl hll) (.refl _) rfl ⟨_, rfl⟩ (by rintro r o rfl; rfl) ?_
  rintro r o rfl
  refine sat_branch tabOk Tryz.func5 rfl trivial (fun h1 => ?_) (fun h1 => ?_)
  · refine sat_branch tabOk Tryz.func5 rfl trivial (fun _ => ?_) (fun h => by cases h)
    refine sat_branch tabOk Tryz.func5 rfl trivial (fun _ => ?_) (fun h => by cases h)
    exact sat_ret tabOk Tryz.func5 rfl trivial rfl
  refine sat_call tabOk Tryz.func5 rfl trivial (rRight_call v k hk hkl) (.refl _) rfl ⟨_, rfl⟩ (by rintro r o rfl; rfl) ?_
  rintro r o rfl
  refine sat_branch tabOk Tryz.func5 rfl trivial (fun h2 => ?_) (fun h2 => ?_)
  · refine sat_branch tabOk Tryz.func5 rfl trivial (fun _ => ?_) (fun h => by cases h)
    exact sat_ret tabOk Tryz.func5 rfl trivial rfl
  refine sat_call tabOk Tryz.func5 rfl trivial (rRight_call u m hm hml) (.refl _) rfl ⟨_, rfl⟩ (by rintro r o rfl; rfl) ?_
  rintro r o rfl
  refine sat_branch tabOk Tryz.func5 rfl trivial (fun h3 => ?_) (fun h3 => ?_)
  · exact sat_ret tabOk Tryz.func5 rfl trivial rfl
  have r1 : rightV w l = true := by cases h : rightV w l with | true => rfl | false => rw [h] at h1; cases h1
  have r2 : rightV v k = true := by cases h : rightV v k with | true => rfl | false => rw [h] at h2; cases h2
  have r3 : rightV u m = true := by cases h : rightV u m with | true => rfl | false => rw [h] at h3; cases h3
  obtain ⟨n, x, rfl, n1, n2, hx, rfl⟩ := right_lmb hl r1
  obtain ⟨p, y, rfl, p1, p2, hy, rfl⟩ := right_lmb hk r2
  obtain ⟨q, z, rfl, q1, q2, hz, rfl⟩ := right_lmb hm r3
  obtain ⟨wa, qa, la, fa, a1, a2, a3, a4⟩ := Slice_both n x i1 i0 n2
  obtain ⟨wb, qb, lb, fb, b1, b2, b3, b4⟩ := Ext_both hr n x i2 s (by omega) n2
  obtain ⟨wc, qc, lc, fc, c1, c2, c3, c4⟩ := Ite_both q z n x p y hz n2
  refine sat_call tabOk Tryz.func5 rfl trivial a1 (.refl _) rfl ⟨_, rfl⟩ (by rintro r o rfl; rfl) ?_
  rintro r o rfl
  refine sat_le (env' := [(3, .ptr 1 0), (4, .ptr 2 0), (5, .ptr 3 0), (6, .ptr 4 0), (7, vB s), (8, vB true), (52, tupOf [.d (cutD wa qa), vI .i64 fa])]) (objs' := [none, some (bN n x), some (bN p y), some (bN q z), some (.cells 43 [vI .i64 i0, vI .i64 i1, vI .i64 i2])]) ?_ hC hCl ⟨⟨_, rfl, .refl _⟩, ⟨_, rfl, .refl _⟩, ⟨_, rfl, .refl _⟩, ⟨_, rfl, .refl _⟩, ⟨_, rfl, .refl _⟩, ⟨_, rfl, .refl _⟩, ⟨_, rfl, .refl _⟩, trivial⟩ ⟨.refl _, .refl _, .refl _, .refl _, trivial⟩ rfl rfl (Nat.zero_le _)
  refine sat_call tabOk Tryz.func5 rfl trivial a2 (.refl _) rfl ⟨_, rfl⟩ (by rintro r o rfl; rfl) ?_
  rintro r o rfl
  refine sat_le (env' := [(3, .ptr 1 0), (4, .ptr 2 0), (5, .ptr 3 0), (6, .ptr 4 0), (7, vB s), (8, vB true), (9, .ptr 5 0), (10, vI .i64 fa), (61, tupOf [.d (cutD wa qa), vI .i64 fa])]) (objs' := [none, some (bN n x), some (bN p y), some (bN q z), some (.cells 43 [vI .i64 i0, vI .i64 i1, vI .i64 i2]), some (cD wa qa)]) ?_ hC hCl ⟨⟨_, rfl, .refl _⟩, ⟨_, rfl, .refl _⟩, ⟨_, rfl, .refl _⟩, ⟨_, rfl, .refl _⟩, ⟨_, rfl, .refl _⟩, ⟨_, rfl, .refl _⟩, ⟨_, rfl, .refl _⟩, ⟨_, rfl, .refl _⟩, ⟨_, rfl, .refl _⟩, trivial⟩ ⟨.refl _, .refl _, .refl _, .refl _, .refl _, trivial⟩ rfl rfl (Nat.zero_le _)
  refine sat_call tabOk Tryz.func5 rfl trivial b1 (.refl _) rfl ⟨_, rfl⟩ (by rintro r o rfl; rfl) ?_
  rintro r o rfl
  refine sat_le (env' := [(3, .ptr 1 0), (4, .ptr 2 0), (5, .ptr 3 0), (6, .ptr 4 0), (7, vB s), (8, vB true), (9, .ptr 5 0), (10, vI .i64 fa), (11, .ptr 6 0), (12, vI .i64 fa), (69, tupOf [.d (cutD wb qb), vI .i64 fb])]) (objs' := [none, some (bN n x), some (bN p y), some (bN q z), some (.cells 43 [vI .i64 i0, vI .i64 i1, vI .i64 i2]), some (cD wa qa), some (cD wa qa)]) ?_ hC hCl ⟨⟨_, rfl, .refl _⟩, ⟨_, rfl, .refl _⟩, ⟨_, rfl, .refl _⟩, ⟨_, rfl, .refl _⟩, ⟨_, rfl, .refl _⟩, ⟨_, rfl, .refl _⟩, ⟨_, rfl, .refl _⟩, ⟨_, rfl, .refl _⟩, ⟨_, rfl, .refl _⟩, ⟨_, rfl, .refl _⟩, ⟨_, rfl, .refl _⟩, trivial⟩ ⟨.refl _, .refl _, .refl _, .refl _, .refl _, .refl _, trivial⟩ rfl rfl (Nat.zero_le _)
  refine sat_call tabOk Tryz.func5 rfl trivial b2 (.refl _) rfl ⟨_, rfl⟩ (by rintro r o rfl; rfl) ?_
  rintro r o rfl
  refine sat_le (env' := [(3, .ptr 1 0), (4, .ptr 2 0), (5, .ptr 3 0), (6, .ptr 4 0), (7, vB s), (8, vB true), (9, .ptr 5 0), (10, vI .i64 fa), (11, .ptr 6 0), (12, vI .i64 fa), (13, .ptr 7 0), (14, vI .i64 fb), (77, tupOf [.d (cutD wb qb), vI .i64 fb])]) (objs' := [none, some (bN n x), some (bN p y), some (bN q z), some (.cells 43 [vI .i64 i0, vI .i64 i1, vI .i64 i2]), some (cD wa qa), some (cD wa qa), some (cD wb qb)]) ?_ hC hCl ⟨⟨_, rfl, .refl _⟩, ⟨_, rfl, .refl _⟩, ⟨_, rfl, .refl _⟩, ⟨_, rfl, .refl _⟩, ⟨_, rfl, .refl _⟩, ⟨_, rfl, .refl _⟩, ⟨_, rfl, .refl _⟩, ⟨_, rfl, .refl _⟩, ⟨_, rfl, .refl _⟩, ⟨_, rfl, .refl _⟩, ⟨_, rfl, .refl _⟩, ⟨_, rfl, .refl _⟩, ⟨_, rfl, .refl _⟩, trivial⟩ ⟨.refl _, .refl _, .refl _, .refl _, .refl _, .refl _, .refl _, trivial⟩ rfl rfl (Nat.zero_le _)
  refine sat_call tabOk Tryz.func5 rfl trivial c1 (.refl _) rfl ⟨_, rfl⟩ (by rintro r o rfl; rfl) ?_
  rintro r o rfl
  refine sat_le (env' := [(3, .ptr 1 0), (4, .ptr 2 0), (5, .ptr 3 0), (6, .ptr 4 0), (7, vB s), (8, vB true), (9, .ptr 5 0), (10, vI .i64 fa), (11, .ptr 6 0), (12, vI .i64 fa), (13, .ptr 7 0), (14, vI .i64 fb), (15, .ptr 8 0), (16, vI .i64 fb), (84, tupOf [.d (cutD wc qc), vI .i64 fc])]) (objs' := [none, some (bN n x), some (bN p y), some (bN q z), some (.cells 43 [vI .i64 i0, vI .i64 i1, vI .i64 i2]), some (cD wa qa), some (cD wa qa), some (cD wb qb), some (cD wb qb)]) ?_ hC hCl ⟨⟨_, rfl, .refl _⟩, ⟨_, rfl, .refl _⟩, ⟨_, rfl, .refl _⟩, ⟨_, rfl, .refl _⟩, ⟨_, rfl, .refl _⟩, ⟨_, rfl, .refl _⟩, ⟨_, rfl, .refl _⟩, ⟨_, rfl, .refl _⟩, ⟨_, rfl, .refl _⟩, ⟨_, rfl, .refl _⟩, ⟨_, rfl, .refl _⟩, ⟨_, rfl, .refl _⟩, ⟨_, rfl, .refl _⟩, ⟨_, rfl, .refl _⟩, ⟨_, rfl, .refl _⟩, trivial⟩ ⟨.refl _, .refl _, .refl _, .refl _, .refl _, .refl _, .refl _, .refl _, trivial⟩ rfl rfl (Nat.zero_le _)
  refine sat_call tabOk Tryz.func5 rfl trivial c2 (.refl _) rfl ⟨_, rfl⟩ (by rintro r o rfl; rfl) ?_
  rintro r o rfl
  refine sat_le (env' := [(3, .ptr 1 0), (4, .ptr 2 0), (5, .ptr 3 0), (6, .ptr 4 0), (7, vB s), (8, vB true), (9, .ptr 5 0), (10, vI .i64 fa), (11, .ptr 6 0), (12, vI .i64 fa), (13, .ptr 7 0), (14, vI .i64 fb), (15, .ptr 8 0), (16, vI .i64 fb), (17, .ptr 9 0), (18, vI .i64 fc), (91, tupOf [.d (cutD wc qc), vI .i64 fc])]) (objs' := [none, some (bN n x), some (bN p y), some (bN q z), some (.cells 43 [vI .i64 i0, vI .i64 i1, vI .i64 i2]), some (cD wa qa), some (cD wa qa), some (cD wb qb), some (cD wb qb), some (cD wc qc)]) ?_ hC hCl ⟨⟨_, rfl, .refl _⟩, ⟨_, rfl, .refl _⟩, ⟨_, rfl, .refl _⟩, ⟨_, rfl, .refl _⟩, ⟨_, rfl, .refl _⟩, ⟨_, rfl, .refl _⟩, ⟨_, rfl, .refl _⟩, ⟨_, rfl, .refl _⟩, ⟨_, rfl, .refl _⟩, ⟨_, rfl, .refl _⟩, ⟨_, rfl, .refl _⟩, ⟨_, rfl, .refl _⟩, ⟨_, rfl, .refl _⟩, ⟨_, rfl, .refl _⟩, ⟨_, rfl, .refl _⟩, ⟨_, rfl, .refl _⟩, ⟨_, rfl, .refl _⟩, trivial⟩ ⟨.refl _, .refl _, .refl _, .refl _, .refl _, .refl _, .refl _, .refl _, .refl _, trivial⟩ rfl rfl (Nat.zero_le _)
  refine sat_branch tabOk Tryz.func5 rfl trivial (fun _ => ?_) (fun h => by cases h)
  refine sat_call tabOk Tryz.func5 rfl trivial (rSame_call wa wa la la (by omega)) ⟨a3, a3, trivial⟩ rfl ⟨_, rfl⟩ (by rintro r o rfl; rfl) ?_
  rintro r o rfl
  rw [sameV_self]
  refine sat_branch tabOk Tryz.func5 rfl trivial (fun _ => ?_) (fun h => by cases h)
  refine sat_branch tabOk Tryz.func5 rfl trivial (fun _ => ?_) (fun h => by simp at h)
  refine sat_call tabOk Tryz.func5 rfl trivial (rSame_call wb wb lb lb (by omega)) ⟨b3, b3, trivial⟩ rfl ⟨_, rfl⟩ (by rintro r o rfl; rfl) ?_
  rintro r o rfl
  rw [sameV_self]
  refine sat_branch tabOk Tryz.func5 rfl trivial (fun _ => ?_) (fun h => by cases h)
  refine sat_branch tabOk Tryz.func5 rfl trivial (fun _ => ?_) (fun h => by simp at h)
  refine sat_call tabOk Tryz.func5 rfl trivial (rSame_call wc wc lc lc (by omega)) ⟨c3, c3, trivial⟩ rfl ⟨_, rfl⟩ (by rintro r o rfl; rfl) ?_
  rintro r o rfl
  rw [sameV_self]
  refine sat_branch tabOk Tryz.func5 rfl trivial (fun _ => ?_) (fun h => by cases h)
  refine sat_ret tabOk Tryz.func5 rfl trivial ?_
  show vB (fc == fc) = _
  simp
end Go.Proofs.YtclamogkchdkgaaGreatDoor
namespace Go.Proofs.YtclamogkchdkgaaGreatDoor
open Go Ab
set_option maxRecDepth 100000
set_option linter.unusedVariables false
set_option linter.unusedSimpArgs false
set_option maxHeartbeats 400000

theorem Bin_cat (w x v y : Nat) (hw : 0 < w) (hv : 0 < v) (hwb : w ≤ 128) (hvb : v ≤ 128) (h : w + v ≤ 128) : ACall Tryz.prog 24 [vSL sConcat, .d (vN w x), .d (vN v y)] [] (fun r o => r = tupOf [.d (vN (w + v) (jnN w x v y)), vI .i64 0]) := by
  refine acall_enter Tryz.func24 rfl rfl (Nat.le_of_ble_eq_true rfl) fun C hC hCl => ?_
  have hj := joined_call w x v y hw hv hwb hvb
  simp only [if_pos h] at hj
  refine sat_branch tabOk Tryz.func24 rfl trivial (fun _ => ?_) (fun h => (strF (a := sConcat) (b := sConcat) rfl h).elim)
  refine sat_call tabOk Tryz.func24 rfl trivial hj (.refl _) rfl ⟨_, rfl⟩ (by rintro r o rfl; rfl) ?_
  rintro r o rfl
  exact sat_ret tabOk Tryz.func24 rfl trivial rfl
theorem Bin_catNo (w x v y : Nat) (hw : 0 < w) (hv : 0 < v) (hwb : w ≤ 128) (hvb : v ≤ 128) (h : ¬ w + v ≤ 128) : ACall Tryz.prog 24 [vSL sConcat, .d (vN w x), .d (vN v y)] [] (fun r o => r = tupOf [.d z24, vI .i64 5]) := by
  refine acall_enter Tryz.func24 rfl rfl (Nat.le_of_ble_eq_true rfl) fun C hC hCl => ?_
  have hj := joined_call w x v y hw hv hwb hvb
  simp only [if_neg h] at hj
  refine sat_branch tabOk Tryz.func24 rfl trivial (fun _ => ?_) (fun h => (strF (a := sConcat) (b := sConcat) rfl h).elim)
  refine sat_call tabOk Tryz.func24 rfl trivial hj (.refl _) rfl ⟨_, rfl⟩ (by rintro r o rfl; rfl) ?_
  rintro r o rfl
  exact sat_ret tabOk Tryz.func24 rfl trivial rfl
theorem jn_tb {w x v y i : Nat} (hi : i < w + v) : (jnN w x v y).testBit i = if i < v then y.testBit i else x.testBit (i - v) := by
  rw [jnN, ofB_tb]
  simp [hi]
theorem txt_jn (w x v y : Nat) : txt (w + v) (jnN w x v y) = txt w x ++ txt v y := by
  apply List.ext_getElem?
  intro i
  by_cases hi : i < w
  · rw [List.getElem?_append_left (by rw [txt_len]; exact hi)]
    simp only [txt]
    rw [List.getElem?_map, List.getElem?_map, List.getElem?_range (by omega), List.getElem?_range hi]
    simp only [Option.map_some]
    rw [jn_tb (by omega), if_neg (by omega), show w + v - 1 - i - v = w - 1 - i by omega]
  · rw [List.getElem?_append_right (by rw [txt_len]; omega), txt_len]
    by_cases hi2 : i < w + v
    · simp only [txt]
      rw [List.getElem?_map, List.getElem?_map, List.getElem?_range hi2, List.getElem?_range (by omega)]
      simp only [Option.map_some]
      rw [jn_tb (by omega), if_pos (by omega), show w + v - 1 - i = v - 1 - (i - w) by omega]
    · rw [List.getElem?_eq_none (by rw [txt_len]; omega), List.getElem?_eq_none (by rw [txt_len]; omega)]
theorem sl_ex {w x n : Nat} {b : Bool} (hx : x < 2 ^ w) : slN (exN w x n b) 0 w = x := ofB_eq hx fun i hi => by
  rw [exN, ofB_tb]
  simp [hi, show i < w + n by omega]
theorem jn_sl {w x c : Nat} (hx : x < 2 ^ w) (hc : c < w) : jnN (w - c) (slN x c (w - c)) c (slN x 0 c) = x := by
  rw [jnN, show w - c + c = w by omega]
  refine ofB_eq hx fun i hi => ?_
  by_cases h : i < c
  · simp [slN, ofB_tb, h]
  · simp only [h, if_false, slN, ofB_tb]
    simp [show i - c < w - c by omega, show c + (i - c) = i by omega]

theorem VecParts_law (hr : RepOk) (w v i j : Int) (l k : List Nat) (hl : lims l) (hk : lims k) (hll : l.length ≤ maxLen) (hkl : k.length ≤ maxLen) (hj : (Lit.int .i64 j).wf = true) : ACall Tryz.prog 9 [.d (.ag [eI w, eUs l, eI v, eUs k, eI i, eI j])] [] (fun r o => r = vB true) := by
  refine acall_enter Tryz.func9 rfl rfl (Nat.le_of_ble_eq_true rfl) fun C hC hCl => ?_
  refine sat_call tabOk Tryz.func9 rfl trivial shown_call (.refl _) rfl ⟨_, rfl⟩ (by rintro r o rfl; rfl) ?_
  rintro r o rfl
  refine sat_le (env' := [(3, .ptr 1 0), (4, .ptr 2 0), (5, vI .i64 i), (6, vI .i64 j), (26, vB true)]) (objs' := [none, some (bV w l), some (bV v k)]) ?_ hC hCl ⟨⟨_, rfl, .refl _⟩, ⟨_, rfl, .refl _⟩, ⟨_, rfl, .refl _⟩, ⟨_, rfl, .refl _⟩, ⟨_, rfl, .refl _⟩, trivial⟩ ⟨.refl _, .refl _, trivial⟩ rfl rfl (Nat.zero_le _)
  refine sat_call tabOk Tryz.func9 rfl trivial (rRight_call w l hl hll) (.refl _) rfl ⟨_, rfl⟩ (by rintro r o rfl; rfl) ?_
  rintro r o rfl
  refine sat_branch tabOk Tryz.func9 rfl trivial (fun h1 => ?_) (fun h1 => ?_)
  · refine sat_branch tabOk Tryz.func9 rfl trivial (fun _ => ?_) (fun h => by cases h)
    exact sat_ret tabOk Tryz.func9 rfl trivial rfl
  refine sat_call tabOk Tryz.func9 rfl trivial (rRight_call v k hk hkl) (.refl _) rfl ⟨_, rfl⟩ (by rintro r o rfl; rfl) ?_
  rintro r o rfl
  refine sat_branch tabOk Tryz.func9 rfl trivial (fun h2 => ?_) (fun h2 => ?_)
  · exact sat_ret tabOk Tryz.func9 rfl trivial rfl
  have r1 : rightV w l = true := by cases h : rightV w l with | true => rfl | false => rw [h] at h1; cases h1
  have r2 : rightV v k = true := by cases h : rightV v k with | true => rfl | false => rw [h] at h2; cases h2
  obtain ⟨n, x, rfl, n1, n2, hx, rfl⟩ := right_lmb hl r1
  obtain ⟨m, y, rfl, m1, m2, hy, rfl⟩ := right_lmb hk r2
  have es : IntKind.i64.wrap ((n : Int) + m) = ((n + m : Nat) : Int) := by rw [wrap_id (by omega) (by omega)]; omega
  by_cases hs : n + m ≤ 128
  case' pos =>
    have q := Bin_cat n x m y (by omega) (by omega) n2 m2 hs
    have qt := TextN_call (n + m) (jnN n x m y) (by omega) (by omega)
    rw [txt_jn] at qt
    generalize jnN n x m y = xy at *
    refine sat_call tabOk Tryz.func9 rfl trivial q (.refl _) rfl ⟨_, rfl⟩ (by rintro r o rfl; rfl) ?_
    rintro r o rfl
    refine sat_le (env' := [(3, .ptr 1 0), (4, .ptr 2 0), (5, vI .i64 i), (6, vI .i64 j), (7, vB true), (39, tupOf [.d (vN (n + m) xy), vI .i64 0])]) (objs' := [none, some (bN n x), some (bN m y)]) ?_ hC hCl ⟨⟨_, rfl, .refl _⟩, ⟨_, rfl, .refl _⟩, ⟨_, rfl, .refl _⟩, ⟨_, rfl, .refl _⟩, ⟨_, rfl, .refl _⟩, ⟨_, rfl, .refl _⟩, trivial⟩ ⟨.refl _, .refl _, trivial⟩ rfl rfl (Nat.zero_le _)
    refine sat_drawT 18 tabOk Tryz.func9 rfl rfl trivial (by kernel_rfl) ?_
    refine ds_branch tabOk rfl trivial (fun h => ?_) (fun _ => ?_)
    · have h : (((0 : Int) == 0) != decide (IntKind.i64.wrap ((n : Int) + m) ≤ 128)) = true := h
      rw [es, decide_eq_true (show ((n + m : Nat) : Int) ≤ 128 by omega)] at h
      cases h
    refine ds_branch tabOk rfl trivial (fun _ => ?_) (fun h => absurd h (by decide))
    refine ds_call tabOk rfl trivial (qt) (callFunc_run Tryz.func19 rfl rfl) (by rintro r o rfl; rfl) (.refl _) rfl rfl ⟨_, rfl⟩ ?_
    refine ds_call tabOk rfl trivial (TextN_call n x (by omega) (by omega)) (callFunc_run Tryz.func19 rfl rfl) (by rintro r o rfl; rfl) (.refl _) rfl rfl ⟨_, rfl⟩ ?_
    refine ds_done tabOk rfl trivial ?_
    refine sat_call tabOk Tryz.func9 rfl trivial (TextN_call m y (by omega) (by omega)) (.refl _) rfl ⟨_, rfl⟩ (by rintro r o rfl; rfl) ?_
    rintro r o rfl
    refine sat_branch tabOk Tryz.func9 rfl ?_ (fun h => ?_) (fun _ => ?_)
    · rw [size_list, size_list, txt_len, txt_len]
      exact ⟨by omega, trivial⟩
    · rw [cat_list, strT rfl] at h
      cases h
    refine sat_le (env' := [(3, .ptr 1 0), (4, .ptr 2 0), (5, vI .i64 i), (6, vI .i64 j), (7, vB true), (64, .lit false)]) (objs' := [none, some (bN n x), some (bN m y)]) ?_ hC hCl ⟨⟨_, rfl, .refl _⟩, ⟨_, rfl, .refl _⟩, ⟨_, rfl, .refl _⟩, ⟨_, rfl, .refl _⟩, ⟨_, rfl, .refl _⟩, ⟨_, rfl, .refl _⟩, trivial⟩ ⟨.refl _, .refl _, trivial⟩ rfl rfl (Nat.zero_le _)
  case' neg =>
    have q := Bin_catNo n x m y (by omega) (by omega) n2 m2 hs
    refine sat_call tabOk Tryz.func9 rfl trivial q (.refl _) rfl ⟨_, rfl⟩ (by rintro r o rfl; rfl) ?_
    rintro r o rfl
    refine sat_le (env' := [(3, .ptr 1 0), (4, .ptr 2 0), (5, vI .i64 i), (6, vI .i64 j), (7, vB true), (39, tupOf [.d z24, vI .i64 5])]) (objs' := [none, some (bN n x), some (bN m y)]) ?_ hC hCl ⟨⟨_, rfl, .refl _⟩, ⟨_, rfl, .refl _⟩, ⟨_, rfl, .refl _⟩, ⟨_, rfl, .refl _⟩, ⟨_, rfl, .refl _⟩, ⟨_, rfl, .refl _⟩, trivial⟩ ⟨.refl _, .refl _, trivial⟩ rfl rfl (Nat.zero_le _)
    refine sat_drawT 18 tabOk Tryz.func9 rfl rfl trivial (by kernel_rfl) ?_
    refine ds_branch tabOk rfl trivial (fun h => ?_) (fun _ => ?_)
    · have h : (((5 : Int) == 0) != decide (IntKind.i64.wrap ((n : Int) + m) ≤ 128)) = true := h
      rw [es, decide_eq_false (show ¬ ((n + m : Nat) : Int) ≤ 128 by omega)] at h
      cases h
    refine ds_branch tabOk rfl trivial (fun h => absurd h (by decide)) (fun _ => ?_)
    refine ds_done tabOk rfl trivial ?_
    refine sat_branch tabOk Tryz.func9 rfl trivial (fun h => by cases h) (fun _ => ?_)
    refine sat_le (env' := [(3, .ptr 1 0), (4, .ptr 2 0), (5, vI .i64 i), (6, vI .i64 j), (7, vB true), (64, .lit false)]) (objs' := [none, some (bN n x), some (bN m y)]) ?_ hC hCl ⟨⟨_, rfl, .refl _⟩, ⟨_, rfl, .refl _⟩, ⟨_, rfl, .refl _⟩, ⟨_, rfl, .refl _⟩, ⟨_, rfl, .refl _⟩, ⟨_, rfl, .refl _⟩, trivial⟩ ⟨.refl _, .refl _, trivial⟩ rfl rfl (Nat.zero_le _)
  all_goals
    have en : IntKind.i64.wrap ((n : Int) - 1) = ((n - 1 : Nat) : Int) := by rw [wrap_id (by omega) (by omega)]; omega
    by_cases he : j < 0 ∨ (128 : Int) < n + j
    case' pos =>
      refine sat_call tabOk Tryz.func9 rfl trivial (Ext_no n x j true n2 he) (.refl _) rfl ⟨_, rfl⟩ (by rintro r o rfl; rfl) ?_
      rintro r o rfl
      refine sat_le (env' := [(3, .ptr 1 0), (4, .ptr 2 0), (5, vI .i64 i), (6, vI .i64 j), (7, vB true), (68, tupOf [.d z24, vI .i64 5])]) (objs' := [none, some (bN n x), some (bN m y)]) ?_ hC hCl ⟨⟨_, rfl, .refl _⟩, ⟨_, rfl, .refl _⟩, ⟨_, rfl, .refl _⟩, ⟨_, rfl, .refl _⟩, ⟨_, rfl, .refl _⟩, ⟨_, rfl, .refl _⟩, trivial⟩ ⟨.refl _, .refl _, trivial⟩ rfl rfl (Nat.zero_le _)
      refine sat_branch tabOk Tryz.func9 rfl trivial (fun h => absurd h (by decide)) (fun _ => ?_)
      refine sat_le (env' := [(3, .ptr 1 0), (4, .ptr 2 0), (5, vI .i64 i), (6, vI .i64 j), (7, vB true), (72, .lit false)]) (objs' := [none, some (bN n x), some (bN m y)]) ?_ hC hCl ⟨⟨_, rfl, .refl _⟩, ⟨_, rfl, .refl _⟩, ⟨_, rfl, .refl _⟩, ⟨_, rfl, .refl _⟩, ⟨_, rfl, .refl _⟩, ⟨_, rfl, .refl _⟩, trivial⟩ ⟨.refl _, .refl _, trivial⟩ rfl rfl (Nat.zero_le _)
    case' neg =>
      obtain ⟨a, rfl⟩ : ∃ a : Nat, j = a := ⟨j.toNat, by omega⟩
      have q1 := Ext_ok n x a true (by omega) n2 (by omega) (hr _ a (by omega))
      have q2 := Slice_ok (n + a) (exN n x a (true && x.testBit (n - 1))) 0 (n - 1) (by omega) (by omega) (by omega)
      rw [show n - 1 - 0 + 1 = n by omega, sl_ex hx] at q2
      have ea : IntKind.i64.wrap ((n : Int) + a) = ((n + a : Nat) : Int) := by rw [wrap_id (by omega) (by omega)]; omega
      generalize exN n x a (true && x.testBit (n - 1)) = ex at *
      refine sat_call tabOk Tryz.func9 rfl trivial q1 (.refl _) rfl ⟨_, rfl⟩ (by rintro r o rfl; rfl) ?_
      rintro r o rfl
      refine sat_le (env' := [(3, .ptr 1 0), (4, .ptr 2 0), (5, vI .i64 i), (6, vI .i64 a), (7, vB true), (68, tupOf [.d (vN (n + a) ex), vI .i64 0])]) (objs' := [none, some (bN n x), some (bN m y)]) ?_ hC hCl ⟨⟨_, rfl, .refl _⟩, ⟨_, rfl, .refl _⟩, ⟨_, rfl, .refl _⟩, ⟨_, rfl, .refl _⟩, ⟨_, rfl, .refl _⟩, ⟨_, rfl, .refl _⟩, trivial⟩ ⟨.refl _, .refl _, trivial⟩ rfl rfl (Nat.zero_le _)
      refine sat_branch tabOk Tryz.func9 rfl trivial (fun _ => ?_) (fun h => absurd h (by decide))
      refine sat_call tabOk Tryz.func9 rfl trivial q2 ⟨.refl _, .of (by show vI .i64 (IntKind.i64.wrap ((n : Int) - 1)) = _; rw [en]), .refl _, trivial⟩ rfl ⟨_, rfl⟩ (by rintro r o rfl; rfl) ?_
      rintro r o rfl
      refine sat_le (env' := [(3, .ptr 1 0), (4, .ptr 2 0), (5, vI .i64 i), (6, vI .i64 a), (7, vB true), (10, .ptr 3 0), (78, tupOf [.d (vN n x), vI .i64 0])]) (objs' := [none, some (bN n x), some (bN m y), some (bN (n + a) ex)]) ?_ hC hCl ⟨⟨_, rfl, .refl _⟩, ⟨_, rfl, .refl _⟩, ⟨_, rfl, .refl _⟩, ⟨_, rfl, .refl _⟩, ⟨_, rfl, .refl _⟩, ⟨_, rfl, .refl _⟩, ⟨_, rfl, .refl _⟩, trivial⟩ ⟨.refl _, .refl _, .refl _, trivial⟩ rfl rfl (Nat.zero_le _)
      refine sat_branch tabOk Tryz.func9 rfl trivial (fun h => absurd h (by decide)) (fun _ => ?_)
      refine sat_call tabOk Tryz.func9 rfl trivial (rSameN_call n x n x hx hx (by omega)) (.refl _) rfl ⟨_, rfl⟩ (by rintro r o rfl; rfl) ?_
      rintro r o rfl
      rw [decide_eq_true (rfl : n = n), decide_eq_true (rfl : x = x)]
      refine sat_branch tabOk Tryz.func9 rfl trivial (fun h => by cases h) (fun _ => ?_)
      refine sat_branch tabOk Tryz.func9 rfl trivial (fun h => ?_) (fun _ => ?_)
      · have h : (((n + a : Nat) : Int) != IntKind.i64.wrap ((n : Int) + a)) = true := h
        rw [ea] at h
        simp at h
      refine sat_le (env' := [(3, .ptr 1 0), (4, .ptr 2 0), (5, vI .i64 i), (6, vI .i64 a), (7, vB true), (97, .lit false)]) (objs' := [none, some (bN n x), some (bN m y)]) ?_ hC hCl ⟨⟨_, rfl, .refl _⟩, ⟨_, rfl, .refl _⟩, ⟨_, rfl, .refl _⟩, ⟨_, rfl, .refl _⟩, ⟨_, rfl, .refl _⟩, ⟨_, rfl, .refl _⟩, trivial⟩ ⟨.refl _, .refl _, trivial⟩ rfl rfl (Nat.zero_le _)
  all_goals
    refine sat_branch tabOk Tryz.func9 rfl trivial (fun h3 => ?_) (fun h3 => ?_)
    · refine sat_branch tabOk Tryz.func9 rfl trivial (fun _ => ?_) (fun h => by cases h)
      exact sat_ret tabOk Tryz.func9 rfl trivial rfl
    refine sat_branch tabOk Tryz.func9 rfl trivial (fun h4 => ?_) (fun h4 => ?_)
    · exact sat_ret tabOk Tryz.func9 rfl trivial rfl
    have h3 : decide (i < 1) = false := h3
    have h4 : decide (i ≥ (n : Int)) = false := h4
    rw [decide_eq_false_iff_not] at h3 h4
    obtain ⟨c, hc⟩ : ∃ c : Nat, i = c := ⟨i.toNat, by omega⟩
    subst hc
    have ec : IntKind.i64.wrap ((c : Int) - 1) = ((c - 1 : Nat) : Int) := by rw [wrap_id (by omega) (by omega)]; omega
    have q1 := Slice_ok n x c (n - 1) n2 (by omega) (by omega)
    have q2 := Slice_ok n x 0 (c - 1) n2 (by omega) (by omega)
    have q3 := of_call sConcat (n - c) (slN x c (n - c)) c (slN x 0 c) (n - c + c) _ 0 (Bin_cat (n - c) (slN x c (n - c)) c (slN x 0 c) (by omega) (by omega) (by omega) (by omega) (by omega))
    rw [jn_sl hx (by omega), show n - c + c = n by omega] at q3
    rw [show n - 1 - c + 1 = n - c by omega] at q1
    rw [show c - 1 - 0 + 1 = c by omega] at q2
    generalize slN x c (n - c) = s1 at *
    generalize slN x 0 c = s2 at *
    refine sat_call tabOk Tryz.func9 rfl trivial q1 ⟨.refl _, .of (by show vI .i64 (IntKind.i64.wrap ((n : Int) - 1)) = _; rw [en]), .refl _, trivial⟩ rfl ⟨_, rfl⟩ (by rintro r o rfl; rfl) ?_
    rintro r o rfl
    refine sat_le (env' := [(3, .ptr 1 0), (5, vI .i64 c), (7, vB true), (113, tupOf [.d (vN (n - c) s1), vI .i64 0])]) (objs' := [none, some (bN n x), some (bN m y)]) ?_ hC hCl ⟨⟨_, rfl, .refl _⟩, ⟨_, rfl, .refl _⟩, ⟨_, rfl, .refl _⟩, ⟨_, rfl, .refl _⟩, trivial⟩ ⟨.refl _, .refl _, trivial⟩ rfl rfl (Nat.zero_le _)
    refine sat_call tabOk Tryz.func9 rfl trivial q2 ⟨.refl _, .of (by show vI .i64 (IntKind.i64.wrap ((c : Int) - 1)) = _; rw [ec]), .refl _, trivial⟩ rfl ⟨_, rfl⟩ (by rintro r o rfl; rfl) ?_
    rintro r o rfl
    refine sat_le (env' := [(3, .ptr 1 0), (7, vB true), (14, .ptr 3 0), (120, tupOf [.d (vN c s2), vI .i64 0])]) (objs' := [none, some (bN n x), some (bN m y), some (bN (n - c) s1)]) ?_ hC hCl ⟨⟨_, rfl, .refl _⟩, ⟨_, rfl, .refl _⟩, ⟨_, rfl, .refl _⟩, ⟨_, rfl, .refl _⟩, trivial⟩ ⟨.refl _, .refl _, .refl _, trivial⟩ rfl rfl (Nat.zero_le _)
    refine sat_drawT 6 tabOk Tryz.func9 rfl rfl trivial (by kernel_rfl) ?_
    refine ds_branch tabOk rfl trivial (fun _ => ?_) (fun h => by cases h)
    refine ds_call tabOk rfl trivial (q3) (callFunc_run Tryz.func32 rfl rfl) (by rintro r o rfl; rfl) (.refl _) rfl rfl ⟨_, rfl⟩ ?_
    refine ds_done tabOk rfl trivial ?_
    refine sat_call tabOk Tryz.func9 rfl trivial (rSameN_call n x n x hx hx (by omega)) (.refl _) rfl ⟨_, rfl⟩ (by rintro r o rfl; rfl) ?_
    rintro r o rfl
    refine sat_ret tabOk Tryz.func9 rfl trivial ?_
    rw [decide_eq_true (rfl : n = n), decide_eq_true (rfl : x = x)]
    rfl
end Go.Proofs.YtclamogkchdkgaaGreatDoor
namespace Ab

/-- How many of the first n are so. -/
def cnt (f : Nat → Bool) : Nat → Nat
  | 0 => 0
  | n + 1 => cnt f n + if f n then 1 else 0
theorem cnt_congr {f g : Nat → Bool} : ∀ {n : Nat}, (∀ i, i < n → f i = g i) → cnt f n = cnt g n
  | 0, _ => rfl
  | n + 1, h => by rw [cnt, cnt, cnt_congr fun i hi => h i (by omega), h n (by omega)]
theorem cnt_add (f : Nat → Bool) (a : Nat) : ∀ b, cnt f (a + b) = cnt f a + cnt (fun i => f (a + i)) b
  | 0 => rfl
  | b + 1 => by rw [← Nat.add_assoc, cnt, cnt, cnt_add f a b]; omega
theorem cnt_none {f : Nat → Bool} : ∀ {n : Nat}, (∀ i, i < n → f i = false) → cnt f n = 0
  | 0, _ => rfl
  | n + 1, h => by rw [cnt, cnt_none fun i hi => h i (by omega), h n (by omega)]; rfl
theorem cnt_le (f : Nat → Bool) : ∀ n, cnt f n ≤ n
  | 0 => Nat.le_refl _
  | n + 1 => by have := cnt_le f n; rw [cnt]; split <;> omega
theorem cnt_count (f : Nat → Bool) : ∀ n, ((List.range n).map f).count true = cnt f n
  | 0 => rfl
  | n + 1 => by
    rw [List.range_succ, List.map_append, List.count_append, cnt_count f n, cnt]
    cases h : f n <;> simp [h]

def ma1 : Nat → Nat | 0 => 0 | n + 1 => 2 ^ 8 * ma1 n + 0x55
def ma2 : Nat → Nat | 0 => 0 | n + 1 => 2 ^ 8 * ma2 n + 0x33
def ma3 : Nat → Nat | 0 => 0 | n + 1 => 2 ^ 8 * ma3 n + 0x0f
theorem ma1_succ (n : Nat) : ma1 (n + 1) = 2 ^ 8 * ma1 n + 0x55 := rfl
def sw1 (n x : Nat) : Nat := (x / 2 &&& ma1 n) + (x &&& ma1 n)
theorem ma2_succ (n : Nat) : ma2 (n + 1) = 2 ^ 8 * ma2 n + 0x33 := rfl
def sw2 (n x : Nat) : Nat := (x / 4 &&& ma2 n) + (x &&& ma2 n)
theorem ma3_succ (n : Nat) : ma3 (n + 1) = 2 ^ 8 * ma3 n + 0x0f := rfl
def sw3 (n x : Nat) : Nat := (x / 16 + x) &&& ma3 n
theorem and_split {h b k c : Nat} (hb : b < 2 ^ 8) (hc : c < 2 ^ 8) : (2 ^ 8 * h + b) &&& (2 ^ 8 * k + c) = 2 ^ 8 * (h &&& k) + (b &&& c) := by
  apply Nat.eq_of_testBit_eq
  intro i
  rw [Nat.testBit_and, Nat.testBit_two_pow_mul_add _ hb, Nat.testBit_two_pow_mul_add _ hc, Nat.testBit_two_pow_mul_add _ (Nat.lt_of_le_of_lt Nat.and_le_left hb)]
  split
  · rw [Nat.testBit_and]
  · rw [Nat.testBit_and]
def b1 (b : Nat) : Nat := (b / 2 &&& 0x55) + (b &&& 0x55)
def b2 (b : Nat) : Nat := (b / 4 &&& 0x33) + (b &&& 0x33)
def b3 (b : Nat) : Nat := (b / 16 + b) &&& 0x0f
set_option maxRecDepth 100000 in
theorem d1 : ∀ c, c < 2 → ∀ b, b < 256 → ((c * 128 + b / 2) &&& 0x55) = (b / 2 &&& 0x55) := by decide +kernel
set_option maxRecDepth 100000 in
theorem d2 : ∀ c, c < 4 → ∀ b, b < 256 → ((c * 64 + b / 4) &&& 0x33) = (b / 4 &&& 0x33) := by decide +kernel
set_option maxRecDepth 100000 in
theorem d3 : ∀ c, c < 5 → ∀ b, b < 69 → ((c * 16 + b / 16 + b) &&& 0x0f) = ((b / 16 + b) &&& 0x0f) := by decide +kernel
set_option maxRecDepth 100000 in
theorem d4 : ∀ b, b < 256 → b1 b < 256 ∧ b2 (b1 b) < 69 ∧ b2 (b1 b) % 16 < 5 ∧ b3 (b2 (b1 b)) = cnt b.testBit 8 := by decide +kernel
theorem sw1_succ {n h b : Nat} (hb : b < 256) : sw1 (n + 1) (2 ^ 8 * h + b) = 2 ^ 8 * sw1 n h + b1 b := by
  unfold sw1 b1
  rw [ma1_succ, show (2 ^ 8 * h + b) / 2 = 2 ^ 8 * (h / 2) + (h % 2 * 128 + b / 2) by omega, and_split (by omega) (by decide), and_split (by omega) (by decide), d1 _ (by omega) _ hb]
  omega
theorem sw2_succ {n h b : Nat} (hb : b < 256) : sw2 (n + 1) (2 ^ 8 * h + b) = 2 ^ 8 * sw2 n h + b2 b := by
  unfold sw2 b2
  rw [ma2_succ, show (2 ^ 8 * h + b) / 4 = 2 ^ 8 * (h / 4) + (h % 4 * 64 + b / 4) by omega, and_split (by omega) (by decide), and_split (by omega) (by decide), d2 _ (by omega) _ hb]
  omega
theorem sw3_succ {n h b : Nat} (hb : b < 69) (hh : h % 16 < 5) : sw3 (n + 1) (2 ^ 8 * h + b) = 2 ^ 8 * sw3 n h + b3 b := by
  unfold sw3 b3
  rw [ma3_succ, show (2 ^ 8 * h + b) / 16 + (2 ^ 8 * h + b) = 2 ^ 8 * (h / 16 + h) + (h % 16 * 16 + b / 16 + b) by omega, and_split (by omega) (by decide), d3 _ (by omega) _ hb]
def sw (n x : Nat) : Nat := sw3 n (sw2 n (sw1 n x))
theorem sw_mod {n h : Nat} (hh : h < 256 ^ n) : sw2 n (sw1 n h) % 16 < 5 := by
  cases n with
  | zero => simp [sw2, sw1, ma1, ma2]
  | succ n =>
    have : h = 2 ^ 8 * (h / 256) + h % 256 := by omega
    have hb : h % 256 < 256 := Nat.mod_lt _ (by decide)
    obtain ⟨e1, e2, e3, _⟩ := d4 _ hb
    rw [this, sw1_succ hb, sw2_succ e1]
    omega
theorem sw_succ {n h b : Nat} (hh : h < 256 ^ n) (hb : b < 256) : sw (n + 1) (2 ^ 8 * h + b) = 2 ^ 8 * sw n h + cnt b.testBit 8 := by
  obtain ⟨e1, e2, e3, e4⟩ := d4 _ hb
  rw [sw, sw1_succ hb, sw2_succ e1, sw3_succ e2 (sw_mod hh), e4, sw]
theorem byte_bits (x i : Nat) : (x / 256).testBit i = x.testBit (8 + i) := by
  rw [show (256 : Nat) = 2 ^ 8 from rfl, Nat.testBit_div_two_pow, Nat.add_comm]
theorem sw_byte {n x : Nat} (hx : x < 256 ^ (n + 1)) : ∃ p, p ≤ 8 ∧ sw (n + 1) x = 256 * sw n (x / 256) + p ∧ cnt x.testBit (8 + 8 * n) = p + cnt (x / 256).testBit (8 * n) := by
  have hb : x % 256 < 256 := Nat.mod_lt _ (by decide)
  have e : x = 2 ^ 8 * (x / 256) + x % 256 := by omega
  refine ⟨cnt (x % 256).testBit 8, cnt_le _ _, ?_, ?_⟩
  · conv => lhs; rw [e]
    rw [sw_succ (by rw [Nat.div_lt_iff_lt_mul (by decide)]; rwa [Nat.pow_succ] at hx) hb]
  · rw [cnt_add]
    congr 1
    · exact cnt_congr fun i hi => by rw [show (256 : Nat) = 2 ^ 8 from rfl, Nat.testBit_mod_two_pow]; simp [hi]
    · exact cnt_congr fun i hi => (byte_bits x i).symm
/-- The words' way of counting. -/
def ones64 (x : Nat) : Nat :=
  let a := sw 8 x
  let b := a + a / 256
  let c := b + b / 65536
  let d := c + c / 4294967296
  d % 128
theorem ones64_eq {x : Nat} (hx : x < 2 ^ 64) : ones64 x = cnt x.testBit 64 ∧ sw 8 x ≤ 8 * 72340172838076673 := by
  obtain ⟨p0, l0, s0, c0⟩ := sw_byte (n := 7) (x := x) (by simpa using hx)
  obtain ⟨p1, l1, s1, c1⟩ := sw_byte (n := 6) (x := x / 256) (by omega)
  obtain ⟨p2, l2, s2, c2⟩ := sw_byte (n := 5) (x := x / 256 / 256) (by omega)
  obtain ⟨p3, l3, s3, c3⟩ := sw_byte (n := 4) (x := x / 256 / 256 / 256) (by omega)
  obtain ⟨p4, l4, s4, c4⟩ := sw_byte (n := 3) (x := x / 256 / 256 / 256 / 256) (by omega)
  obtain ⟨p5, l5, s5, c5⟩ := sw_byte (n := 2) (x := x / 256 / 256 / 256 / 256 / 256) (by omega)
  obtain ⟨p6, l6, s6, c6⟩ := sw_byte (n := 1) (x := x / 256 / 256 / 256 / 256 / 256 / 256) (by omega)
  obtain ⟨p7, l7, s7, c7⟩ := sw_byte (n := 0) (x := x / 256 / 256 / 256 / 256 / 256 / 256 / 256) (by omega)
  have z : sw 0 (x / 256 / 256 / 256 / 256 / 256 / 256 / 256 / 256) = 0 := by simp [sw, sw3, ma3]
  have zc : cnt (x / 256 / 256 / 256 / 256 / 256 / 256 / 256 / 256).testBit (8 * 0) = 0 := rfl
  simp only [Nat.reduceAdd, Nat.reduceMul] at *
  rw [z] at s7
  rw [show cnt (x / 256 / 256 / 256 / 256 / 256 / 256 / 256 / 256).testBit 0 = 0 from rfl] at c7
  have hs : sw 8 x = p0 + 256 * (p1 + 256 * (p2 + 256 * (p3 + 256 * (p4 + 256 * (p5 + 256 * (p6 + 256 * p7)))))) := by omega
  have hc : cnt x.testBit 64 = p0 + p1 + p2 + p3 + p4 + p5 + p6 + p7 := by omega
  refine ⟨?_, by omega⟩
  rw [hc, ones64, hs]
  clear s0 s1 s2 s3 s4 s5 s6 s7 c0 c1 c2 c3 c4 c5 c6 c7 z zc hs hc hx
  have e1 : (p0 + 256 * (p1 + 256 * (p2 + 256 * (p3 + 256 * (p4 + 256 * (p5 + 256 * (p6 + 256 * (p7)))))))) / 256 = p1 + 256 * (p2 + 256 * (p3 + 256 * (p4 + 256 * (p5 + 256 * (p6 + 256 * (p7)))))) := by omega
  rw [e1]
  obtain ⟨q0, h0⟩ : ∃ q, q = p0 + p1 := ⟨_, rfl⟩
  obtain ⟨q1, h1⟩ : ∃ q, q = p1 + p2 := ⟨_, rfl⟩
  obtain ⟨q2, h2⟩ : ∃ q, q = p2 + p3 := ⟨_, rfl⟩
  obtain ⟨q3, h3⟩ : ∃ q, q = p3 + p4 := ⟨_, rfl⟩
  obtain ⟨q4, h4⟩ : ∃ q, q = p4 + p5 := ⟨_, rfl⟩
  obtain ⟨q5, h5⟩ : ∃ q, q = p5 + p6 := ⟨_, rfl⟩
  obtain ⟨q6, h6⟩ : ∃ q, q = p6 + p7 := ⟨_, rfl⟩
  have e2 : (p0 + 256 * (p1 + 256 * (p2 + 256 * (p3 + 256 * (p4 + 256 * (p5 + 256 * (p6 + 256 * (p7)))))))) + (p1 + 256 * (p2 + 256 * (p3 + 256 * (p4 + 256 * (p5 + 256 * (p6 + 256 * (p7))))))) = q0 + 256 * (q1 + 256 * (q2 + 256 * (q3 + 256 * (q4 + 256 * (q5 + 256 * (q6 + 256 * (p7))))))) := by omega
  have e3 : p0 + p1 + p2 + p3 + p4 + p5 + p6 + p7 = q0 + q2 + q4 + q6 := by omega
  rw [e2, e3]
  have m0 : q0 ≤ 16 := by omega
  have m1 : q1 ≤ 16 := by omega
  have m2 : q2 ≤ 16 := by omega
  have m3 : q3 ≤ 16 := by omega
  have m4 : q4 ≤ 16 := by omega
  have m5 : q5 ≤ 16 := by omega
  have m6 : q6 ≤ 16 := by omega
  clear e1 e2 e3 h0 h1 h2 h3 h4 h5 h6 l0 l1 l2 l3 l4 l5 l6
  have e4 : (q0 + 256 * (q1 + 256 * (q2 + 256 * (q3 + 256 * (q4 + 256 * (q5 + 256 * (q6 + 256 * (p7)))))))) / 65536 = q2 + 256 * (q3 + 256 * (q4 + 256 * (q5 + 256 * (q6 + 256 * (p7))))) := by omega
  rw [e4]
  have e5 : (q0 + 256 * (q1 + 256 * (q2 + 256 * (q3 + 256 * (q4 + 256 * (q5 + 256 * (q6 + 256 * (p7)))))))) + (q2 + 256 * (q3 + 256 * (q4 + 256 * (q5 + 256 * (q6 + 256 * (p7)))))) = (q0 + q2) + 256 * ((q1 + q3) + 256 * ((q2 + q4) + 256 * ((q3 + q5) + 256 * ((q4 + q6) + 256 * ((q5 + p7) + 256 * (q6 + 256 * p7)))))) := by omega
  rw [e5]
  have e6 : ((q0 + q2) + 256 * ((q1 + q3) + 256 * ((q2 + q4) + 256 * ((q3 + q5) + 256 * ((q4 + q6) + 256 * ((q5 + p7) + 256 * (q6 + 256 * p7))))))) / 4294967296 = (q4 + q6) + 256 * ((q5 + p7) + 256 * (q6 + 256 * p7)) := by omega
  rw [e6]
  omega
end Ab
