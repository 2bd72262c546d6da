/- A part of the proof: S1, N13, N15, N16, N17, N4, N18, N19, N20, N5, N6, N7, N21, N22, N23, N24, N8, N9. -/
import Derived.Test.YtjjlipbddlignaaGreatDoorP13
import Derived.Laws.Strings
set_option linter.unusedVariables false
set_option linter.unusedSimpArgs false
namespace Go.Proofs.YtjjlipbddlignaaGreatDoor
open Go Ab
set_option maxRecDepth 100000
set_option linter.unusedVariables false
set_option linter.unusedSimpArgs false

/-! ### strings.Trim, of noughts and ones -/
def set01 : List AV := (List.range 256).map fun i => vB (i == 48 || i == 49)
def is01 (c : UInt8) : Bool := c.toNat == 48 || c.toNat == 49
theorem set01_at {i : Nat} (h : i < 256) : nth set01 i = some (vB (i == 48 || i == 49)) := by
  rw [nth_eq, set01, List.getElem?_map, List.getElem?_range h]
  rfl
@[reducible] def sO : AObj := .cells 118 set01

theorem contains_call (c : UInt8) : ACall Tryz.prog 96 [.ptr 0 0, vI .u8 (c.toNat : Int)] [some sO] (fun r o => r = vB (is01 c) ∧ o = [some sO]) := by
  refine acall_enter Tryz.func96 rfl rfl (Nat.le_of_ble_eq_true rfl) fun C hC hCl hDs hGk => ?_
  have hc : c.toNat < 256 := c.toNat_lt
  refine sat_steps 9 tabOk Tryz.func96 rfl trivial ?_
  refine sat_pure (.ptr 0 (0 + c.toNat * 1)) tabOk rfl rfl (by exact pIndexAddr_arr (T := tab) (t := 118) (e := 4) (objs := [some sO]) (j := 0) (off := 0) (i := c.toNat) (ki := .u8) (by rfl) (by rfl) (by rfl) hc) rfl ?_
  refine sat_pure (vB (is01 c)) tabOk rfl rfl (by exact pLoad_arr (T := tab) (t := 4) (objs := [some sO]) (j := 0) (off := 0 + c.toNat * 1) (by rfl) (by rfl) (by rfl) (by rw [Nat.zero_add, Nat.mul_one]; exact set01_at hc)) rfl ?_
  exact sat_retL tabOk Tryz.func96 rfl trivial hC hCl (.refl _) (o2 := [some sO]) ⟨.refl _, trivial⟩ rfl rfl (Nat.le_refl _) ⟨rfl, rfl⟩

@[reducible] def trE (l t : List UInt8) : Prop := t = [] ↔ ∀ c ∈ l, is01 c = true
theorem trimR_call (l : List UInt8) (hl : l.length ≤ 1000000000) : ACall Tryz.prog 78 [vSL l, .ptr 0 0] [some sO] (fun r o => ∃ t, r = vSL t ∧ t.length ≤ l.length ∧ (trE l t ∧ trE t t) ∧ o = [some sO]) := by
  refine acall_enter Tryz.func78 rfl rfl (Nat.le_of_ble_eq_true rfl) fun C hC hCl hDs hGk => ?_
  refine sat_stop tabOk Tryz.func78 rfl trivial ?_
  refine sat_while (α := Nat) (fun k => [(0, vSL (l.take k)), (1, .ptr 0 0)]) (fun k => [some sO]) (fun k => k ≤ l.length ∧ ∀ c ∈ l.drop k, is01 c = true) (fun k => k) l.length ⟨Nat.le_refl _, by simp⟩ ?_ ?_
  · refine fun h => sat_le h hC hCl ⟨⟨_, rfl, .of ?_⟩, ⟨_, rfl, .refl _⟩, trivial⟩ ⟨.refl _, trivial⟩ rfl rfl (Nat.le_refl _)
    rw [List.take_length]
  rintro k ⟨hk, hd⟩ ih
  have hsz : (⟨(l.take k).toArray⟩ : ByteArray).size = k := by rw [size_list, List.length_take]; omega
  refine sat_branch tabOk Tryz.func78 rfl trivial (fun hb => ?_) (fun hb => ?_) <;> rw [hsz] at hb <;> simp only [decide_eq_true_eq, decide_eq_false_iff_not] at hb
  · have e1 : IntKind.i64.wrap ((k : Int) - 1) = ((k - 1 : Nat) : Int) := by rw [wrap_id (by omega) (by omega)]; omega
    have ht : (l.take k).take (k - 1) = l.take (k - 1) := by rw [List.take_take, Nat.min_eq_left (by omega)]
    have hdk : l.drop (k - 1) = l.getD (k - 1) 0 :: l.drop k := by
      rw [List.drop_eq_getElem_cons (by omega)]
      simp [show k - 1 < l.length by omega, show k - 1 + 1 = k by omega]
    have hm : l.getD (k - 1) 0 ∈ l := by
      have : k - 1 < l.length := by omega
      simp [this]
    refine sat_callG [0] tabOk Tryz.func78 rfl ?_ (contains_call (l.getD (k - 1) 0)) ⟨⟨_, rfl, .refl _⟩, trivial⟩ ⟨.refl _, .of ?_, trivial⟩ rfl rfl rfl ⟨_, rfl⟩ ?_
    · simp only [hsz, e1, Int.toNat_natCast]
      refine ⟨⟨?_, ?_⟩, trivial⟩ <;> omega
    · show vI .u8 (bt ⟨(l.take k).toArray⟩ (IntKind.i64.wrap (((⟨(l.take k).toArray⟩ : ByteArray).size : Int) - 1)).toNat) = vI .u8 _
      simp only [hsz, e1, Int.toNat_natCast, bt_list]
      rw [show (l.take k).getD (k - 1) 0 = l.getD (k - 1) 0 by simp [List.getD_eq_getElem?_getD, List.getElem?_take, show k - 1 < k by omega]]
    rintro r o ⟨rfl, rfl⟩
    refine sat_branch tabOk Tryz.func78 rfl trivial (fun h => ?_) (fun h => ?_)
    · refine sat_retL tabOk Tryz.func78 rfl trivial hC hCl (.refl _) (o2 := [some sO]) ⟨.refl _, trivial⟩ rfl rfl (Nat.le_refl _) ⟨l.take k, rfl, ?_, ?_, rfl⟩
      · rw [List.length_take]; omega
      · have h : is01 (l.getD (k - 1) 0) = false := by cases e : is01 (l.getD (k - 1) 0) with | true => rw [e] at h; cases h | false => rfl
        have hmt : l.getD (k - 1) 0 ∈ l.take k := by
          refine List.mem_iff_getElem?.2 ⟨k - 1, ?_⟩
          simp [List.getElem?_take, show k - 1 < k by omega, show k - 1 < l.length by omega]
        have hne : l.take k ≠ [] := fun e => by rw [e] at hmt; cases hmt
        exact ⟨⟨fun e => absurd e hne, fun e => by rw [e _ hm] at h; cases h⟩, ⟨fun e => absurd e hne, fun e => by rw [e _ hmt] at h; cases h⟩⟩
    · refine sat_stop tabOk Tryz.func78 rfl ?_ ?_
      · simp only [hsz, e1, Int.toNat_natCast]
        refine ⟨⟨?_, ?_, ?_⟩, trivial⟩ <;> omega
      refine sat_le (ih (k - 1) ⟨by omega, ?_⟩ (by omega)) hC hCl ⟨⟨_, rfl, .of ?_⟩, ⟨_, rfl, .refl _⟩, trivial⟩ ⟨.refl _, trivial⟩ rfl rfl (Nat.le_refl _)
      · rw [hdk]
        intro c hc
        rcases List.mem_cons.1 hc with rfl | hc
        · simpa using h
        · exact hd c hc
      · show vS _ = vS _
        simp only [hsz, e1, Int.toNat_natCast]
        rw [ext_list, ht]; rfl
  · obtain rfl : k = 0 := by omega
    exact sat_retL tabOk Tryz.func78 rfl trivial hC hCl (.refl _) (o2 := [some sO]) ⟨.refl _, trivial⟩ rfl rfl (Nat.le_refl _) ⟨[], rfl, Nat.zero_le _, ⟨by simpa [trE] using hd, by simp [trE]⟩, rfl⟩
theorem trimL_call (l : List UInt8) (hl : l.length ≤ 1000000000) : ACall Tryz.prog 77 [vSL l, .ptr 0 0] [some sO] (fun r o => ∃ t, r = vSL t ∧ t.length ≤ l.length ∧ trE l t ∧ o = [some sO]) := by
  refine acall_enter Tryz.func77 rfl rfl (Nat.le_of_ble_eq_true rfl) fun C hC hCl hDs hGk => ?_
  refine sat_stop tabOk Tryz.func77 rfl trivial ?_
  refine sat_while (α := Nat) (fun k => [(0, vSL (l.drop k)), (1, .ptr 0 0)]) (fun k => [some sO]) (fun k => k ≤ l.length ∧ ∀ c ∈ l.take k, is01 c = true) (fun k => l.length - k) 0 ⟨Nat.zero_le _, by simp⟩ ?_ ?_
  · exact fun h => sat_le h hC hCl ⟨⟨_, rfl, .refl _⟩, ⟨_, rfl, .refl _⟩, trivial⟩ ⟨.refl _, trivial⟩ rfl rfl (Nat.le_refl _)
  rintro k ⟨hk, hd⟩ ih
  have hsz : (⟨(l.drop k).toArray⟩ : ByteArray).size = l.length - k := by rw [size_list, List.length_drop]
  refine sat_branch tabOk Tryz.func77 rfl trivial (fun hb => ?_) (fun hb => ?_) <;> rw [hsz] at hb <;> simp only [decide_eq_true_eq, decide_eq_false_iff_not] at hb
  · have hdk : l.take (k + 1) = l.take k ++ [l.getD k 0] := by
      rw [List.take_add_one]
      simp [show k < l.length by omega]
    have hm : l.getD k 0 ∈ l := by
      have : k < l.length := by omega
      simp [this]
    refine sat_callG [0] tabOk Tryz.func77 rfl ?_ (contains_call (l.getD k 0)) ⟨⟨_, rfl, .refl _⟩, trivial⟩ ⟨.refl _, .of ?_, trivial⟩ rfl rfl rfl ⟨_, rfl⟩ ?_
    · simp only [hsz]
      refine ⟨⟨?_, ?_⟩, trivial⟩ <;> omega
    · show vI .u8 (bt ⟨(l.drop k).toArray⟩ (0 : Int).toNat) = vI .u8 _
      rw [bt_list]
      rw [show (l.drop k).getD (0 : Int).toNat 0 = l.getD k 0 by simp [List.getD_eq_getElem?_getD]]
    rintro r o ⟨rfl, rfl⟩
    refine sat_branch tabOk Tryz.func77 rfl trivial (fun h => ?_) (fun h => ?_)
    · refine sat_retL tabOk Tryz.func77 rfl trivial hC hCl (.refl _) (o2 := [some sO]) ⟨.refl _, trivial⟩ rfl rfl (Nat.le_refl _) ⟨l.drop k, rfl, ?_, ?_, rfl⟩
      · rw [List.length_drop]; omega
      · have h : is01 (l.getD k 0) = false := by cases e : is01 (l.getD k 0) with | true => rw [e] at h; cases h | false => rfl
        constructor
        · intro e
          rw [e] at hsz
          simp [size_list] at hsz
          omega
        · intro e
          rw [e _ hm] at h
          cases h
    · refine sat_stop tabOk Tryz.func77 rfl ?_ ?_
      · simp only [hsz]
        refine ⟨⟨?_, ?_, ?_⟩, trivial⟩ <;> omega
      refine sat_le (ih (k + 1) ⟨by omega, ?_⟩ (by omega)) hC hCl ⟨⟨_, rfl, .of ?_⟩, ⟨_, rfl, .refl _⟩, trivial⟩ ⟨.refl _, trivial⟩ rfl rfl (Nat.le_refl _)
      · rw [hdk]
        intro c hc
        rcases List.mem_append.1 hc with hc | hc
        · exact hd c hc
        · rw [List.mem_singleton.1 hc]
          simpa using h
      · show vS _ = vS _
        simp only [hsz]
        rw [ext_list, List.take_of_length_le (by rw [List.length_drop]; omega), List.drop_drop]
        rfl
  · obtain rfl : k = l.length := by omega
    exact sat_retL tabOk Tryz.func77 rfl trivial hC hCl (.refl _) (o2 := [some sO]) ⟨.refl _, trivial⟩ rfl rfl (Nat.le_refl _) ⟨[], by rw [List.drop_length]; rfl, Nat.zero_le _, by simpa [trE] using hd, rfl⟩
def mk01 : Nat → List AV
  | 0 => List.replicate 256 (vB false)
  | 1 => (List.replicate 256 (vB false)).set 48 (vB true)
  | _ => set01
@[reducible] def mkI (i : Nat) : Env := [(0, vS ⟨#[48, 49]⟩), (2, .ptr 0 0), (4, vI .i64 i)]
@[reducible] def mkO (i : Nat) : List (Option AObj) := [some (.cells 118 (mk01 i))]
theorem make01_call : ACall Tryz.prog 76 [vS ⟨#[48, 49]⟩] [] (fun r o => r = tupOf [mkAg set01, vB true] ∧ o = []) := by
  refine acall_enter Tryz.func76 rfl rfl (Nat.le_of_ble_eq_true rfl) fun C hC hCl hDs hGk => ?_
  refine sat_stop tabOk Tryz.func76 rfl trivial ?_
  refine sat_loop1 (sat_le (env' := mkI 0) (objs' := mkO 0) ?_ hC hCl ⟨⟨_, rfl, .refl _⟩, ⟨_, rfl, .refl _⟩, ⟨_, rfl, .refl _⟩, trivial⟩ ⟨.of (by kernel_rfl), trivial⟩ rfl rfl (Nat.zero_le _))
  refine sat_branch tabOk Tryz.func76 rfl trivial (fun _ => ?_) (fun h => by cases h)
  refine sat_branch tabOk Tryz.func76 rfl ⟨⟨by decide, by decide⟩, trivial⟩ (fun h => by cases h) (fun _ => ?_)
  refine sat_stop tabOk Tryz.func76 rfl trivial ?_
  refine sat_in1 (sat_le (env' := mkI 1) (objs' := mkO 1) ?_ hC hCl ⟨⟨_, rfl, .refl _⟩, ⟨_, rfl, .refl _⟩, ⟨_, rfl, .of (by rw [wrap_id (by omega) (by omega)]; rfl)⟩, trivial⟩ ⟨.of (by kernel_rfl), trivial⟩ rfl rfl (Nat.zero_le _))
  refine sat_branch tabOk Tryz.func76 rfl trivial (fun _ => ?_) (fun h => by cases h)
  refine sat_branch tabOk Tryz.func76 rfl ⟨⟨by decide, by decide⟩, trivial⟩ (fun h => by cases h) (fun _ => ?_)
  refine sat_stop tabOk Tryz.func76 rfl trivial ?_
  refine sat_in1 (sat_le (env' := mkI 2) (objs' := mkO 2) ?_ hC hCl ⟨⟨_, rfl, .refl _⟩, ⟨_, rfl, .refl _⟩, ⟨_, rfl, .of (by rw [wrap_id (by omega) (by omega)]; rfl)⟩, trivial⟩ ⟨.of (by kernel_rfl), trivial⟩ rfl rfl (Nat.zero_le _))
  refine sat_branch tabOk Tryz.func76 rfl trivial (fun h => by cases h) (fun _ => ?_)
  exact sat_retL tabOk Tryz.func76 rfl trivial hC hCl (r2 := tupOf [mkAg set01, vB true]) (.of (by kernel_rfl)) (o2 := []) trivial rfl (by kernel_rfl) (Nat.zero_le _) ⟨rfl, rfl⟩
theorem eqE_list (l : List UInt8) : ((⟨l.toArray⟩ : ByteArray).toList == (⟨#[]⟩ : ByteArray).toList) = l.isEmpty := by
  rw [ByteArray.toList_mk, show (⟨#[]⟩ : ByteArray) = ⟨([] : List UInt8).toArray⟩ from rfl, ByteArray.toList_mk]
  cases l <;> rfl
theorem Trim01_call (l : List UInt8) (hl : l.length ≤ 1000000000) : ACall Tryz.prog 58 [vSL l, vS ⟨#[48, 49]⟩] [] (fun r o => ∃ t, r = vSL t ∧ trE l t) := by
  refine acall_enter Tryz.func58 rfl rfl (Nat.le_of_ble_eq_true rfl) fun C hC hCl hDs hGk => ?_
  refine sat_branch tabOk Tryz.func58 rfl trivial (fun h => ?_) (fun h => ?_) <;> rw [eqE_list] at h
  · cases l with | cons a l => simp at h | nil =>
    refine sat_branch tabOk Tryz.func58 rfl trivial (fun _ => ?_) (fun h => by cases h)
    exact sat_ret tabOk Tryz.func58 rfl trivial ⟨[], rfl, by simp [trE]⟩
  refine sat_branch tabOk Tryz.func58 rfl trivial (fun h => ?_) (fun _ => ?_)
  · rw [show (⟨#[48, 49]⟩ : ByteArray) = ⟨([48, 49] : List UInt8).toArray⟩ from rfl, eqE_list] at h
    cases h
  refine sat_branch tabOk Tryz.func58 rfl trivial (fun h => absurd h (by decide)) (fun _ => ?_)
  refine sat_branch tabOk Tryz.func58 rfl trivial (fun h => absurd h (by decide)) (fun _ => ?_)
  refine sat_callG [] tabOk Tryz.func58 rfl trivial make01_call trivial (.refl _) rfl rfl rfl ⟨_, rfl⟩ ?_
  rintro r o ⟨rfl, rfl⟩
  refine sat_branch tabOk Tryz.func58 rfl trivial (fun _ => ?_) (fun h => by cases h)
  refine sat_callG [0] tabOk Tryz.func58 rfl trivial (trimR_call l hl) ⟨⟨_, rfl, .of (by kernel_rfl)⟩, trivial⟩ (.refl _) rfl rfl rfl ⟨_, rfl⟩ ?_
  rintro r o ⟨t, rfl, ht1, ⟨ht2, ht3⟩, rfl⟩
  refine sat_callG [0] tabOk Tryz.func58 rfl trivial (trimL_call t (by omega)) ⟨⟨_, rfl, .refl _⟩, trivial⟩ (.refl _) rfl rfl rfl ⟨_, rfl⟩ ?_
  rintro r o ⟨u, rfl, hu1, hu2, rfl⟩
  refine sat_retL tabOk Tryz.func58 rfl trivial hC hCl (.refl _) (o2 := []) trivial rfl rfl (Nat.zero_le _) ⟨u, rfl, ?_⟩
  exact ⟨fun e => ht2.1 (ht3.2 (hu2.1 e)), fun e => hu2.2 (ht3.1 (ht2.2 e))⟩
end Go.Proofs.YtjjlipbddlignaaGreatDoor
namespace Go.Proofs.YtjjlipbddlignaaGreatDoor
open Go Ab Go.RowKit
set_option maxRecDepth 100000
set_option linter.unusedVariables false
set_option linter.unusedSimpArgs false
set_option maxHeartbeats 4000000

theorem isBit_01 (c : UInt8) : isBit c = is01 c := by
  unfold isBit is01
  rw [Bool.eq_iff_iff, decide_eq_true_eq, Bool.or_eq_true, beq_iff_eq, beq_iff_eq]
  have e48 : (48 : UInt8).toNat = 48 := rfl
  have e49 : (49 : UInt8).toNat = 49 := rfl
  constructor
  · rintro (rfl | rfl)
    · exact .inl e48
    · exact .inr e49
  · rintro (h | h)
    · exact .inl (UInt8.toNat_inj.1 (by omega))
    · exact .inr (UInt8.toNat_inj.1 (by omega))
theorem isBits_call (t : List UInt8) (hl : t.length ≤ 1000000000) : ACall Tryz.prog 40 [vTx t] [] (fun r o => r = vB (bitsOk t)) := by
  refine acall_enter Tryz.func40 rfl rfl (Nat.le_of_ble_eq_true rfl) fun C hC hCl hDs hGk => ?_
  refine sat_branch tabOk Tryz.func40 rfl trivial (fun h => ?_) (fun h => ?_)
  rotate_left
  · have h : (!((⟨t.toArray⟩ : ByteArray).toList == (⟨#[]⟩ : ByteArray).toList)) = false := h
    rw [eqE_list] at h
    cases t with | cons a l => cases h | nil =>
    refine sat_branch tabOk Tryz.func40 rfl trivial (fun h => by cases h) (fun _ => ?_)
    exact sat_ret tabOk Tryz.func40 rfl trivial rfl
  have h : (!((⟨t.toArray⟩ : ByteArray).toList == (⟨#[]⟩ : ByteArray).toList)) = true := h
  rw [eqE_list] at h
  have hne : 1 ≤ t.length := by
    cases t with | nil => cases h | cons a l => simp
  refine sat_branch tabOk Tryz.func40 rfl trivial (fun h2 => ?_) (fun h2 => ?_)
  rotate_left
  · have h2 : decide ((((⟨t.toArray⟩ : ByteArray).size : Nat) : Int) ≤ 128) = false := h2
    rw [sizeBy, decide_eq_false_iff_not] at h2
    refine sat_ret tabOk Tryz.func40 rfl trivial ?_
    unfold bitsOk
    rw [decide_eq_false (by omega)]
    rfl
  have h2 : decide ((((⟨t.toArray⟩ : ByteArray).size : Nat) : Int) ≤ 128) = true := h2
  rw [sizeBy, decide_eq_true_eq] at h2
  refine sat_call tabOk Tryz.func40 rfl trivial (Trim01_call t hl) (.refl _) rfl ⟨_, rfl⟩ (by rintro r o ⟨t, rfl, -⟩; rfl) ?_
  rintro r o ⟨u, rfl, hu⟩
  refine sat_ret tabOk Tryz.func40 rfl trivial ?_
  show vB ((⟨u.toArray⟩ : ByteArray).toList == (⟨#[]⟩ : ByteArray).toList) = _
  rw [eqE_list]
  unfold bitsOk
  rw [decide_eq_true ⟨hne, by omega⟩, Bool.true_and]
  congr 3
  rw [Bool.eq_iff_iff, List.isEmpty_iff, List.all_eq_true]
  constructor
  · intro e c hc
    rw [isBit_01]
    exact hu.1 e c hc
  · intro hh
    exact hu.2 fun c hc => by rw [← isBit_01]; exact hh c hc
end Go.Proofs.YtjjlipbddlignaaGreatDoor
namespace Go.Proofs.YtjjlipbddlignaaGreatDoor
open Go Ab Go.RowKit
set_option maxRecDepth 100000
set_option linter.unusedVariables false
set_option linter.unusedSimpArgs false
set_option maxHeartbeats 4000000

@[reducible] def cI (w : Int) : AObj := .cells 3 [.d (eI w)]
theorem getD_memI {l : List Int} {j : Nat} (h : j < l.length) : l.getD j 0 ∈ l := by simp [List.getD_eq_getElem?_getD, h]
theorem ixF_call (g : FuncId) (p : Int → Bool) (w : Int) (hp : ∀ a : Int, ACall Tryz.prog g [vI .i64 a, .ptr 0 0] [some (cI w)] (fun r o => r = vB (p a) ∧ o = [some (cI w)])) (ws : List Int) (ha : ws.length ≤ maxLen) :
    ACall Tryz.prog 60 [.d (eIs ws), .fn (.func g) [.ptr 0 0]] [some (cI w)] (fun r o => ∃ k : Int, r = vI .i64 k ∧ decide (k ≥ 0) = ws.any p ∧ o = [some (cI w)]) := by
  refine acall_enter Tryz.func60 rfl rfl (Nat.le_of_ble_eq_true rfl) fun C hC hCl hDs hGk => ?_
  have hml : maxLen = 9223372036854775807 := rfl
  refine sat_stop tabOk Tryz.func60 rfl trivial ?_
  refine sat_while (α := Nat) (fun j => [(0, .d (eIs ws)), (1, .fn (.func g) [.ptr 0 0]), (7, vI .i64 (ws.length : Int)), (8, vI .i64 (j : Int))]) (fun j => [some (cI w)]) (fun j => j ≤ ws.length ∧ ∀ q, q < j → p (ws.getD q 0) = false) (fun j => ws.length - j) 0 ⟨Nat.zero_le _, fun q hq => by omega⟩ ?_ ?_
  · exact fun h => sat_le h hC hCl ⟨⟨_, rfl, .refl _⟩, ⟨_, rfl, .refl _⟩, ⟨_, rfl, .of (by rw [List.length_map])⟩, ⟨_, rfl, .refl _⟩, trivial⟩ ⟨.refl _, trivial⟩ rfl rfl (Nat.le_refl _)
  rintro j ⟨hj, hall⟩ ih
  refine sat_branch tabOk Tryz.func60 rfl trivial (fun hb => ?_) (fun hb => ?_) <;> simp only [decide_eq_true_eq, decide_eq_false_iff_not] at hb
  · have hlt : j < ws.length := by omega
    refine sat_callG [0] tabOk Tryz.func60 rfl (by simp only [andP, and_true, true_and, Int.toNat_natCast, List.length_map, List.length_append, List.length_cons, List.length_nil, List.length_replicate]; omega) (hp (ws.getD j 0)) ⟨⟨_, rfl, .refl _⟩, trivial⟩ (.refl _) rfl rfl rfl ⟨_, rfl⟩ ?_
    rintro r o ⟨rfl, rfl⟩
    refine sat_branch tabOk Tryz.func60 rfl trivial (fun g => ?_) (fun g => ?_)
    · refine sat_retL tabOk Tryz.func60 rfl trivial hC hCl (.refl _) (o2 := [some (cI w)]) ⟨.refl _, trivial⟩ rfl rfl (Nat.le_refl _) ⟨_, rfl, ?_, rfl⟩
      have : ws.any p = true := List.any_eq_true.2 ⟨_, getD_memI hlt, g⟩
      rw [this]
      exact decide_eq_true (by omega)
    · have g : p (ws.getD j 0) = false := g
      refine sat_stop tabOk Tryz.func60 rfl trivial ?_
      refine sat_le (ih (j + 1) ⟨by omega, fun q hq => ?_⟩ (by omega)) hC hCl ⟨⟨_, rfl, .refl _⟩, ⟨_, rfl, .refl _⟩, ⟨_, rfl, .refl _⟩, ⟨_, rfl, .of (by rw [wrap_id (by omega) (by omega)]; rfl)⟩, trivial⟩ ⟨.refl _, trivial⟩ rfl rfl (Nat.le_refl _)
      rcases Nat.lt_or_ge q j with h | h
      · exact hall q h
      · obtain rfl : q = j := by omega
        exact g
  · obtain rfl : j = ws.length := by omega
    refine sat_retL tabOk Tryz.func60 rfl trivial hC hCl (.refl _) (o2 := [some (cI w)]) ⟨.refl _, trivial⟩ rfl rfl (Nat.le_refl _) ⟨-1, rfl, ?_, rfl⟩
    have : ws.any p = false := by
      rw [List.any_eq_false]
      intro a ha
      obtain ⟨q, hq, rfl⟩ := List.getElem_of_mem ha
      have := hall q hq
      rw [List.getD_eq_getElem?_getD, List.getElem?_eq_getElem hq] at this
      simpa using this
    rw [this]
    rfl
theorem conF_call (g : FuncId) (p : Int → Bool) (w : Int) (hp : ∀ a : Int, ACall Tryz.prog g [vI .i64 a, .ptr 0 0] [some (cI w)] (fun r o => r = vB (p a) ∧ o = [some (cI w)])) (ws : List Int) (ha : ws.length ≤ maxLen) :
    ACall Tryz.prog 43 [.d (eIs ws), .fn (.func g) [.ptr 0 0]] [some (cI w)] (fun r o => r = vB (ws.any p) ∧ o = [some (cI w)]) := by
  refine acall_enter Tryz.func43 rfl rfl (Nat.le_of_ble_eq_true rfl) fun C hC hCl hDs hGk => ?_
  refine sat_callG [0] tabOk Tryz.func43 rfl trivial (ixF_call g p w hp ws ha) ⟨⟨_, rfl, .refl _⟩, trivial⟩ (.refl _) rfl rfl rfl ⟨_, rfl⟩ ?_
  rintro r o ⟨k, rfl, hk, rfl⟩
  refine sat_retL tabOk Tryz.func43 rfl trivial hC hCl (.refl _) (o2 := [some (cI w)]) ⟨.refl _, trivial⟩ rfl rfl (Nat.le_refl _) ⟨?_, rfl⟩
  show vB (decide (k ≥ 0)) = _
  rw [hk]
def pLine (id n : Int) : Bool := decide (n < 1) || decide (n ≥ id)
def pOdd (least n : Int) : Bool := decide (n < least) || decide (n > 128)
theorem line_call (id n : Int) : ACall Tryz.prog 39 [vI .i64 n, .ptr 0 0] [some (cI id)] (fun r o => r = vB (pLine id n) ∧ o = [some (cI id)]) := by
  refine acall_enter Tryz.func39 rfl rfl (Nat.le_of_ble_eq_true rfl) fun C hC hCl hDs hGk => ?_
  unfold pLine
  refine sat_branch tabOk Tryz.func39 rfl trivial (fun h => ?_) (fun h => ?_)
  · have h : decide (n < 1) = true := h
    rw [h]
    exact sat_retL tabOk Tryz.func39 rfl trivial hC hCl (.refl _) (o2 := [some (cI id)]) ⟨.refl _, trivial⟩ rfl rfl (Nat.le_refl _) ⟨rfl, rfl⟩
  · have h : decide (n < 1) = false := h
    rw [h]
    exact sat_retL tabOk Tryz.func39 rfl trivial hC hCl (.refl _) (o2 := [some (cI id)]) ⟨.refl _, trivial⟩ rfl rfl (Nat.le_refl _) ⟨rfl, rfl⟩
theorem odd_call (id n : Int) : ACall Tryz.prog 42 [vI .i64 n, .ptr 0 0] [some (cI id)] (fun r o => r = vB (pOdd id n) ∧ o = [some (cI id)]) := by
  refine acall_enter Tryz.func42 rfl rfl (Nat.le_of_ble_eq_true rfl) fun C hC hCl hDs hGk => ?_
  unfold pOdd
  refine sat_branch tabOk Tryz.func42 rfl trivial (fun h => ?_) (fun h => ?_)
  · have h : decide (n < id) = true := h
    rw [h]
    exact sat_retL tabOk Tryz.func42 rfl trivial hC hCl (.refl _) (o2 := [some (cI id)]) ⟨.refl _, trivial⟩ rfl rfl (Nat.le_refl _) ⟨rfl, rfl⟩
  · have h : decide (n < id) = false := h
    rw [h]
    exact sat_retL tabOk Tryz.func42 rfl trivial hC hCl (.refl _) (o2 := [some (cI id)]) ⟨.refl _, trivial⟩ rfl rfl (Nat.le_refl _) ⟨rfl, rfl⟩
end Go.Proofs.YtjjlipbddlignaaGreatDoor
namespace Go.Proofs.YtjjlipbddlignaaGreatDoor
open Go Ab Go.RowKit
set_option maxRecDepth 100000
set_option linter.unusedVariables false
set_option linter.unusedSimpArgs false
set_option maxHeartbeats 4000000

structure NSt where
  so : Bool
  te : Bool
  li : Nat
  nu : Nat
  le : Nat
def stepN (x : Nd) (id : Int) (st : NSt) (c : UInt8) : NSt :=
  if c = 115 then { st with so := !pLine id x.s }
  else if c = 97 then { st with li := st.li + 1 }
  else if c = 110 then { st with nu := st.nu + 1 }
  else if c = 119 then { st with nu := 1, le := 1 }
  else if c = 98 then { st with te := bitsOk x.t }
  else if c = 109 then { st with te := decide (x.t = []) || nameOk x.t }
  else st
def foldN (x : Nd) (id : Int) (f : List UInt8) : NSt := f.foldl (stepN x id) ⟨decide (x.s = 0), decide (x.t = []), 0, 0, 0⟩
theorem foldN_bnd (x : Nd) (id : Int) (f : List UInt8) : (foldN x id f).li ≤ f.length ∧ (foldN x id f).nu ≤ f.length := by
  have h : ∀ (f : List UInt8) (st : NSt), (f.foldl (stepN x id) st).li ≤ st.li + f.length ∧ (f.foldl (stepN x id) st).nu ≤ st.nu + f.length := by
    intro f
    induction f with
    | nil => exact fun st => ⟨Nat.le_refl _, Nat.le_refl _⟩
    | cons c f ih =>
      intro st
      have h1 := ih (stepN x id st c)
      have h2 : (stepN x id st c).li ≤ st.li + 1 ∧ (stepN x id st c).nu ≤ st.nu + 1 := by
        unfold stepN
        repeat' split
        all_goals exact ⟨by first | omega | (simp only; omega), by first | omega | (simp only; omega)⟩
      rw [List.foldl_cons, List.length_cons]
      omega
  have := h f ⟨decide (x.s = 0), decide (x.t = []), 0, 0, 0⟩
  simpa [foldN] using this
/-- What the letters come to is what a right line is. -/
theorem foldN_B (x : Nd) (id : Int) : nodeB id x = ((formR x.op).2 && (foldN x id (frm x.op)).so && (foldN x id (frm x.op)).te && decide (x.a.length = (foldN x id (frm x.op)).li) && !(x.a.any (pLine id)) && decide (x.n.length = (foldN x id (frm x.op)).nu) && !(x.n.any (pOdd (foldN x id (frm x.op)).le))) := by
  have ha : x.a.all (fun n => decide (1 ≤ n ∧ n < id)) = !(x.a.any (pLine id)) := by
    rw [List.not_any_eq_all_not]
    congr 1
    funext n
    unfold pLine
    rw [Bool.eq_iff_iff]
    simp
  have hn : ∀ k : Nat, x.n.all (fun n => decide (((k : Nat) : Int) ≤ n ∧ n ≤ 128)) = !(x.n.any (pOdd (k : Int))) := by
    intro k
    rw [List.not_any_eq_all_not]
    congr 1
    funext n
    unfold pOdd
    rw [Bool.eq_iff_iff]
    simp
  have hs : decide (1 ≤ x.s ∧ x.s < id) = !pLine id x.s := by
    unfold pLine
    rw [Bool.eq_iff_iff]
    simp
  unfold nodeB sOk tOk aOk nOk
  rw [ha, hn, hs]
  rcases form_cases x.op with ⟨e1, e2⟩ | ⟨e1, e2⟩
  · rw [e1]
    simp
  · rw [e1]
    generalize frm x.op = f at *
    rcases e2 with rfl | rfl | rfl | rfl | rfl | rfl | rfl | rfl | rfl <;> simp [foldN, stepN, Bool.and_assoc]
theorem form_ascii (op : List UInt8) : ∀ c ∈ frm op, c.toNat < 128 := by
  rcases form_cases op with ⟨_, e⟩ | ⟨_, e⟩
  · rw [e]
    exact fun c hc => absurd hc List.not_mem_nil
  · rcases e with e | e | e | e | e | e | e | e | e <;> rw [e] <;> decide
theorem form_len (op : List UInt8) : (frm op).length ≤ 4 := by
  rcases form_cases op with ⟨_, e⟩ | ⟨_, e⟩
  · rw [e]
    decide
  · rcases e with e | e | e | e | e | e | e | e | e <;> rw [e] <;> decide
theorem decL_ascii {c : UInt8} {r : List UInt8} (h : c.toNat < 128) : decL (c :: r) = (c.toNat, 1) := by
  unfold decL Go.Lib.decodeN
  have e : bA (c :: r) 0 = c.toNat := rfl
  rw [e, if_pos h]
theorem isNode_call (x : Nd) (id : Int) (ht : x.t.length ≤ 1000000) (ha : x.a.length ≤ maxLen) (hn : x.n.length ≤ maxLen) : ACall Tryz.prog 26 [.d (eNd x), vI .i64 id] [] (fun r o => r = vB (nodeB id x)) := by
  refine acall_enter Tryz.func26 rfl rfl (Nat.le_of_ble_eq_true rfl) fun C hC hCl hDs hGk => ?_
  refine sat_call tabOk Tryz.func26 rfl trivial (pForm_call x.op) (.refl _) rfl ⟨_, rfl⟩ (by rintro r o rfl; rfl) ?_
  rintro _ o rfl
  refine sat_draw1S 9 6 7 (c := none) (a := .dead) (o2 := cI 0) tabOk Tryz.func26 rfl rfl trivial (by kernel_rfl) (by kernel_rfl) rfl rfl rfl (by kernel_rfl) (by rw [hCl, hC]; exact Nat.zero_le _) rfl rfl rfl rfl rfl rfl
        (fun _ => ds_done tabOk rfl trivial rfl)
        (by rfl) (by rfl) (by rfl) (by rfl) trivial ?_
  refine sat_steps 10 tabOk Tryz.func26 rfl trivial ?_
  refine sat_steps 5 tabOk Tryz.func26 rfl trivial ?_
  have hasc := form_ascii x.op
  have hfl := form_len x.op
  have hB := foldN_B x id
  unfold frm at hasc hfl hB
  generalize hfr : (formR x.op).1 = f at *
  refine sat_rangeS (s := ⟨f.toArray⟩) tabOk rfl rfl rfl rfl rfl rfl rfl ?_
  refine sat_stop tabOk Tryz.func26 rfl trivial ?_
  refine sat_while (α := Nat) (fun p => [(2, .ptr 0 0), (6, vB (formR x.op).2), (7, .fn (.func 39) [.ptr 1 0]), (8, .ptr 2 0), (9, vB (foldN x id (f.take p)).so), (10, vB (foldN x id (f.take p)).te), (11, vI .i64 ((foldN x id (f.take p)).li : Int)), (12, vI .i64 ((foldN x id (f.take p)).nu : Int)), (30, .ptr 3 0)])
    (fun p => [some (bNd x), some (cI id), some (cI ((foldN x id (f.take p)).le : Int)), some (.siter ⟨f.toArray⟩ p)]) (fun p => p ≤ f.length) (fun p => f.length - p) 0 (Nat.zero_le _) ?_ ?_
  · refine fun h => sat_le h hC hCl ⟨⟨_, rfl, .refl _⟩, ⟨_, rfl, .refl _⟩, ⟨_, rfl, .refl _⟩, ⟨_, rfl, .refl _⟩, ⟨_, rfl, .of ?_⟩, ⟨_, rfl, .of ?_⟩, ⟨_, rfl, .refl _⟩, ⟨_, rfl, .refl _⟩, ⟨_, rfl, .refl _⟩, trivial⟩ ⟨.refl _, .refl _, .refl _, .refl _, trivial⟩ rfl rfl (Nat.zero_le _)
    · show vB (x.s == 0) = vB (decide (x.s = 0))
      congr 2
    · show vB ((⟨x.t.toArray⟩ : ByteArray).toList == (⟨#[]⟩ : ByteArray).toList) = vB (decide (x.t = []))
      rw [eqE_list]
      cases x.t <;> rfl
  rintro p hp ih
  have hst : ∀ h : p < f.length, foldN x id (f.take (p + 1)) = stepN x id (foldN x id (f.take p)) f[p] := fun h => by
    unfold foldN
    rw [List.take_succ_eq_append_getElem h, List.foldl_append]
    rfl
  have hbn := foldN_bnd x id (f.take p)
  rw [List.length_take] at hbn
  by_cases hlt : p < f.length
  · have hst := hst hlt
    have hc : f[p].toNat < 128 := hasc _ (List.getElem_mem hlt)
    have hdec := decode_drop f p
    rw [List.drop_eq_getElem_cons hlt, decL_ascii hc] at hdec
    have ih := ih (p + 1) (by omega) (by omega)
    rw [hst] at ih
    generalize foldN x id (f.take p) = st at *
    generalize f[p] = c at *
    refine sat_steps 2 tabOk Tryz.func26 rfl trivial ?_
    refine sat_nextS (s := ⟨f.toArray⟩) (pos := p) rfl rfl rfl rfl rfl (by rw [sizeBy]; exact hlt) rfl ?_
    rw [hdec]
    have eqc : ∀ k : UInt8, ((c.toNat : Int) == (k.toNat : Int)) = decide (c = k) := fun k => by
      rw [Bool.eq_iff_iff, beq_iff_eq, decide_eq_true_eq]
      exact ⟨fun h => UInt8.toNat_inj.1 (by omega), fun h => by rw [h]⟩
    have eqk : ∀ k : UInt8, ((c.toNat : Int) == (k.toNat : Int)) = true → c = k := fun k h => by rw [eqc] at h; exact of_decide_eq_true h
    have nek : ∀ k : UInt8, ((c.toNat : Int) == (k.toNat : Int)) = false → c ≠ k := fun k h => by rw [eqc] at h; exact of_decide_eq_false h
    refine sat_branch tabOk Tryz.func26 rfl trivial (fun _ => ?_) (fun h => by cases h)
    refine sat_branch tabOk Tryz.func26 rfl trivial (fun h => ?_) (fun h => ?_)
    · obtain rfl : c = 115 := eqk 115 h
      refine sat_callG [1] tabOk Tryz.func26 rfl trivial (line_call id x.s) ⟨⟨_, rfl, .refl _⟩, trivial⟩ (.refl _) rfl rfl rfl ⟨_, rfl⟩ ?_
      rintro r o ⟨rfl, rfl⟩
      refine sat_stop tabOk Tryz.func26 rfl trivial ?_
      exact sat_le ih hC hCl ⟨⟨_, rfl, .refl _⟩, ⟨_, rfl, .refl _⟩, ⟨_, rfl, .refl _⟩, ⟨_, rfl, .refl _⟩, ⟨_, rfl, .refl _⟩, ⟨_, rfl, .refl _⟩, ⟨_, rfl, .refl _⟩, ⟨_, rfl, .refl _⟩, ⟨_, rfl, .refl _⟩, trivial⟩ ⟨.refl _, .refl _, .refl _, .refl _, trivial⟩ rfl rfl (Nat.zero_le _)
    have n115 : c ≠ 115 := nek 115 h
    refine sat_branch tabOk Tryz.func26 rfl trivial (fun h => ?_) (fun h => ?_)
    · obtain rfl : c = 97 := eqk 97 h
      refine sat_stop tabOk Tryz.func26 rfl trivial ?_
      exact sat_le ih hC hCl ⟨⟨_, rfl, .refl _⟩, ⟨_, rfl, .refl _⟩, ⟨_, rfl, .refl _⟩, ⟨_, rfl, .refl _⟩, ⟨_, rfl, .refl _⟩, ⟨_, rfl, .refl _⟩, ⟨_, rfl, .of (by rw [wrap_id (by omega) (by omega)]; rfl)⟩, ⟨_, rfl, .refl _⟩, ⟨_, rfl, .refl _⟩, trivial⟩ ⟨.refl _, .refl _, .refl _, .refl _, trivial⟩ rfl rfl (Nat.zero_le _)
    have n97 : c ≠ 97 := nek 97 h
    refine sat_branch tabOk Tryz.func26 rfl trivial (fun h => ?_) (fun h => ?_)
    · obtain rfl : c = 110 := eqk 110 h
      refine sat_stop tabOk Tryz.func26 rfl trivial ?_
      exact sat_le ih hC hCl ⟨⟨_, rfl, .refl _⟩, ⟨_, rfl, .refl _⟩, ⟨_, rfl, .refl _⟩, ⟨_, rfl, .refl _⟩, ⟨_, rfl, .refl _⟩, ⟨_, rfl, .refl _⟩, ⟨_, rfl, .refl _⟩, ⟨_, rfl, .of (by rw [wrap_id (by omega) (by omega)]; rfl)⟩, ⟨_, rfl, .refl _⟩, trivial⟩ ⟨.refl _, .refl _, .refl _, .refl _, trivial⟩ rfl rfl (Nat.zero_le _)
    have n110 : c ≠ 110 := nek 110 h
    refine sat_branch tabOk Tryz.func26 rfl trivial (fun h => ?_) (fun h => ?_)
    · obtain rfl : c = 119 := eqk 119 h
      refine sat_stop tabOk Tryz.func26 rfl trivial ?_
      exact sat_le ih hC hCl ⟨⟨_, rfl, .refl _⟩, ⟨_, rfl, .refl _⟩, ⟨_, rfl, .refl _⟩, ⟨_, rfl, .refl _⟩, ⟨_, rfl, .refl _⟩, ⟨_, rfl, .refl _⟩, ⟨_, rfl, .refl _⟩, ⟨_, rfl, .refl _⟩, ⟨_, rfl, .refl _⟩, trivial⟩ ⟨.refl _, .refl _, .refl _, .refl _, trivial⟩ rfl rfl (Nat.zero_le _)
    have n119 : c ≠ 119 := nek 119 h
    refine sat_branch tabOk Tryz.func26 rfl trivial (fun h => ?_) (fun h => ?_)
    · obtain rfl : c = 98 := eqk 98 h
      refine sat_call tabOk Tryz.func26 rfl trivial (isBits_call x.t (by omega)) (.refl _) rfl ⟨_, rfl⟩ (by rintro r o rfl; rfl) ?_
      rintro _ o rfl
      refine sat_stop tabOk Tryz.func26 rfl trivial ?_
      exact sat_le ih hC hCl ⟨⟨_, rfl, .refl _⟩, ⟨_, rfl, .refl _⟩, ⟨_, rfl, .refl _⟩, ⟨_, rfl, .refl _⟩, ⟨_, rfl, .refl _⟩, ⟨_, rfl, .refl _⟩, ⟨_, rfl, .refl _⟩, ⟨_, rfl, .refl _⟩, ⟨_, rfl, .refl _⟩, trivial⟩ ⟨.refl _, .refl _, .refl _, .refl _, trivial⟩ rfl rfl (Nat.zero_le _)
    have n98 : c ≠ 98 := nek 98 h
    refine sat_branch tabOk Tryz.func26 rfl trivial (fun h => ?_) (fun h => ?_)
    · obtain rfl : c = 109 := eqk 109 h
      refine sat_branch tabOk Tryz.func26 rfl trivial (fun h2 => ?_) (fun h2 => ?_)
      · have h2 : ((⟨x.t.toArray⟩ : ByteArray).toList == (⟨#[]⟩ : ByteArray).toList) = true := h2
        rw [eqE_list, List.isEmpty_iff] at h2
        refine sat_stop tabOk Tryz.func26 rfl trivial ?_
        have e : (stepN x id st 109).te = true := by
          show (decide (x.t = []) || nameOk x.t) = true
          rw [decide_eq_true h2]
          rfl
        rw [e] at ih
        exact sat_le ih hC hCl ⟨⟨_, rfl, .refl _⟩, ⟨_, rfl, .refl _⟩, ⟨_, rfl, .refl _⟩, ⟨_, rfl, .refl _⟩, ⟨_, rfl, .refl _⟩, ⟨_, rfl, .refl _⟩, ⟨_, rfl, .refl _⟩, ⟨_, rfl, .refl _⟩, ⟨_, rfl, .refl _⟩, trivial⟩ ⟨.refl _, .refl _, .refl _, .refl _, trivial⟩ rfl rfl (Nat.zero_le _)
      · have h2 : ((⟨x.t.toArray⟩ : ByteArray).toList == (⟨#[]⟩ : ByteArray).toList) = false := h2
        rw [eqE_list, ← Bool.not_eq_true, List.isEmpty_iff] at h2
        refine sat_call tabOk Tryz.func26 rfl trivial (IsName_call x.t ht) (.refl _) rfl ⟨_, rfl⟩ (by rintro r o rfl; rfl) ?_
        rintro _ o rfl
        refine sat_stop tabOk Tryz.func26 rfl trivial ?_
        have e : (stepN x id st 109).te = nameOk x.t := by
          show (decide (x.t = []) || nameOk x.t) = nameOk x.t
          rw [decide_eq_false h2]
          rfl
        rw [e] at ih
        exact sat_le ih hC hCl ⟨⟨_, rfl, .refl _⟩, ⟨_, rfl, .refl _⟩, ⟨_, rfl, .refl _⟩, ⟨_, rfl, .refl _⟩, ⟨_, rfl, .refl _⟩, ⟨_, rfl, .refl _⟩, ⟨_, rfl, .refl _⟩, ⟨_, rfl, .refl _⟩, ⟨_, rfl, .refl _⟩, trivial⟩ ⟨.refl _, .refl _, .refl _, .refl _, trivial⟩ rfl rfl (Nat.zero_le _)
    have n109 : c ≠ 109 := nek 109 h
    have e : stepN x id st c = st := by
      unfold stepN
      rw [if_neg n115, if_neg n97, if_neg n110, if_neg n119, if_neg n98, if_neg n109]
    rw [e] at ih
    refine sat_stop tabOk Tryz.func26 rfl trivial ?_
    exact sat_le ih hC hCl ⟨⟨_, rfl, .refl _⟩, ⟨_, rfl, .refl _⟩, ⟨_, rfl, .refl _⟩, ⟨_, rfl, .refl _⟩, ⟨_, rfl, .refl _⟩, ⟨_, rfl, .refl _⟩, ⟨_, rfl, .refl _⟩, ⟨_, rfl, .refl _⟩, ⟨_, rfl, .refl _⟩, trivial⟩ ⟨.refl _, .refl _, .refl _, .refl _, trivial⟩ rfl rfl (Nat.zero_le _)
  · obtain rfl : p = f.length := by omega
    rw [List.take_length] at hbn ⊢
    generalize foldN x id f = st at *
    refine sat_steps 2 tabOk Tryz.func26 rfl trivial ?_
    refine sat_nextE (s := ⟨f.toArray⟩) (pos := f.length) rfl rfl rfl rfl rfl (by rw [sizeBy]; exact hlt) rfl ?_
    refine sat_branch tabOk Tryz.func26 rfl trivial (fun h => by cases h) (fun _ => ?_)
    rw [hB]
    cases (formR x.op).2 with
    | false =>
      repeat refine sat_branch tabOk Tryz.func26 rfl trivial (fun h => by cases h) (fun _ => ?_)
      exact sat_ret tabOk Tryz.func26 rfl trivial rfl
    | true =>
    refine sat_branch tabOk Tryz.func26 rfl trivial (fun _ => ?_) (fun h => by cases h)
    obtain ⟨so, te, li, nu, le⟩ := st
    simp only at hbn ⊢
    cases so with
    | false =>
      repeat refine sat_branch tabOk Tryz.func26 rfl trivial (fun h => by cases h) (fun _ => ?_)
      exact sat_ret tabOk Tryz.func26 rfl trivial rfl
    | true =>
    refine sat_branch tabOk Tryz.func26 rfl trivial (fun _ => ?_) (fun h => by cases h)
    cases te with
    | false =>
      repeat refine sat_branch tabOk Tryz.func26 rfl trivial (fun h => by cases h) (fun _ => ?_)
      exact sat_ret tabOk Tryz.func26 rfl trivial rfl
    | true =>
    refine sat_branch tabOk Tryz.func26 rfl trivial (fun _ => ?_) (fun h => by cases h)
    have eqL : ∀ (l : List Int) (k : Nat), ((((l.map eI).length : Nat) : Int) == (k : Int)) = decide (l.length = k) := fun l k => by
      rw [List.length_map, Bool.eq_iff_iff, beq_iff_eq, decide_eq_true_eq]
      omega
    refine sat_branch tabOk Tryz.func26 rfl trivial (fun h => ?_) (fun h => ?_)
    rotate_left
    · have h : ((((x.a.map eI).length : Nat) : Int) == (li : Int)) = false := h
      rw [eqL] at h
      repeat refine sat_branch tabOk Tryz.func26 rfl trivial (fun h => by cases h) (fun _ => ?_)
      refine sat_ret tabOk Tryz.func26 rfl trivial ?_
      rw [h]
      rfl
    have h : ((((x.a.map eI).length : Nat) : Int) == (li : Int)) = true := h
    rw [eqL] at h
    rw [h]
    refine sat_callG [1] tabOk Tryz.func26 rfl trivial (conF_call 39 (pLine id) id (line_call id) x.a ha) ⟨⟨_, rfl, .refl _⟩, trivial⟩ (.refl _) rfl rfl rfl ⟨_, rfl⟩ ?_
    rintro r o ⟨rfl, rfl⟩
    cases x.a.any (pLine id) with
    | true =>
      repeat refine sat_branch tabOk Tryz.func26 rfl trivial (fun h => by cases h) (fun _ => ?_)
      exact sat_ret tabOk Tryz.func26 rfl trivial rfl
    | false =>
    refine sat_branch tabOk Tryz.func26 rfl trivial (fun _ => ?_) (fun h => by cases h)
    refine sat_branch tabOk Tryz.func26 rfl trivial (fun h => ?_) (fun h => ?_)
    rotate_left
    · have h : ((((x.n.map eI).length : Nat) : Int) == (nu : Int)) = false := h
      rw [eqL] at h
      repeat refine sat_branch tabOk Tryz.func26 rfl trivial (fun h => by cases h) (fun _ => ?_)
      refine sat_ret tabOk Tryz.func26 rfl trivial ?_
      rw [h]
      rfl
    have h : ((((x.n.map eI).length : Nat) : Int) == (nu : Int)) = true := h
    rw [eqL] at h
    rw [h]
    refine sat_callG [2] tabOk Tryz.func26 rfl trivial (conF_call 42 (pOdd (le : Int)) (le : Int) (odd_call (le : Int)) x.n hn) ⟨⟨_, rfl, .refl _⟩, trivial⟩ (.refl _) rfl rfl rfl ⟨_, rfl⟩ ?_
    rintro r o ⟨rfl, rfl⟩
    exact sat_ret tabOk Tryz.func26 rfl trivial rfl
end Go.Proofs.YtjjlipbddlignaaGreatDoor
namespace Go.Proofs.YtjjlipbddlignaaGreatDoor
open Go Ab Go.RowKit
set_option maxRecDepth 100000
set_option linter.unusedVariables false
set_option linter.unusedSimpArgs false
set_option maxHeartbeats 4000000

structure NdB (x : Nd) : Prop where
  op : x.op.length ≤ 1000000
  t : x.t.length ≤ 1000000
  a : x.a.length ≤ maxLen
  n : x.n.length ≤ maxLen
@[reducible] def nd (l : List Nd) (i : Nat) : Nd := l.getD i default
theorem nd_at {l : List Nd} {i : Nat} (h : i < l.length) : nd l i = l[i] := by simp [nd, List.getD_eq_getElem?_getD, h]
theorem nd_mem {l : List Nd} {i : Nat} (h : i < l.length) : nd l i ∈ l := by rw [nd_at h]; exact List.getElem_mem h
theorem rightFrom_iff : ∀ (l : List Nd) (i : Nat), rightFrom i l = true ↔ ∀ j (h : j < l.length), nodeB ((i : Int) + j + 1) l[j] = true
  | [], i => by simp [rightFrom]
  | x :: r, i => by
    rw [rightFrom, Bool.and_eq_true, rightFrom_iff r (i + 1)]
    constructor
    · rintro ⟨h1, h2⟩ j hj
      cases j with
      | zero => simpa using h1
      | succ j =>
        have := h2 j (by simpa using hj)
        rw [show ((i + 1 : Nat) : Int) + j + 1 = (i : Int) + ((j + 1 : Nat) : Int) + 1 by omega] at this
        exact this
    · intro h
      have h0 := h 0 (by simp)
      rw [show (i : Int) + ((0 : Nat) : Int) + 1 = (i : Int) + 1 by omega] at h0
      refine ⟨h0, fun j hj => ?_⟩
      have := h (j + 1) (by simpa using hj)
      rw [show ((i + 1 : Nat) : Int) + j + 1 = (i : Int) + ((j + 1 : Nat) : Int) + 1 by omega]
      exact this
theorem pRight_call (l : List Nd) (hl : l.length ≤ maxLen) (hm : ∀ x ∈ l, NdB x) : ACall Tryz.prog 14 [.d (eBt l)] [] (fun r o => r = vB (rightM l)) := by
  refine acall_enter Tryz.func14 rfl rfl (Nat.le_of_ble_eq_true rfl) fun C hC hCl hDs hGk => ?_
  have hml : maxLen = 9223372036854775807 := rfl
  refine sat_stop tabOk Tryz.func14 rfl trivial ?_
  refine sat_while (α := Nat) (fun i => [(1, .ptr 0 0), (6, .d (eNds l)), (7, vI .i64 (l.length : Int)), (8, vI .i64 (i : Int))]) (fun i => [some (bBt l)]) (fun i => i ≤ l.length ∧ ∀ j, j < i → nodeB ((j : Int) + 1) (nd l j) = true) (fun i => l.length - i) 0 ⟨Nat.zero_le _, fun j hj => absurd hj (Nat.not_lt_zero _)⟩ ?_ ?_
  · exact fun h => sat_le h hC hCl ⟨⟨_, rfl, .refl _⟩, ⟨_, rfl, .refl _⟩, ⟨_, rfl, .of (by rw [List.length_map])⟩, ⟨_, rfl, .refl _⟩, trivial⟩ ⟨.refl _, trivial⟩ rfl rfl (Nat.zero_le _)
  rintro i ⟨hi, hall⟩ ih
  refine sat_branch tabOk Tryz.func14 rfl trivial (fun hb => ?_) (fun hb => ?_) <;> simp only [decide_eq_true_eq, decide_eq_false_iff_not] at hb
  · have hlt : i < l.length := by omega
    have hx := hm _ (nd_mem hlt)
    refine sat_call tabOk Tryz.func14 rfl (by simp only [andP, and_true, true_and, Int.toNat_natCast, List.length_map, List.length_append, List.length_cons, List.length_nil, List.length_replicate]; omega) (isNode_call (nd l i) ((i : Int) + 1) hx.t hx.a hx.n) ⟨.refl _, .of (by rw [wrap_id (by omega) (by omega)]), trivial⟩ rfl ⟨_, rfl⟩ (by rintro r o rfl; rfl) ?_
    rintro _ o rfl
    cases hk : nodeB ((i : Int) + 1) (nd l i) with
    | false =>
      refine sat_branch tabOk Tryz.func14 rfl trivial (fun _ => ?_) (fun h => by cases h)
      refine sat_ret tabOk Tryz.func14 rfl trivial ?_
      have : rightM l = false := by
        unfold rightM
        rw [Bool.and_eq_false_iff]
        left
        rw [← Bool.not_eq_true, rightFrom_iff]
        intro h
        have h1 := h i hlt
        rw [← nd_at hlt, show ((0 : Nat) : Int) + (i : Int) + 1 = (i : Int) + 1 by omega, hk] at h1
        cases h1
      rw [this]
      rfl
    | true =>
      refine sat_branch tabOk Tryz.func14 rfl trivial (fun h => by cases h) (fun _ => ?_)
      refine sat_stop tabOk Tryz.func14 rfl trivial ?_
      refine sat_le (ih (i + 1) ⟨by omega, fun j hj => ?_⟩ (by omega)) hC hCl ⟨⟨_, rfl, .refl _⟩, ⟨_, rfl, .refl _⟩, ⟨_, rfl, .refl _⟩, ⟨_, rfl, .of (by rw [wrap_id (by omega) (by omega)]; rfl)⟩, trivial⟩ ⟨.refl _, trivial⟩ rfl rfl (Nat.zero_le _)
      rcases Nat.lt_succ_iff_lt_or_eq.1 hj with h | rfl
      · exact hall j h
      · exact hk
  · obtain rfl : i = l.length := by omega
    refine sat_ret tabOk Tryz.func14 rfl trivial ?_
    show vB (decide ((((l.map eNd).length : Nat) : Int) ≤ 5000)) = _
    rw [List.length_map]
    unfold rightM
    have : rightFrom 0 l = true := (rightFrom_iff l 0).2 fun j hj => by
      have := hall j hj
      rw [nd_at hj] at this
      rw [show ((0 : Nat) : Int) + (j : Int) + 1 = (j : Int) + 1 by omega]
      exact this
    rw [this, Bool.true_and]
    congr 2
    rw [eq_iff_iff]
    omega
end Go.Proofs.YtjjlipbddlignaaGreatDoor
namespace Go.Proofs.YtjjlipbddlignaaGreatDoor
open Go Ab Go.Lib
set_option maxRecDepth 100000
set_option linter.unusedVariables false
set_option linter.unusedSimpArgs false

/-! ### What a reader reads: where it stands, and what is wrong there -/
abbrev Rs := Int × Int
def failS (e : Int) (st : Rs) : Rs := if st.2 = 0 then (st.1, e) else st
def wordS (b s : List UInt8) (st : Rs) : Rs := if st.2 ≠ 0 then st else if isAt b st.1 s = true then (isTo b st.1 s, 0) else (st.1, 2)
def numS (b : List UInt8) (least most : Int) (st : Rs) : Int × Rs :=
  if st.2 ≠ 0 then (0, st) else if (numR b st.1 most).2.2 ≠ 0 then (0, (st.1, (numR b st.1 most).2.2)) else if (numR b st.1 most).1 < least then (0, (st.1, 2)) else ((numR b st.1 most).1, ((numR b st.1 most).2.1, 0))
def isLow (c : UInt8) : Bool := decide (97 ≤ c.toNat ∧ c.toNat ≤ 122)
def letsR (b : List UInt8) (i : Int) : List UInt8 := (b.drop i.toNat).takeWhile isLow
def opS (b : List UInt8) (st : Rs) : List UInt8 × List UInt8 × Rs :=
  if st.2 ≠ 0 then ([], [], st) else
    let s := letsR b st.1
    (s, frm s, wordS b s (if s = [] then failS 2 st else if (formR s).2 = false then failS 9 st else st))
def kArray : List UInt8 := [97, 114, 114, 97, 121]
def kBitvec : List UInt8 := [98, 105, 116, 118, 101, 99, 32]
def widthS (b : List UInt8) (st : Rs) : Int × Rs := numS b 1 128 (wordS b kBitvec (if st.2 = 0 ∧ letsR b st.1 = kArray then failS 9 st else st))
def onesR (b : List UInt8) (i most : Int) : List UInt8 × Int × Int :=
  if ¬ (0 ≤ i ∧ i ≤ b.length) then ([], 0, 2)
  else if runN isBit (b.drop i.toNat) = 0 then ([], i, 2)
  else if most < runN isBit (b.drop i.toNat) then ([], i, 3)
  else ((b.drop i.toNat).take (runN isBit (b.drop i.toNat)), i + runN isBit (b.drop i.toNat), 0)
def bitsS (b : List UInt8) (st : Rs) : List UInt8 × Rs := if st.2 ≠ 0 then ([], st) else if (onesR b st.1 128).2.2 ≠ 0 then ([], failS (onesR b st.1 128).2.2 st) else ((onesR b st.1 128).1, ((onesR b st.1 128).2.1, 0))
def lineR (b : List UInt8) (i : Int) : List UInt8 := (b.drop i.toNat).takeWhile (fun c => decide (c ≠ 10))
def nameR (b : List UInt8) (i : Int) : List UInt8 × Int × Int :=
  if ¬ (0 ≤ i ∧ i ≤ b.length) then ([], 0, 2) else if nameOk (lineR b i) = false then ([], i, 2) else (lineR b i, i + (lineR b i).length, 0)
def nameS (b : List UInt8) (st : Rs) : List UInt8 × Rs :=
  if st.2 ≠ 0 then ([], st) else if isAt b st.1 [32] = false then ([], st)
  else if (nameR b (isTo b st.1 [32])).2.2 ≠ 0 then ([], (isTo b st.1 [32], (nameR b (isTo b st.1 [32])).2.2)) else ((nameR b (isTo b st.1 [32])).1, ((nameR b (isTo b st.1 [32])).2.1, 0))
/-- A letter of a form. -/
def letS (b : List UInt8) (id : Int) (p : Nd × Rs) (c : UInt8) : Nd × Rs :=
  let st := if c = 109 then p.2 else wordS b [32] p.2
  if c = 115 then ({ p.1 with s := (numS b 1 (id - 1) st).1 }, (numS b 1 (id - 1) st).2)
  else if c = 97 then ({ p.1 with a := p.1.a ++ [(numS b 1 (id - 1) st).1] }, (numS b 1 (id - 1) st).2)
  else if c = 110 then ({ p.1 with n := p.1.n ++ [(numS b 0 128 st).1] }, (numS b 0 128 st).2)
  else if c = 119 then ({ p.1 with n := [(widthS b st).1] }, (widthS b st).2)
  else if c = 98 then ({ p.1 with t := (bitsS b st).1 }, (bitsS b st).2)
  else if c = 109 then ({ p.1 with t := (nameS b st).1 }, (nameS b st).2)
  else (p.1, st)
def nodeS (b : List UInt8) (id : Int) (st : Rs) : Nd × Rs :=
  let q := opS b (wordS b (tItoa id ++ [32]) st)
  let r := q.2.1.foldl (letS b id) (⟨q.1, 0, [], [], []⟩, q.2.2)
  (r.1, wordS b [10] r.2)
def parS (b : List UInt8) : Nat → List Nd → Rs → List Nd × Rs
  | 0, l, st => (l, (st.1, 2))
  | f + 1, l, st => if st.2 = 0 ∧ st.1 < b.length then (if l.length = 5000 then (l, (st.1, 3)) else parS b f (l ++ [(nodeS b ((l.length : Int) + 1) st).1]) (nodeS b ((l.length : Int) + 1) st).2) else (l, st)
def parM (b : List UInt8) : List Nd × Rs :=
  if 100000 < b.length then ([], (0, 3)) else if (parS b (b.length + 1) [] (0, 0)).2.2 ≠ 0 then ([], (parS b (b.length + 1) [] (0, 0)).2) else parS b (b.length + 1) [] (0, 0)

/-! ### Reading what stands there -/
/-- What stands behind a place. -/
def At (b : List UInt8) (p : Nat) (r : List UInt8) : Prop := p ≤ b.length ∧ b.drop p = r
theorem At.split {b r : List UInt8} {p : Nat} (h : At b p r) : b = b.take p ++ r ∧ (b.take p).length = p := by
  obtain ⟨h1, rfl⟩ := h
  exact ⟨(List.take_append_drop p b).symm, by rw [List.length_take]; omega⟩
theorem At.step {b s r : List UInt8} {p : Nat} (h : At b p (s ++ r)) : At b (p + s.length) r := by
  obtain ⟨h1, h2⟩ := h
  have := congrArg List.length h2
  rw [List.length_drop, List.length_append] at this
  refine ⟨by omega, ?_⟩
  rw [← List.drop_drop, h2, List.drop_left]
theorem At.len {b r : List UInt8} {p : Nat} (h : At b p r) : p + r.length = b.length := by
  obtain ⟨h1, rfl⟩ := h
  rw [List.length_drop]
  omega
theorem At.is {b s r : List UInt8} {p : Nat} (h : At b p (s ++ r)) : isAt b (p : Int) s = true ∧ isTo b (p : Int) s = ((p + s.length : Nat) : Int) := by
  obtain ⟨h1, h2⟩ := h.split
  have h3 := isAt_here (b.take p) s r
  have h4 := isTo_here (b.take p) s r
  rw [← h1, h2] at h3 h4
  exact ⟨h3, by rw [h4]; omega⟩
theorem wordS_at {b s r : List UInt8} {p : Nat} (h : At b p (s ++ r)) : wordS b s ((p : Int), 0) = (((p + s.length : Nat) : Int), 0) := by
  unfold wordS
  rw [if_neg (by simp), if_pos h.is.1, h.is.2]
theorem numR_at {b r : List UInt8} {p u : Nat} {most : Int} {c : UInt8} (h : At b p (decDigits u ++ c :: r)) (hc : isDig c = false) (hu : (u : Int) ≤ most) (hm : u ≤ 2147483647) : numR b (p : Int) most = ((u : Int), (((p + (decDigits u).length : Nat)) : Int), 0) := by
  obtain ⟨h1, h2⟩ := h.split
  have h3 := numR_pre (b.take p) (decDigits u ++ c :: r) 0 (Nat.zero_le _) most
  rw [show ((0 : Nat) : Int) = 0 from rfl, numR_dec hu hm hc r, Nat.add_zero, ← h1, h2] at h3
  rw [h3]
  simp
theorem numS_at {b r : List UInt8} {p u : Nat} {least most : Int} {c : UInt8} (h : At b p (decDigits u ++ c :: r)) (hc : isDig c = false) (hl : least ≤ u) (hu : (u : Int) ≤ most) (hm : u ≤ 2147483647) : numS b least most ((p : Int), 0) = ((u : Int), ((((p + (decDigits u).length : Nat)) : Int), 0)) := by
  unfold numS
  rw [numR_at h hc hu hm]
  simp only [ne_eq, not_true_eq_false, if_false]
  rw [if_neg (by omega)]
end Go.Proofs.YtjjlipbddlignaaGreatDoor
namespace Go.Proofs.YtjjlipbddlignaaGreatDoor
open Go Ab Go.RowKit
set_option maxRecDepth 100000
set_option linter.unusedVariables false
set_option linter.unusedSimpArgs false
set_option maxHeartbeats 4000000

theorem bit_call (c : UInt8) : ACall Tryz.prog 87 [.d (eU8 c)] [] (fun r o => r = vB (isBit c)) := by
  refine acall_enter Tryz.func87 rfl rfl (Nat.le_of_ble_eq_true rfl) fun C hC hCl hDs hGk => ?_
  have e48 : (48 : UInt8).toNat = 48 := rfl
  have e49 : (49 : UInt8).toNat = 49 := rfl
  refine sat_branch tabOk Tryz.func87 rfl trivial (fun h => ?_) (fun h => ?_)
  · have h : ((c.toNat : Int) == 48) = true := h
    rw [beq_iff_eq] at h
    have hc : c = 48 := UInt8.toNat_inj.1 (by omega)
    refine sat_ret tabOk Tryz.func87 rfl trivial ?_
    unfold isBit
    rw [decide_eq_true (.inl hc)]
    rfl
  · have h : ((c.toNat : Int) == 48) = false := h
    rw [beq_eq_false_iff_ne] at h
    refine sat_ret tabOk Tryz.func87 rfl trivial ?_
    show vB ((c.toNat : Int) == 49) = _
    unfold isBit
    congr 2
    rw [Bool.eq_iff_iff, beq_iff_eq, decide_eq_true_eq]
    constructor
    · intro e
      exact .inr (UInt8.toNat_inj.1 (by omega))
    · rintro (rfl | rfl)
      · exact absurd rfl h
      · rfl
@[reducible] def onesA (q : List UInt8 × Int × Int) : AV := tupOf [vTx q.1, vI .i64 q.2.1, vI .i64 q.2.2]
theorem Ones_call (b : List UInt8) (i most : Int) (hb : b.length ≤ 1000000) (hm : 0 ≤ most) : ACall Tryz.prog 66 [.d (eBy b), vI .i64 i, vI .i64 most] [] (fun r o => r = onesA (onesR b i most)) := by
  refine acall_enter Tryz.func66 rfl rfl (Nat.le_of_ble_eq_true rfl) fun C hC hCl hDs hGk => ?_
  refine sat_call tabOk Tryz.func66 rfl trivial (isPlace_call b i) (.refl _) rfl ⟨_, rfl⟩ (by rintro r o rfl; rfl) ?_
  rintro _ o rfl
  refine sat_branch tabOk Tryz.func66 rfl trivial (fun h => ?_) (fun h => ?_)
  · rw [Bool.not_eq_true', decide_eq_false_iff_not] at h
    refine sat_ret tabOk Tryz.func66 rfl trivial ?_
    rw [onesR, if_pos h]
  have h : 0 ≤ i ∧ i ≤ b.length := by
    rw [Bool.not_eq_false', decide_eq_true_eq] at h
    exact h
  obtain ⟨j, rfl⟩ : ∃ j : Nat, i = j := ⟨i.toNat, by omega⟩
  have hj : j ≤ b.length := by omega
  refine sat_call tabOk Tryz.func66 rfl trivial (run_call 87 isBit bit_call b j hj hb) (.refl _) rfl ⟨_, rfl⟩ (by rintro r o rfl; rfl) ?_
  rintro _ o rfl
  have hR : onesR b j most = if runN isBit (b.drop j) = 0 then ([], (j : Int), 2) else if most < runN isBit (b.drop j) then ([], (j : Int), 3) else ((b.drop j).take (runN isBit (b.drop j)), (j : Int) + runN isBit (b.drop j), 0) := by
    rw [onesR, if_neg (fun hh => hh h)]
    rfl
  rw [hR]
  have hkl := runN_le isBit (b.drop j)
  rw [List.length_drop] at hkl
  clear hR
  generalize runN isBit (b.drop j) = k at *
  refine sat_branch tabOk Tryz.func66 rfl trivial (fun h1 => ?_) (fun h1 => ?_)
  · have h1 : ((((j + k : Nat) : Int)) == (j : Int)) = true := h1
    rw [beq_iff_eq] at h1
    refine sat_ret tabOk Tryz.func66 rfl trivial ?_
    rw [if_pos (by omega)]
  have h1 : ((((j + k : Nat) : Int)) == (j : Int)) = false := h1
  rw [beq_eq_false_iff_ne] at h1
  rw [if_neg (show ¬ k = 0 by omega)]
  have hw : IntKind.i64.wrap (((j + k : Nat) : Int) - (j : Int)) = (k : Int) := by rw [wrap_id (by omega) (by omega)]; omega
  refine sat_branch tabOk Tryz.func66 rfl trivial (fun h2 => ?_) (fun h2 => ?_)
  · have h2 : decide (IntKind.i64.wrap (((j + k : Nat) : Int) - (j : Int)) > most) = true := h2
    rw [hw, decide_eq_true_eq] at h2
    refine sat_ret tabOk Tryz.func66 rfl trivial ?_
    rw [if_pos (by omega)]
  have h2 : decide (IntKind.i64.wrap (((j + k : Nat) : Int) - (j : Int)) > most) = false := h2
  rw [hw, decide_eq_false_iff_not] at h2
  rw [if_neg (show ¬ most < (k : Int) by omega)]
  have hsl : List.take (((j + k : Nat) : Int) - (j : Int)).toNat (List.drop (j : Int).toNat (b.map eU8)) = ((b.drop j).take k).map eU8 := by
    rw [show (((j + k : Nat) : Int) - (j : Int)).toNat = k by omega, Int.toNat_natCast, List.map_take, List.map_drop]
  refine sat_ret tabOk Tryz.func66 rfl ?nd ?kk
  case nd =>
    rw [hsl, List.length_map]
    exact ⟨isByte_by _, ⟨by omega, by omega, by omega⟩, trivial⟩
  case kk =>
    rw [hsl, strD_by, show ((j + k : Nat) : Int) = (j : Int) + k by omega]
end Go.Proofs.YtjjlipbddlignaaGreatDoor
namespace Go.Proofs.YtjjlipbddlignaaGreatDoor
open Go Ab Go.RowKit
set_option maxRecDepth 100000
set_option linter.unusedVariables false
set_option linter.unusedSimpArgs false
set_option maxHeartbeats 4000000

theorem Index1_call (s : List UInt8) (c : UInt8) : ACall Tryz.prog 108 [vTx s, vTx [c]] [] (fun r o => r = vI .i64 (Go.Lib.indexByte s c)) :=
  below_acallT (fun _ _ => Nat.le_refl _) rfl (vs := [.string ⟨s.toArray⟩, .string ⟨#[c]⟩]) (fun w ok π us h => by
    cases h with | cons h1 h => cases h with | cons h2 h => cases h with | nil =>
    cases h1 with | d h1 => cases h1 with | v _ => cases h2 with | d h2 => cases h2 with | v _ => rfl) (fun args w => callFunc_run Tryz.func108 rfl rfl args w) fun w ht => (Any.stringslite_Index_one Tryz.idxL ⟨s.toArray⟩ c w).mono fun e w' ⟨he, hw⟩ => ⟨he, hw ▸ ⟨rfl, rfl, rfl, Nat.le_refl _, fun b hb => rfl⟩⟩
/-- Where a byte first stands; what is ahead of it. -/
theorem indexByte_tw (c : UInt8) : ∀ s : List UInt8, Go.Lib.indexByte s c = if (s.takeWhile (fun x => decide (x ≠ c))).length < s.length then ((s.takeWhile (fun x => decide (x ≠ c))).length : Int) else -1
  | [] => rfl
  | b :: s => by
    have ih := indexByte_tw c s
    rw [Go.Lib.indexByte, List.takeWhile_cons]
    by_cases h : b = c
    · subst h
      simp
    · have h1 : (b == c) = false := by simpa using h
      rw [h1, ih, if_pos (show decide (b ≠ c) = true from decide_eq_true h), List.length_cons, List.length_cons]
      generalize (s.takeWhile (fun x => decide (x ≠ c))).length = m
      by_cases h2 : m < s.length
      · have h3 : ((m : Int) == -1) = false := by
          rw [beq_eq_false_iff_ne]
          omega
        rw [if_pos h2, if_pos (show m + 1 < s.length + 1 by omega), h3]
        simp only [Bool.false_eq_true, if_false]
        omega
      · rw [if_neg h2, if_neg (show ¬ m + 1 < s.length + 1 by omega)]
        rfl
theorem take_tw {α : Type} (p : α → Bool) : ∀ l : List α, l.take (l.takeWhile p).length = l.takeWhile p
  | [] => rfl
  | x :: r => by
    rw [List.takeWhile_cons]
    split
    · rw [List.length_cons, List.take_succ_cons, take_tw p r]
    · rfl
theorem iCut_call (s : List UInt8) (hs : s.length ≤ 1000000) : ACall Tryz.prog 102 [vTx s, vTx [10]] [] (fun r o => ∃ a f, r = tupOf [vTx (s.takeWhile (fun x => decide (x ≠ 10))), vTx a, vB f]) := by
  refine acall_enter Tryz.func102 rfl rfl (Nat.le_of_ble_eq_true rfl) fun C hC hCl hDs hGk => ?_
  have hi := indexByte_tw 10 s
  have htk := take_tw (fun x => decide (x ≠ (10 : UInt8))) s
  have hle := (List.takeWhile_sublist (fun x => decide (x ≠ (10 : UInt8))) (l := s)).length_le
  obtain ⟨k, hk⟩ : ∃ k, (s.takeWhile (fun x => decide (x ≠ (10 : UInt8)))).length = k := ⟨_, rfl⟩
  rw [hk] at hi htk hle
  refine sat_call tabOk Tryz.func102 rfl trivial (Index1_call s 10) (.refl _) rfl ⟨_, rfl⟩ (by rintro r o rfl; rfl) ?_
  rintro _ o rfl
  rw [hi]
  by_cases h : k < s.length
  · rw [if_pos h]
    refine sat_branch tabOk Tryz.func102 rfl trivial (fun h1 => ?_) (fun h1 => ?_)
    rotate_left
    · have h1 : decide ((k : Int) ≥ 0) = false := h1
      rw [decide_eq_false_iff_not] at h1
      omega
    refine sat_drawT 10 tabOk Tryz.func102 rfl rfl trivial (by kernel_rfl) ?_
    have hw : IntKind.i64.wrap ((k : Int) + 1) = (k : Int) + 1 := wrap_id (by omega) (by omega)
    have hnd : (0 ≤ IntKind.i64.wrap ((k : Int) + 1) ∧ IntKind.i64.wrap ((k : Int) + 1) ≤ (((⟨s.toArray⟩ : ByteArray).size : Nat) : Int) ∧ (((⟨s.toArray⟩ : ByteArray).size : Nat) : Int) ≤ (((⟨s.toArray⟩ : ByteArray).size : Nat) : Int)) ∧ (0 ≤ (0 : Int) ∧ 0 ≤ (k : Int) ∧ (k : Int) ≤ (((⟨s.toArray⟩ : ByteArray).size : Nat) : Int)) ∧ True := by
      rw [hw, sizeBy]
      exact ⟨⟨by omega, by omega, Int.le_refl _⟩, ⟨Int.le_refl _, by omega, by omega⟩, trivial⟩
    refine ds_done tabOk rfl hnd ?_
    refine sat_ret tabOk Tryz.func102 rfl trivial ⟨s.drop (k + 1), true, ?_⟩
    rw [← htk]
    show tupOf [vS ((⟨s.toArray⟩ : ByteArray).extract (Int.toNat 0) ((k : Int)).toNat), vS ((⟨s.toArray⟩ : ByteArray).extract (IntKind.i64.wrap ((k : Int) + 1)).toNat ((((⟨s.toArray⟩ : ByteArray).size : Nat) : Int)).toNat), vB true] = _
    rw [hw, sizeBy, exBy, exBy, show ((k : Int) + 1).toNat = k + 1 by omega, Int.toNat_natCast, Int.toNat_natCast, List.take_length]
    rfl
  · rw [if_neg h]
    refine sat_branch tabOk Tryz.func102 rfl trivial (fun h => by cases h) (fun _ => ?_)
    refine sat_ret tabOk Tryz.func102 rfl trivial ⟨[], false, ?_⟩
    have e : s.takeWhile (fun x => decide (x ≠ (10 : UInt8))) = s := by
      rw [← htk, List.take_of_length_le (by omega)]
    rw [e]
end Go.Proofs.YtjjlipbddlignaaGreatDoor
namespace Go.Proofs.YtjjlipbddlignaaGreatDoor
open Go Ab Go.RowKit
set_option maxRecDepth 100000
set_option linter.unusedVariables false
set_option linter.unusedSimpArgs false
set_option maxHeartbeats 4000000

theorem Cut_call (s : List UInt8) (hs : s.length ≤ 1000000) : ACall Tryz.prog 88 [vTx s, vTx [10]] [] (fun r o => ∃ a f, r = tupOf [vTx (s.takeWhile (fun x => decide (x ≠ 10))), vTx a, vB f]) := by
  refine acall_enter Tryz.func88 rfl rfl (Nat.le_of_ble_eq_true rfl) fun C hC hCl hDs hGk => ?_
  refine sat_call tabOk Tryz.func88 rfl trivial (iCut_call s hs) (.refl _) rfl ⟨_, rfl⟩ (by rintro r o ⟨a, f, rfl⟩; rfl) ?_
  rintro r o ⟨a, f, rfl⟩
  exact sat_ret tabOk Tryz.func88 rfl trivial ⟨a, f, rfl⟩
theorem Name_call (b : List UInt8) (i : Int) (hb : b.length ≤ 1000000) : ACall Tryz.prog 67 [.d (eBy b), vI .i64 i] [] (fun r o => r = onesA (nameR b i)) := by
  refine acall_enter Tryz.func67 rfl rfl (Nat.le_of_ble_eq_true rfl) fun C hC hCl hDs hGk => ?_
  refine sat_call tabOk Tryz.func67 rfl trivial (isPlace_call b i) (.refl _) rfl ⟨_, rfl⟩ (by rintro r o rfl; rfl) ?_
  rintro _ o rfl
  refine sat_branch tabOk Tryz.func67 rfl trivial (fun h => ?_) (fun h => ?_)
  · rw [Bool.not_eq_true', decide_eq_false_iff_not] at h
    refine sat_ret tabOk Tryz.func67 rfl trivial ?_
    rw [nameR, if_pos h]
  have h : 0 ≤ i ∧ i ≤ b.length := by
    rw [Bool.not_eq_false', decide_eq_true_eq] at h
    exact h
  have hdl : (b.drop i.toNat).length = b.length - i.toNat := List.length_drop
  refine sat_call tabOk Tryz.func67 rfl ?nd (Cut_call (b.drop i.toNat) (by omega)) ⟨.of ?a0, .refl _, trivial⟩ rfl ⟨_, rfl⟩ (by rintro r o ⟨a, f, rfl⟩; rfl) ?kk
  case nd =>
    rw [List.length_map, tail_by b _ _ (by omega)]
    exact ⟨isByte_by _, ⟨h.1, h.2, Int.le_refl _⟩, trivial⟩
  case a0 =>
    rw [List.length_map, tail_by b _ _ (by omega), strD_by]
  case kk =>
  rintro r o ⟨a, f, rfl⟩
  have hl : (b.drop i.toNat).takeWhile (fun x => decide (x ≠ 10)) = lineR b i := rfl
  rw [hl]
  have hll : (lineR b i).length ≤ (b.drop i.toNat).length := (List.takeWhile_sublist _).length_le
  have hR : nameR b i = if nameOk (lineR b i) = false then ([], i, 2) else (lineR b i, i + (lineR b i).length, 0) := by
    rw [nameR, if_neg (fun hh => hh h)]
  rw [hR]
  generalize lineR b i = l at *
  refine sat_call tabOk Tryz.func67 rfl trivial (IsName_call l (by omega)) (.refl _) rfl ⟨_, rfl⟩ (by rintro r o rfl; rfl) ?_
  rintro _ o rfl
  cases hk : nameOk l with
  | false =>
    refine sat_branch tabOk Tryz.func67 rfl trivial (fun _ => ?_) (fun h => by cases h)
    exact sat_ret tabOk Tryz.func67 rfl trivial rfl
  | true =>
    refine sat_branch tabOk Tryz.func67 rfl trivial (fun h => by cases h) (fun _ => ?_)
    refine sat_ret tabOk Tryz.func67 rfl trivial ?_
    show tupOf [vTx l, vI .i64 (IntKind.i64.wrap (i + (((⟨l.toArray⟩ : ByteArray).size : Nat) : Int))), vI .i64 0] = _
    rw [sizeBy, wrap_id (by omega) (by omega)]
    rfl
end Go.Proofs.YtjjlipbddlignaaGreatDoor
namespace Go.Proofs.YtjjlipbddlignaaGreatDoor
open Go Ab Go.Lib
set_option maxRecDepth 100000
set_option linter.unusedVariables false
set_option linter.unusedSimpArgs false

/-! ### A line is read -/
theorem numT_nat (u : Nat) : numT (u : Int) = 32 :: decDigits u := by
  unfold numT
  rw [show tItoa (u : Int) = decDigits u from itoa_nonneg u]
theorem num_at {b r : List UInt8} {p : Nat} {s least most : Int} {d : UInt8} (h : At b p (numT s ++ d :: r)) (hd : isDig d = false) (h0 : 0 ≤ s) (hl : least ≤ s) (hu : s ≤ most) (hm : s ≤ 2147483647) :
    numS b least most (wordS b [32] ((p : Int), 0)) = (s, (((p + (numT s).length : Nat) : Int), 0)) := by
  obtain ⟨u, rfl⟩ : ∃ u : Nat, s = (u : Int) := ⟨s.toNat, by omega⟩
  rw [numT_nat] at h ⊢
  have h1 : At b p ([32] ++ (decDigits u ++ d :: r)) := h
  rw [wordS_at h1, numS_at h1.step hd hl hu (by omega)]
  simp only [List.length_cons, List.length_nil]
  congr 3
  omega
theorem At.assoc {b s t r : List UInt8} {p : Nat} (h : At b p (s ++ t ++ r)) : At b p (s ++ (t ++ r)) := by rwa [List.append_assoc] at h
theorem let_s {b r : List UInt8} {p : Nat} {s id : Int} {d : UInt8} (x : Nd) (h : At b p (numT s ++ d :: r)) (hd : isDig d = false) (h0 : 1 ≤ s) (h1 : s < id) (hm : s ≤ 2147483647) : letS b id (x, ((p : Int), 0)) 115 = ({ x with s := s }, (((p + (numT s).length : Nat) : Int), 0)) := by
  have e := num_at (least := 1) (most := id - 1) h hd (by omega) h0 (by omega) hm
  show (({ x with s := (numS b 1 (id - 1) (wordS b [32] ((p : Int), 0))).1 } : Nd), (numS b 1 (id - 1) (wordS b [32] ((p : Int), 0))).2) = _
  rw [e]
theorem let_a {b r : List UInt8} {p : Nat} {s id : Int} {d : UInt8} (x : Nd) (h : At b p (numT s ++ d :: r)) (hd : isDig d = false) (h0 : 1 ≤ s) (h1 : s < id) (hm : s ≤ 2147483647) : letS b id (x, ((p : Int), 0)) 97 = ({ x with a := x.a ++ [s] }, (((p + (numT s).length : Nat) : Int), 0)) := by
  have e := num_at (least := 1) (most := id - 1) h hd (by omega) h0 (by omega) hm
  show (({ x with a := x.a ++ [(numS b 1 (id - 1) (wordS b [32] ((p : Int), 0))).1] } : Nd), (numS b 1 (id - 1) (wordS b [32] ((p : Int), 0))).2) = _
  rw [e]
theorem let_n {b r : List UInt8} {p : Nat} {s id : Int} {d : UInt8} (x : Nd) (h : At b p (numT s ++ d :: r)) (hd : isDig d = false) (h0 : 0 ≤ s) (h1 : s ≤ 128) : letS b id (x, ((p : Int), 0)) 110 = ({ x with n := x.n ++ [s] }, (((p + (numT s).length : Nat) : Int), 0)) := by
  have e := num_at (least := 0) (most := 128) h hd h0 h0 h1 (by omega)
  show (({ x with n := x.n ++ [(numS b 0 128 (wordS b [32] ((p : Int), 0))).1] } : Nd), (numS b 0 128 (wordS b [32] ((p : Int), 0))).2) = _
  rw [e]
theorem lets_at {b s r : List UInt8} {p : Nat} {d : UInt8} (h : At b p (s ++ d :: r)) (hs : ∀ c ∈ s, isLow c = true) (hd : isLow d = false) : letsR b (p : Int) = s := by
  unfold letsR
  rw [Int.toNat_natCast, h.2, List.takeWhile_append_of_pos hs, List.takeWhile_cons, hd]
  simp
theorem let_w {b r : List UInt8} {p : Nat} {s id : Int} {d : UInt8} (x : Nd) (h : At b p (sBitvec ++ numT s ++ d :: r)) (hd : isDig d = false) (h0 : 1 ≤ s) (h1 : s ≤ 128) : letS b id (x, ((p : Int), 0)) 119 = ({ x with n := [s] }, (((p + (sBitvec ++ numT s).length : Nat) : Int), 0)) := by
  obtain ⟨u, rfl⟩ : ∃ u : Nat, s = (u : Int) := ⟨s.toNat, by omega⟩
  rw [numT_nat] at h ⊢
  have h2 : At b p ([32] ++ ([98, 105, 116, 118, 101, 99] ++ 32 :: (decDigits u ++ d :: r))) := h.assoc
  have h3 := h2.step
  have h4 : At b (p + 1) (kBitvec ++ (decDigits u ++ d :: r)) := h3
  have hl := lets_at h3 (by decide) (by decide)
  have e : widthS b (wordS b [32] ((p : Int), 0)) = ((u : Int), (((p + (sBitvec ++ 32 :: decDigits u).length : Nat) : Int), 0)) := by
    rw [wordS_at h2]
    unfold widthS
    have e0 : ((p + [(32 : UInt8)].length : Nat) : Int) = ((p + 1 : Nat) : Int) := rfl
    rw [if_neg (fun hh => by
      have := hh.2
      rw [hl] at this
      cases this), e0, wordS_at h4, numS_at h4.step hd h0 h1 (by omega)]
    simp only [List.length_append, List.length_cons, List.length_nil]
    congr 3
    show p + 1 + 7 + _ = p + (7 + _)
    omega
  show (({ x with n := [(widthS b (wordS b [32] ((p : Int), 0))).1] } : Nd), (widthS b (wordS b [32] ((p : Int), 0))).2) = _
  rw [e]
theorem run01 : ∀ {t : List UInt8}, (∀ c ∈ t, isBit c = true) → ∀ {d : UInt8} {r : List UInt8}, isBit d = false → runN isBit (t ++ d :: r) = t.length
  | [], _, d, r, hd => by
    rw [List.nil_append, runN_cons, if_neg (fun hh => by rw [hd] at hh; cases hh.2)]
    rfl
  | c :: t, h, d, r, hd => by
    have h1 := h c List.mem_cons_self
    have h2 : c.toNat < 128 := by
      unfold isBit at h1
      rw [decide_eq_true_eq] at h1
      rcases h1 with rfl | rfl <;> decide
    rw [List.cons_append, runN_cons, if_pos ⟨h2, h1⟩, run01 (fun x hx => h x (List.mem_cons_of_mem _ hx)) hd, List.length_cons]
theorem let_b {b r t : List UInt8} {p : Nat} {id : Int} {d : UInt8} (x : Nd) (h : At b p (32 :: t ++ d :: r)) (ht : bitsOk t = true) (hd : isBit d = false) : letS b id (x, ((p : Int), 0)) 98 = ({ x with t := t }, (((p + (32 :: t).length : Nat) : Int), 0)) := by
  unfold bitsOk at ht
  rw [Bool.and_eq_true, decide_eq_true_eq, List.all_eq_true] at ht
  have h2 : At b p ([32] ++ (t ++ d :: r)) := h
  have h3 : At b (p + 1) (t ++ d :: r) := h2.step
  have hr := run01 ht.2 (r := r) hd
  have e : onesR b (((p + 1 : Nat) : Int)) 128 = (t, ((p + 1 + t.length : Nat) : Int), 0) := by
    have hl := h3.len
    unfold onesR
    rw [if_neg (not_not_intro ⟨by omega, by omega⟩), Int.toNat_natCast, h3.2, hr, if_neg (by omega), if_neg (by omega), List.take_left]
    simp
  have e2 : bitsS b (wordS b [32] ((p : Int), 0)) = (t, (((p + (32 :: t).length : Nat) : Int), 0)) := by
    rw [wordS_at h2]
    have e0 : ((p + [(32 : UInt8)].length : Nat) : Int) = ((p + 1 : Nat) : Int) := rfl
    unfold bitsS
    simp only [e0, e]
    rw [if_neg (by simp), if_neg (by simp), List.length_cons]
    congr 3
    omega
  show (({ x with t := (bitsS b (wordS b [32] ((p : Int), 0))).1 } : Nd), (bitsS b (wordS b [32] ((p : Int), 0))).2) = _
  rw [e2]
theorem let_m {b r t : List UInt8} {p : Nat} {id : Int} (x : Nd) (h : At b p ((if t = [] then [] else 32 :: t) ++ 10 :: r)) (ht : t = [] ∨ nameOk t = true) : letS b id (x, ((p : Int), 0)) 109 = ({ x with t := t }, (((p + (if t = [] then [] else 32 :: t).length : Nat) : Int), 0)) := by
  show (({ x with t := (nameS b ((p : Int), 0)).1 } : Nd), (nameS b ((p : Int), 0)).2) = _
  by_cases ht0 : t = []
  · rw [if_pos ht0] at h ⊢
    have h1 : isAt b (p : Int) [32] = false := by
      unfold isAt
      rw [Int.toNat_natCast, h.2, show ([32] : List UInt8).isPrefixOf ([] ++ 10 :: r) = false from rfl, Bool.and_false]
    unfold nameS
    rw [if_neg (by simp), if_pos h1, ht0]
    rfl
  · rw [if_neg ht0] at h ⊢
    have hk := ht.resolve_left ht0
    have h2 : At b p ([32] ++ (t ++ 10 :: r)) := h
    have h3 : At b (p + 1) (t ++ 10 :: r) := h2.step
    have hn := nameOk_no10 hk
    have hl : lineR b ((p + 1 : Nat) : Int) = t := by
      unfold lineR
      rw [Int.toNat_natCast, h3.2, List.takeWhile_append_of_pos (fun c hc => decide_eq_true (hn c hc)), List.takeWhile_cons]
      simp
    have e : nameR b (((p + 1 : Nat) : Int)) = (t, ((p + 1 + t.length : Nat) : Int), 0) := by
      have hlen := h3.len
      unfold nameR
      rw [if_neg (not_not_intro ⟨by omega, by omega⟩), hl, if_neg (by rw [hk]; simp)]
      simp
    obtain ⟨i1, i2⟩ := h2.is
    have e0 : ((p + [(32 : UInt8)].length : Nat) : Int) = ((p + 1 : Nat) : Int) := rfl
    rw [e0] at i2
    unfold nameS
    simp only [i1, i2, e]
    rw [if_neg (by simp), if_neg (by simp), if_neg (by simp), List.length_cons]
    rw [show p + 1 + t.length = p + (t.length + 1) by omega]
end Go.Proofs.YtjjlipbddlignaaGreatDoor
namespace Go.Proofs.YtjjlipbddlignaaGreatDoor
open Go Ab Go.Lib
set_option maxRecDepth 100000
set_option linter.unusedVariables false
set_option linter.unusedSimpArgs false

theorem op_low (op : List UInt8) : (formR op).2 = true → op ≠ [] ∧ ∀ c ∈ op, isLow c = true := by
  unfold formR
  iterate 34 (refine iteInduction (motive := fun q : List UInt8 × Bool => q.2 = true → op ≠ [] ∧ ∀ c ∈ op, isLow c = true) (fun e _ => by subst e; decide) (fun _ => ?_))
  intro h
  cases h
theorem head32 (x : Nd) {f : List UInt8} {a n : List Int} (r : List UInt8) : (∃ s, fT x f a n ++ 10 :: r = 32 :: s) ∨ fT x f a n ++ 10 :: r = 10 :: r := by
  induction f generalizing a n with
  | nil => exact .inr rfl
  | cons c f ih =>
    unfold fT
    split
    · exact .inl ⟨_, rfl⟩
    split
    · exact .inl ⟨_, rfl⟩
    split
    · exact .inl ⟨_, rfl⟩
    split
    · exact .inl ⟨_, rfl⟩
    split
    · exact .inl ⟨_, rfl⟩
    split
    · exact ih
    · exact .inl ⟨_, rfl⟩
/-- A line's form, read from behind its op. -/
theorem form_read {b r : List UInt8} {p : Nat} {id : Int} {x : Nd} (hid : id ≤ 100000) (hx : nodeB id x = true) (h : At b p (fT x (frm x.op) x.a x.n ++ 10 :: r)) :
    (frm x.op).foldl (letS b id) (⟨x.op, 0, [], [], []⟩, ((p : Int), 0)) = (x, (((p + (fT x (frm x.op) x.a x.n).length : Nat) : Int), 0)) := by
  unfold nodeB at hx
  simp only [Bool.and_eq_true] at hx
  obtain ⟨⟨⟨⟨h1, h2⟩, h3⟩, h4⟩, h5⟩ := hx
  rcases form_cases x.op with ⟨e, _⟩ | ⟨_, e⟩
  · rw [e] at h1
    cases h1
  unfold sOk at h2
  unfold tOk at h3
  unfold aOk at h4
  unfold nOk at h5
  generalize frm x.op = f at *
  simp only [Bool.and_eq_true, decide_eq_true_eq, List.all_eq_true] at h4 h5
  obtain ⟨h4, h6⟩ := h4
  obtain ⟨h5, h7⟩ := h5
  obtain ⟨op, s, a, n, t⟩ := x
  simp only at *
  rcases e with rfl | rfl | rfl | rfl | rfl | rfl | rfl | rfl | rfl
  all_goals simp only [List.count_cons, List.count_nil] at h4 h5 h7
  all_goals simp at h2 h3 h4 h5 h7
  · obtain ⟨u, rfl⟩ := len1 h5
    subst h2 h3 h4
    have hb := h7 u List.mem_cons_self
    rw [List.foldl_cons, List.foldl_nil]
    rw [let_w (s := u) (d := 10) (r := r) _ (by simpa [fT] using h) rfl hb.1 hb.2]
    simp [fT]
  · subst h4 h5
    have h8 : At b p (numT s ++ 32 :: (t ++ 10 :: r)) := by simpa [fT] using h
    have h9 : At b (p + (numT s).length) (32 :: t ++ 10 :: r) := h8.step
    rw [List.foldl_cons, List.foldl_cons, List.foldl_nil, let_s _ h8 rfl h2.1 h2.2 (by omega), let_b _ h9 h3 rfl]
    simp [fT, Nat.add_assoc]
  · subst h4 h5
    have h8 : At b p (numT s ++ ((if t = [] then [] else 32 :: t) ++ 10 :: r)) := by simpa [fT] using h
    have h9 := h8.step
    have h10 : ∃ d q, ((if t = [] then [] else 32 :: t) ++ 10 :: r) = d :: q ∧ isDig d = false := by
      split
      · exact ⟨_, _, rfl, rfl⟩
      · exact ⟨_, _, rfl, rfl⟩
    obtain ⟨d, q, e1, e2⟩ := h10
    rw [e1] at h8
    rw [List.foldl_cons, List.foldl_cons, List.foldl_nil, let_s _ h8 e2 h2.1 h2.2 (by omega), let_m _ h9 h3]
    simp [fT, Nat.add_assoc]
  · obtain ⟨u, rfl⟩ := len1 h4
    subst h2 h3 h5
    have hb := h6 u List.mem_cons_self
    have h8 : At b p (numT u ++ 10 :: r) := by simpa [fT] using h
    rw [List.foldl_cons, List.foldl_nil, let_a _ h8 rfl hb.1 hb.2 (by omega)]
    simp [fT]
  · obtain ⟨u, rfl⟩ := len1 h4
    subst h3 h5
    have hb := h6 u List.mem_cons_self
    have h8 : At b p (numT s ++ (numT u ++ 10 :: r)) := by simpa [fT] using h
    have h9 := h8.step
    rw [List.foldl_cons, List.foldl_cons, List.foldl_nil, let_s _ h8 rfl h2.1 h2.2 (by omega), let_a _ h9 rfl hb.1 hb.2 (by omega)]
    simp [fT, Nat.add_assoc]
  · obtain ⟨u, v, rfl⟩ := len2 h4
    subst h3 h5
    have hb := h6 u (by simp)
    have hc := h6 v (by simp)
    have h8 : At b p (numT s ++ (numT u ++ (numT v ++ 10 :: r))) := by simpa [fT] using h
    have h9 := h8.step
    have h10 := h9.step
    rw [List.foldl_cons, List.foldl_cons, List.foldl_cons, List.foldl_nil, let_s _ h8 rfl h2.1 h2.2 (by omega), let_a _ h9 rfl hb.1 hb.2 (by omega), let_a _ h10 rfl hc.1 hc.2 (by omega)]
    simp [fT, Nat.add_assoc]
  · obtain ⟨u, v, w, rfl⟩ := len3 h4
    subst h3 h5
    have hb := h6 u (by simp)
    have hc := h6 v (by simp)
    have hd := h6 w (by simp)
    have h8 : At b p (numT s ++ (numT u ++ (numT v ++ (numT w ++ 10 :: r)))) := by simpa [fT] using h
    have h9 := h8.step
    have h10 := h9.step
    have h11 := h10.step
    rw [List.foldl_cons, List.foldl_cons, List.foldl_cons, List.foldl_cons, List.foldl_nil, let_s _ h8 rfl h2.1 h2.2 (by omega), let_a _ h9 rfl hb.1 hb.2 (by omega), let_a _ h10 rfl hc.1 hc.2 (by omega), let_a _ h11 rfl hd.1 hd.2 (by omega)]
    simp [fT, Nat.add_assoc]
  · obtain ⟨u, rfl⟩ := len1 h4
    obtain ⟨v, w, rfl⟩ := len2 h5
    subst h3
    have hb := h6 u (by simp)
    have hc := h7 v (by simp)
    have hd := h7 w (by simp)
    have h8 : At b p (numT s ++ (numT u ++ (numT v ++ (numT w ++ 10 :: r)))) := by simpa [fT] using h
    have h9 := h8.step
    have h10 := h9.step
    have h11 := h10.step
    rw [List.foldl_cons, List.foldl_cons, List.foldl_cons, List.foldl_cons, List.foldl_nil, let_s _ h8 rfl h2.1 h2.2 (by omega), let_a _ h9 rfl hb.1 hb.2 (by omega), let_n _ h10 rfl hc.1 hc.2, let_n _ h11 rfl hd.1 hd.2]
    simp [fT, Nat.add_assoc]
  · obtain ⟨u, rfl⟩ := len1 h4
    obtain ⟨v, rfl⟩ := len1 h5
    subst h3
    have hb := h6 u (by simp)
    have hc := h7 v (by simp)
    have h8 : At b p (numT s ++ (numT u ++ (numT v ++ 10 :: r))) := by simpa [fT] using h
    have h9 := h8.step
    have h10 := h9.step
    rw [List.foldl_cons, List.foldl_cons, List.foldl_cons, List.foldl_nil, let_s _ h8 rfl h2.1 h2.2 (by omega), let_a _ h9 rfl hb.1 hb.2 (by omega), let_n _ h10 rfl hc.1 hc.2]
    simp [fT, Nat.add_assoc]
/-- A line, read. -/
theorem node_read {b r : List UInt8} {p : Nat} {id : Int} {x : Nd} (h0 : 0 ≤ id) (hid : id ≤ 100000) (hx : nodeB id x = true) (h : At b p (nodeT id x ++ r)) :
    nodeS b id ((p : Int), 0) = (x, (((p + (nodeT id x).length : Nat) : Int), 0)) := by
  have hf : (formR x.op).2 = true := by
    unfold nodeB at hx
    simp only [Bool.and_eq_true] at hx
    exact hx.1.1.1.1
  obtain ⟨hne, hlow⟩ := op_low x.op hf
  rw [nodeT_form hx] at h ⊢
  have h1 : At b p ((tItoa id ++ [32]) ++ (x.op ++ (fT x (frm x.op) x.a x.n ++ 10 :: r))) := by simpa using h
  have h2 := h1.step
  have h3 := h2.step
  have h4 := h3.step
  have hl : letsR b ((p + (tItoa id ++ [32]).length : Nat) : Int) = x.op := by
    rcases head32 x (f := frm x.op) (a := x.a) (n := x.n) r with ⟨s, e⟩ | e
    · rw [e] at h2
      exact lets_at h2 hlow rfl
    · rw [e] at h2
      exact lets_at h2 hlow rfl
  have ho : opS b (((p + (tItoa id ++ [32]).length : Nat) : Int), 0) = (x.op, frm x.op, (((p + (tItoa id ++ [32]).length + x.op.length : Nat) : Int), 0)) := by
    unfold opS
    simp only [hl]
    rw [if_neg (by simp), if_neg hne, if_neg (by rw [hf]; simp), wordS_at h2]
  have h5 : At b (p + (tItoa id ++ [32]).length + x.op.length + (fT x (frm x.op) x.a x.n).length) ([10] ++ r) := h4
  unfold nodeS
  simp only [wordS_at h1, ho, form_read hid hx h3, wordS_at h5]
  simp only [List.length_append, List.length_cons, List.length_nil]
  congr 3
  omega
end Go.Proofs.YtjjlipbddlignaaGreatDoor
namespace Go.Proofs.YtjjlipbddlignaaGreatDoor
open Go Ab Go.Lib
set_option maxRecDepth 100000
set_option linter.unusedVariables false
set_option linter.unusedSimpArgs false

theorem nodeT_ne (id : Int) (x : Nd) : nodeT id x ≠ [] := by
  unfold nodeT
  simp
theorem text_read (b : List UInt8) : ∀ (l out : List Nd) (p f : Nat), rightFrom out.length l = true → out.length + l.length ≤ 5000 → l.length < f → At b p (textFrom out.length l) → parS b f out ((p : Int), 0) = (out ++ l, ((b.length : Int), 0))
  | [], out, p, 0, _, _, h, _ => absurd h (by simp)
  | [], out, p, f + 1, _, _, _, h => by
    have hl := h.len
    rw [textFrom, List.length_nil] at hl
    rw [parS, if_neg (fun hh => by
      have := hh.2
      omega), List.append_nil]
    rw [show p = b.length by omega]
  | x :: l, out, p, 0, _, _, h, _ => absurd h (by simp)
  | x :: l, out, p, f + 1, hr, hn, hf, h => by
    rw [rightFrom, Bool.and_eq_true] at hr
    rw [textFrom] at h
    rw [List.length_cons] at hn hf
    have hl := h.len
    have h1 := List.length_pos_iff.2 (nodeT_ne ((out.length : Int) + 1) x)
    rw [List.length_append] at hl
    have hrd := node_read (b := b) (p := p) (by omega) (by omega) hr.1 h
    have h2 := h.step
    have ho : (out ++ [x]).length = out.length + 1 := by simp
    rw [parS, if_pos ⟨rfl, by omega⟩, if_neg (by omega), hrd]
    have ih := text_read b l (out ++ [x]) (p + (nodeT ((out.length : Int) + 1) x).length) f (by rw [ho]; exact hr.2) (by rw [ho]; omega) (by omega) (by rw [ho]; exact h2)
    rw [ih, List.append_assoc]
    rfl
theorem text_len : ∀ (l : List Nd) (i : Nat), l.length ≤ (textFrom i l).length
  | [], _ => Nat.le_refl _
  | x :: l, i => by
    have h1 := List.length_pos_iff.2 (nodeT_ne ((i : Int) + 1) x)
    have := text_len l (i + 1)
    rw [textFrom, List.length_append, List.length_cons]
    omega
/-- What is printed is parsed. -/
theorem par_read {l : List Nd} (h : rightM l = true) (hl : (textM l).length ≤ 100000) : parM (textM l) = (l, ((textM l).length : Int), 0) := by
  unfold rightM at h
  rw [Bool.and_eq_true, decide_eq_true_eq] at h
  have hn := text_len l 0
  have e := text_read (textM l) l [] 0 ((textM l).length + 1) h.1 (by simpa using h.2) (by unfold textM; omega) ⟨Nat.zero_le _, rfl⟩
  have e' : parS (textM l) ((textM l).length + 1) [] (0, 0) = (l, (((textM l).length : Int), 0)) := e
  unfold parM
  rw [if_neg (by omega), e']
  rfl
/-! ### Places -/
def Pl (b : List UInt8) (st : Rs) : Prop := 0 ≤ st.1 ∧ st.1 ≤ b.length ∧ (st.2 = 0 ∨ st.2 = 2 ∨ st.2 = 3 ∨ st.2 = 9)
theorem wordS_pl {b s : List UInt8} {st : Rs} (h : Pl b st) : Pl b (wordS b s st) := by
  unfold wordS
  split
  · exact h
  · split
    · rename_i h1
      obtain ⟨k1, k2, k3⟩ := isTo_pl h1
      exact ⟨by simp only; omega, k3, .inl rfl⟩
    · exact ⟨h.1, h.2.1, .inr (.inl rfl)⟩
theorem failS_pl {b : List UInt8} {st : Rs} {e : Int} (h : Pl b st) (he : e = 2 ∨ e = 3 ∨ e = 9) : Pl b (failS e st) := by
  unfold failS
  split
  · exact ⟨h.1, h.2.1, .inr he⟩
  · exact h
theorem numR_e (b : List UInt8) (i most : Int) : (numR b i most).2.2 = 0 ∨ (numR b i most).2.2 = 2 ∨ (numR b i most).2.2 = 3 := by
  unfold numR
  repeat' split
  all_goals simp
theorem numS_pl {b : List UInt8} {least most : Int} {st : Rs} (h : Pl b st) : Pl b (numS b least most st).2 := by
  unfold numS
  split
  · exact h
  · split
    · rename_i h1
      rcases numR_e b st.1 most with e | e | e
      · exact absurd e h1
      · exact ⟨h.1, h.2.1, .inr (.inl e)⟩
      · exact ⟨h.1, h.2.1, .inr (.inr (.inl e))⟩
    · rename_i h1
      simp only [ne_eq, Decidable.not_not] at h1
      split
      · exact ⟨h.1, h.2.1, .inr (.inl rfl)⟩
      · obtain ⟨k1, k2, k3⟩ := numR_pl h1
        exact ⟨by simp only; omega, k3, .inl rfl⟩
theorem opS_pl {b : List UInt8} {st : Rs} (h : Pl b st) : Pl b (opS b st).2.2 := by
  unfold opS
  split
  · exact h
  · refine wordS_pl ?_
    split
    · exact failS_pl h (.inl rfl)
    · split
      · exact failS_pl h (.inr (.inr rfl))
      · exact h
theorem widthS_pl {b : List UInt8} {st : Rs} (h : Pl b st) : Pl b (widthS b st).2 := by
  unfold widthS
  refine numS_pl (wordS_pl ?_)
  split
  · exact failS_pl h (.inr (.inr rfl))
  · exact h
theorem onesR_pl {b : List UInt8} {i m : Int} (h0 : 0 ≤ i) (h1 : i ≤ b.length) : ((onesR b i m).2.2 = 0 ∧ i ≤ (onesR b i m).2.1 ∧ (onesR b i m).2.1 ≤ b.length) ∨ (onesR b i m).2.2 = 2 ∨ (onesR b i m).2.2 = 3 := by
  have hp := runN_le isBit (b.drop i.toNat)
  rw [List.length_drop] at hp
  unfold onesR
  rw [if_neg (not_not_intro ⟨h0, h1⟩)]
  split
  · exact .inr (.inl rfl)
  · split
    · exact .inr (.inr rfl)
    · refine .inl ⟨rfl, ?_, ?_⟩ <;> simp only <;> omega
theorem bitsS_pl {b : List UInt8} {st : Rs} (h : Pl b st) : Pl b (bitsS b st).2 := by
  unfold bitsS
  split
  · exact h
  · rcases onesR_pl (m := 128) h.1 h.2.1 with ⟨e, e1, e2⟩ | e | e
    · rw [if_neg (not_not_intro e)]
      exact ⟨Int.le_trans h.1 e1, e2, .inl rfl⟩
    · rw [if_pos (by rw [e]; decide), e]
      exact failS_pl h (.inl rfl)
    · rw [if_pos (by rw [e]; decide), e]
      exact failS_pl h (.inr (.inl rfl))
theorem nameR_pl {b : List UInt8} {i : Int} (h0 : 0 ≤ i) (h1 : i ≤ b.length) : ((nameR b i).2.2 = 0 ∧ i ≤ (nameR b i).2.1 ∧ (nameR b i).2.1 ≤ b.length) ∨ (nameR b i).2.2 = 2 := by
  have hl : (lineR b i).length ≤ (b.drop i.toNat).length := (List.takeWhile_sublist _).length_le
  rw [List.length_drop] at hl
  unfold nameR
  rw [if_neg (not_not_intro ⟨h0, h1⟩)]
  split
  · exact .inr rfl
  · refine .inl ⟨rfl, ?_, ?_⟩ <;> simp only <;> omega
theorem nameS_pl {b : List UInt8} {st : Rs} (h : Pl b st) : Pl b (nameS b st).2 := by
  unfold nameS
  split
  · exact h
  · split
    · exact h
    · rename_i h1
      obtain ⟨k1, k2, k3⟩ := isTo_pl (by simpa using h1)
      have k0 : 0 ≤ isTo b st.1 [32] := by omega
      rcases nameR_pl k0 k3 with ⟨e, e1, e2⟩ | e
      · rw [if_neg (not_not_intro e)]
        exact ⟨Int.le_trans k0 e1, e2, .inl rfl⟩
      · rw [if_pos (by rw [e]; decide), e]
        exact ⟨k0, k3, .inr (.inl rfl)⟩
theorem letS_pl {b : List UInt8} {id : Int} {p : Nd × Rs} {c : UInt8} (h : Pl b p.2) : Pl b (letS b id p c).2 := by
  have h1 : Pl b (if c = 109 then p.2 else wordS b [32] p.2) := iteInduction (motive := Pl b) (fun _ => h) (fun _ => wordS_pl h)
  unfold letS
  generalize (if c = 109 then p.2 else wordS b [32] p.2) = st at *
  simp only [apply_ite Prod.snd]
  refine iteInduction (motive := Pl b) (fun _ => numS_pl h1) (fun _ => ?_)
  refine iteInduction (motive := Pl b) (fun _ => numS_pl h1) (fun _ => ?_)
  refine iteInduction (motive := Pl b) (fun _ => numS_pl h1) (fun _ => ?_)
  refine iteInduction (motive := Pl b) (fun _ => widthS_pl h1) (fun _ => ?_)
  refine iteInduction (motive := Pl b) (fun _ => bitsS_pl h1) (fun _ => ?_)
  exact iteInduction (motive := Pl b) (fun _ => nameS_pl h1) (fun _ => h1)
theorem fold_pl {b : List UInt8} {id : Int} : ∀ (f : List UInt8) (p : Nd × Rs), Pl b p.2 → Pl b (f.foldl (letS b id) p).2
  | [], _, h => h
  | c :: f, p, h => fold_pl f _ (letS_pl h)
theorem nodeS_pl {b : List UInt8} {id : Int} {st : Rs} (h : Pl b st) : Pl b (nodeS b id st).2 := by
  unfold nodeS
  exact wordS_pl (fold_pl _ _ (opS_pl (wordS_pl h)))
theorem parS_pl {b : List UInt8} : ∀ (f : Nat) (l : List Nd) (st : Rs), Pl b st → Pl b (parS b f l st).2
  | 0, l, st, h => ⟨h.1, h.2.1, .inr (.inl rfl)⟩
  | f + 1, l, st, h => by
    rw [parS]
    split
    · split
      · exact ⟨h.1, h.2.1, .inr (.inr (.inl rfl))⟩
      · exact parS_pl f _ _ (nodeS_pl h)
    · exact h
theorem par_pl (b : List UInt8) : Pl b (parM b).2 ∧ ((parM b).2.2 ≠ 0 → (parM b).1 = []) := by
  have h := parS_pl (b := b) (b.length + 1) [] (0, 0) ⟨Int.le_refl _, by simp only; omega, .inl rfl⟩
  unfold parM
  split
  · exact ⟨⟨Int.le_refl _, by simp only; omega, .inr (.inr (.inl rfl))⟩, fun _ => rfl⟩
  · split
    · exact ⟨h, fun _ => rfl⟩
    · rename_i h1
      exact ⟨h, fun hh => absurd hh h1⟩
end Go.Proofs.YtjjlipbddlignaaGreatDoor
namespace Go.Proofs.YtjjlipbddlignaaGreatDoor
open Go Ab Go.RowKit
set_option maxRecDepth 100000
set_option linter.unusedVariables false
set_option linter.unusedSimpArgs false
set_option maxHeartbeats 4000000

/-! ### The reader's own methods -/
@[reducible] def rdO (b : List UInt8) (st : Rs) : List (Option AObj) := [some (.cells 67 [.d (eBy b), vI .i64 st.1, vI .i64 st.2])]
theorem fails_call (b : List UInt8) (st : Rs) (a e : Int) : ACall Tryz.prog 32 [.ptr 0 0, vI .i64 a, vI .i64 e] (rdO b st) (fun r o => r = .tp [] ∧ o = rdO b (if st.2 = 0 then (a, e) else st)) := by
  refine acall_enter Tryz.func32 rfl rfl (Nat.le_of_ble_eq_true rfl) fun C hC hCl hDs hGk => ?_
  refine sat_branch tabOk Tryz.func32 rfl trivial (fun h => ?_) (fun h => ?_)
  · have h : (st.2 == 0) = true := h
    rw [beq_iff_eq] at h
    rw [if_pos h]
    exact sat_retL tabOk Tryz.func32 rfl trivial hC hCl (.refl _) (o2 := rdO b (a, e)) ⟨.refl _, trivial⟩ rfl rfl (Nat.le_refl _) ⟨rfl, rfl⟩
  · have h : (st.2 == 0) = false := h
    rw [beq_eq_false_iff_ne] at h
    rw [if_neg h]
    exact sat_retL tabOk Tryz.func32 rfl trivial hC hCl (.refl _) (o2 := rdO b st) ⟨.refl _, trivial⟩ rfl rfl (Nat.le_refl _) ⟨rfl, rfl⟩
theorem word_call (b s : List UInt8) (st : Rs) (hb : b.length ≤ 1000000) (hs : s.length ≤ 1000000) : ACall Tryz.prog 47 [.ptr 0 0, vTx s] (rdO b st) (fun r o => r = .tp [] ∧ o = rdO b (wordS b s st)) := by
  refine acall_enter Tryz.func47 rfl rfl (Nat.le_of_ble_eq_true rfl) fun C hC hCl hDs hGk => ?_
  unfold wordS
  refine sat_branch tabOk Tryz.func47 rfl trivial (fun h => ?_) (fun h => ?_)
  · have h : (st.2 != 0) = true := h
    rw [bne_iff_ne] at h
    rw [if_pos h]
    exact sat_retL tabOk Tryz.func47 rfl trivial hC hCl (.refl _) (o2 := rdO b st) ⟨.refl _, trivial⟩ rfl rfl (Nat.le_refl _) ⟨rfl, rfl⟩
  have h : (st.2 != 0) = false := h
  rw [bne_eq_false_iff_eq] at h
  rw [if_neg (not_not_intro h)]
  obtain ⟨at_, e⟩ := st
  obtain rfl : e = 0 := h
  refine sat_drawT 14 tabOk Tryz.func47 rfl rfl trivial (by kernel_rfl) ?_
  refine ds_call tabOk rfl trivial (Is_call b at_ s hb hs) (callFunc_run Tryz.func63 rfl rfl) (by rintro r o rfl; rfl) (.refl _) rfl rfl ⟨_, rfl⟩ ?_
  refine ds_done tabOk rfl trivial ?_
  cases hi : isAt b at_ s with
  | false =>
    refine sat_branch tabOk Tryz.func47 rfl trivial (fun _ => ?_) (fun h => by cases h)
    refine sat_callG [0] tabOk Tryz.func47 rfl trivial (fails_call b (at_, 0) at_ 2) ⟨⟨_, rfl, .refl _⟩, trivial⟩ (.refl _) rfl rfl rfl ⟨_, rfl⟩ ?_
    rintro r o ⟨rfl, rfl⟩
    exact sat_retL tabOk Tryz.func47 rfl trivial hC hCl (.refl _) (o2 := rdO b (at_, 2)) ⟨.refl _, trivial⟩ rfl rfl (Nat.le_refl _) ⟨rfl, rfl⟩
  | true =>
    refine sat_branch tabOk Tryz.func47 rfl trivial (fun h => by cases h) (fun _ => ?_)
    exact sat_retL tabOk Tryz.func47 rfl trivial hC hCl (.refl _) (o2 := rdO b (isTo b at_ s, 0)) ⟨.refl _, trivial⟩ rfl rfl (Nat.le_refl _) ⟨rfl, rfl⟩
theorem number_call (b : List UInt8) (st : Rs) (least most : Int) (hb : b.length ≤ 1000000) : ACall Tryz.prog 49 [.ptr 0 0, vI .i64 least, vI .i64 most] (rdO b st) (fun r o => r = vI .i64 (numS b least most st).1 ∧ o = rdO b (numS b least most st).2) := by
  refine acall_enter Tryz.func49 rfl rfl (Nat.le_of_ble_eq_true rfl) fun C hC hCl hDs hGk => ?_
  unfold numS
  refine sat_branch tabOk Tryz.func49 rfl trivial (fun h => ?_) (fun h => ?_)
  · have h : (st.2 != 0) = true := h
    rw [bne_iff_ne] at h
    rw [if_pos h]
    exact sat_retL tabOk Tryz.func49 rfl trivial hC hCl (.refl _) (o2 := rdO b st) ⟨.refl _, trivial⟩ rfl rfl (Nat.le_refl _) ⟨rfl, rfl⟩
  have h : (st.2 != 0) = false := h
  rw [bne_eq_false_iff_eq] at h
  rw [if_neg (not_not_intro h)]
  obtain ⟨at_, e⟩ := st
  obtain rfl : e = 0 := h
  refine sat_drawT 16 tabOk Tryz.func49 rfl rfl trivial (by kernel_rfl) ?_
  refine ds_call tabOk rfl trivial (Number_call b at_ most hb) (callFunc_run Tryz.func65 rfl rfl) (by rintro r o rfl; rfl) (.refl _) rfl rfl ⟨_, rfl⟩ ?_
  refine ds_done tabOk rfl trivial ?_
  generalize numR b at_ most = q
  obtain ⟨v, nx, e⟩ := q
  simp only
  by_cases he : e = 0
  · subst he
    rw [if_neg (by simp)]
    refine sat_branch tabOk Tryz.func49 rfl trivial (fun h => by cases h) (fun _ => ?_)
    by_cases hl : v < least
    · rw [if_pos hl]
      refine sat_branch tabOk Tryz.func49 rfl trivial (fun _ => ?_) (fun h => absurd hl (of_decide_eq_false h))
      refine sat_callG [0] tabOk Tryz.func49 rfl trivial (fails_call b (at_, 0) at_ 2) ⟨⟨_, rfl, .refl _⟩, trivial⟩ (.refl _) rfl rfl rfl ⟨_, rfl⟩ ?_
      rintro r o ⟨rfl, rfl⟩
      exact sat_retL tabOk Tryz.func49 rfl trivial hC hCl (.refl _) (o2 := rdO b (at_, 2)) ⟨.refl _, trivial⟩ rfl rfl (Nat.le_refl _) ⟨rfl, rfl⟩
    · rw [if_neg hl]
      refine sat_branch tabOk Tryz.func49 rfl trivial (fun h => absurd (of_decide_eq_true h) hl) (fun _ => ?_)
      exact sat_retL tabOk Tryz.func49 rfl trivial hC hCl (.refl _) (o2 := rdO b (nx, 0)) ⟨.refl _, trivial⟩ rfl rfl (Nat.le_refl _) ⟨rfl, rfl⟩
  · rw [if_pos he]
    refine sat_branch tabOk Tryz.func49 rfl trivial (fun _ => ?_) (fun h => ?_)
    · refine sat_callG [0] tabOk Tryz.func49 rfl trivial (fails_call b (at_, 0) at_ e) ⟨⟨_, rfl, .refl _⟩, trivial⟩ (.refl _) rfl rfl rfl ⟨_, rfl⟩ ?_
      rintro r o ⟨rfl, rfl⟩
      exact sat_retL tabOk Tryz.func49 rfl trivial hC hCl (.refl _) (o2 := rdO b (at_, e)) ⟨.refl _, trivial⟩ rfl rfl (Nat.le_refl _) ⟨rfl, rfl⟩
    · have h : (e != 0) = false := h
      rw [bne_eq_false_iff_eq] at h
      exact absurd h he
end Go.Proofs.YtjjlipbddlignaaGreatDoor
namespace Go.Proofs.YtjjlipbddlignaaGreatDoor
open Go Ab Go.RowKit
set_option maxRecDepth 100000
set_option linter.unusedVariables false
set_option linter.unusedSimpArgs false
set_option maxHeartbeats 4000000

theorem tw_stop {p : UInt8 → Bool} {l : List UInt8} {k : Nat} (hk : k ≤ l.length) (h1 : ∀ j (h : j < l.length), j < k → p l[j] = true) (h2 : ∀ h : k < l.length, p l[k] = false) : l.takeWhile p = l.take k := by
  induction l generalizing k with
  | nil => simp
  | cons x r ih =>
    rw [List.takeWhile_cons]
    cases k with
    | zero =>
      have := h2 (by simp)
      rw [show p x = false from this]
      rfl
    | succ k =>
      have := h1 0 (by simp) (by omega)
      rw [show p x = true from this, if_pos rfl, List.take_succ_cons]
      congr 1
      refine ih (by simpa using hk) (fun j hj hjk => ?_) (fun h => ?_)
      · exact h1 (j + 1) (by simpa using hj) (by omega)
      · exact h2 (by simpa using h)
theorem letsR_eq {b : List UInt8} {p q : Nat} (hp : p ≤ q) (hq : q ≤ b.length) (h1 : ∀ j, p ≤ j → j < q → isLow (b.getD j 0) = true) (h2 : q < b.length → isLow (b.getD q 0) = false) : letsR b (p : Int) = (b.drop p).take (q - p) := by
  unfold letsR
  rw [Int.toNat_natCast]
  refine tw_stop (by rw [List.length_drop]; omega) (fun j hj hjq => ?_) (fun h => ?_)
  · rw [List.getElem_drop]
    rw [List.length_drop] at hj
    have := h1 (p + j) (by omega) (by omega)
    rw [getD_at (by omega)] at this
    exact this
  · rw [List.getElem_drop]
    rw [List.length_drop] at h
    have := h2 (by omega)
    rw [getD_at (by omega)] at this
    simpa [show p + (q - p) = q by omega] using this
theorem low_iff (c : UInt8) : isLow c = (decide ((c.toNat : Int) ≥ 97) && decide ((c.toNat : Int) ≤ 122)) := by
  unfold isLow
  rw [Bool.eq_iff_iff, Bool.and_eq_true, decide_eq_true_eq, decide_eq_true_eq, decide_eq_true_eq]
  omega
theorem letters_call (b : List UInt8) (p : Nat) (e : Int) (hp : p ≤ b.length) (hb : b.length ≤ 1000000) : ACall Tryz.prog 64 [.ptr 0 0] (rdO b ((p : Int), e)) (fun r o => r = vTx (letsR b (p : Int)) ∧ o = rdO b ((p : Int), e)) := by
  refine acall_enter Tryz.func64 rfl rfl (Nat.le_of_ble_eq_true rfl) fun C hC hCl hDs hGk => ?_
  refine sat_stop tabOk Tryz.func64 rfl trivial ?_
  refine sat_while (α := Nat) (fun q => [(0, .ptr 0 0), (3, vI .i64 (p : Int)), (4, vI .i64 (q : Int))]) (fun q => rdO b ((p : Int), e)) (fun q => p ≤ q ∧ q ≤ b.length ∧ ∀ j, p ≤ j → j < q → isLow (b.getD j 0) = true) (fun q => b.length - q) p ⟨Nat.le_refl _, hp, fun j h1 h2 => by omega⟩ ?_ ?_
  · exact fun h => sat_le h hC hCl ⟨⟨_, rfl, .refl _⟩, ⟨_, rfl, .refl _⟩, ⟨_, rfl, .refl _⟩, trivial⟩ ⟨.refl _, trivial⟩ rfl rfl (Nat.le_refl _)
  rintro q ⟨hpq, hq, hall⟩ ih
  have fin : (q < b.length → isLow (b.getD q 0) = false) → ∀ k env, ASat Tryz.prog 64 Tryz.f64.ntmps C k env (rdO b ((p : Int), e)) (fun r o => r = vTx ((b.drop p).take (q - p)) ∧ o = rdO b ((p : Int), e)) → ASat Tryz.prog 64 Tryz.f64.ntmps C k env (rdO b ((p : Int), e)) (fun r o => r = vTx (letsR b (p : Int)) ∧ o = rdO b ((p : Int), e)) := fun h k env hh => by
    rw [letsR_eq hpq hq hall h]
    exact hh
  have hsl : List.take ((q : Int) - (p : Int)).toNat (List.drop (p : Int).toNat (b.map eU8)) = ((b.drop p).take (q - p)).map eU8 := by
    rw [show ((q : Int) - (p : Int)).toNat = q - p by omega, Int.toNat_natCast, List.map_take, List.map_drop]
  have hnd : (∀ x ∈ List.take ((q : Int) - (p : Int)).toNat (List.drop (p : Int).toNat (b.map eU8)), isByteD x = true) ∧ (0 ≤ (p : Int) ∧ (p : Int) ≤ (q : Int) ∧ (q : Int) ≤ (((b.map eU8).length : Nat) : Int)) ∧ True := by
    rw [hsl, List.length_map]
    exact ⟨isByte_by _, ⟨by omega, by omega, by omega⟩, trivial⟩
  refine sat_branch tabOk Tryz.func64 rfl trivial (fun h => ?_) (fun h => ?_)
  rotate_left
  · have h : decide ((q : Int) < (((b.map eU8).length : Nat) : Int)) = false := h
    rw [decide_eq_false_iff_not, List.length_map] at h
    refine fin (fun h2 => by omega) _ _ ?_
    repeat refine sat_branch tabOk Tryz.func64 rfl trivial (fun h => by cases h) (fun _ => ?_)
    refine sat_retL tabOk Tryz.func64 rfl hnd hC hCl (.of ?_) (o2 := rdO b ((p : Int), e)) ⟨.refl _, trivial⟩ rfl rfl (Nat.le_refl _) ⟨rfl, rfl⟩
    rw [hsl, strD_by]
    rfl
  have h : decide ((q : Int) < (((b.map eU8).length : Nat) : Int)) = true := h
  rw [decide_eq_true_eq, List.length_map] at h
  have hlt : q < b.length := by omega
  have hix : (0 ≤ (q : Int) ∧ (q : Int) < (((b.map eU8).length : Nat) : Int)) ∧ True := ⟨⟨by omega, by rw [List.length_map]; omega⟩, trivial⟩
  have hlow := low_iff (b.getD q 0)
  refine sat_branch tabOk Tryz.func64 rfl hix (fun h1 => ?_) (fun h1 => ?_)
  rotate_left
  · have h1 : decide (((b.getD q 0).toNat : Int) ≥ 97) = false := h1
    rw [h1] at hlow
    refine fin (fun _ => hlow) _ _ ?_
    repeat refine sat_branch tabOk Tryz.func64 rfl trivial (fun h => by cases h) (fun _ => ?_)
    refine sat_retL tabOk Tryz.func64 rfl hnd hC hCl (.of ?_) (o2 := rdO b ((p : Int), e)) ⟨.refl _, trivial⟩ rfl rfl (Nat.le_refl _) ⟨rfl, rfl⟩
    rw [hsl, strD_by]
    rfl
  have h1 : decide (((b.getD q 0).toNat : Int) ≥ 97) = true := h1
  rw [h1] at hlow
  refine sat_branch tabOk Tryz.func64 rfl hix (fun h2 => ?_) (fun h2 => ?_)
  · have h2 : decide (((b.getD q 0).toNat : Int) ≤ 122) = true := h2
    rw [h2] at hlow
    refine sat_stop tabOk Tryz.func64 rfl trivial ?_
    refine sat_le (ih (q + 1) ⟨by omega, by omega, fun j hj1 hj2 => ?_⟩ (by omega)) hC hCl ⟨⟨_, rfl, .refl _⟩, ⟨_, rfl, .refl _⟩, ⟨_, rfl, .of (by rw [wrap_id (by omega) (by omega)]; rfl)⟩, trivial⟩ ⟨.refl _, trivial⟩ rfl rfl (Nat.le_refl _)
    rcases Nat.lt_succ_iff_lt_or_eq.1 hj2 with h3 | rfl
    · exact hall j hj1 h3
    · exact hlow
  · have h2 : decide (((b.getD q 0).toNat : Int) ≤ 122) = false := h2
    rw [h2] at hlow
    refine fin (fun _ => hlow) _ _ ?_
    repeat refine sat_branch tabOk Tryz.func64 rfl trivial (fun h => by cases h) (fun _ => ?_)
    refine sat_retL tabOk Tryz.func64 rfl hnd hC hCl (.of ?_) (o2 := rdO b ((p : Int), e)) ⟨.refl _, trivial⟩ rfl rfl (Nat.le_refl _) ⟨rfl, rfl⟩
    rw [hsl, strD_by]
    rfl
end Go.Proofs.YtjjlipbddlignaaGreatDoor
namespace Go.Proofs.YtjjlipbddlignaaGreatDoor
open Go Ab Go.RowKit
set_option maxRecDepth 100000
set_option linter.unusedVariables false
set_option linter.unusedSimpArgs false
set_option maxHeartbeats 4000000

theorem Pl.nat {b : List UInt8} {st : Rs} (h : Pl b st) : ∃ p : Nat, st.1 = p ∧ p ≤ b.length := ⟨st.1.toNat, by have := h.1; omega, by have := h.1; have := h.2.1; omega⟩
theorem lets_len (b : List UInt8) (i : Int) : (letsR b i).length ≤ b.length := by
  have h : (letsR b i).length ≤ (b.drop i.toNat).length := (List.takeWhile_sublist _).length_le
  rw [List.length_drop] at h
  omega
theorem op_call (b : List UInt8) (st : Rs) (hp : Pl b st) (hb : b.length ≤ 1000000) : ACall Tryz.prog 48 [.ptr 0 0] (rdO b st) (fun r o => r = tupOf [vTx (opS b st).1, vTx (opS b st).2.1] ∧ o = rdO b (opS b st).2.2) := by
  refine acall_enter Tryz.func48 rfl rfl (Nat.le_of_ble_eq_true rfl) fun C hC hCl hDs hGk => ?_
  unfold opS
  refine sat_branch tabOk Tryz.func48 rfl trivial (fun h => ?_) (fun h => ?_)
  · have h : (st.2 != 0) = true := h
    rw [bne_iff_ne] at h
    rw [if_pos h]
    exact sat_retL tabOk Tryz.func48 rfl trivial hC hCl (.refl _) (o2 := rdO b st) ⟨.refl _, trivial⟩ rfl rfl (Nat.le_refl _) ⟨rfl, rfl⟩
  have h : (st.2 != 0) = false := h
  rw [bne_eq_false_iff_eq] at h
  rw [if_neg (not_not_intro h)]
  obtain ⟨p, hpe, hpb⟩ := hp.nat
  obtain ⟨at_, e⟩ := st
  obtain rfl : e = 0 := h
  obtain rfl : at_ = (p : Int) := hpe
  refine sat_callG [0] tabOk Tryz.func48 rfl trivial (letters_call b p 0 hpb hb) ⟨⟨_, rfl, .refl _⟩, trivial⟩ (.refl _) rfl rfl rfl ⟨_, rfl⟩ ?_
  rintro r o ⟨rfl, rfl⟩
  have hsl := lets_len b (p : Int)
  show ASat _ _ _ _ _ _ _ _
  generalize letsR b (p : Int) = s at *
  refine sat_call tabOk Tryz.func48 rfl trivial (pForm_call s) (.refl _) rfl ⟨_, rfl⟩ (by rintro r o rfl; rfl) ?_
  rintro _ o rfl
  simp only
  refine sat_branch tabOk Tryz.func48 rfl trivial (fun h => ?_) (fun h => ?_)
  · have h : ((⟨s.toArray⟩ : ByteArray).toList == (⟨#[]⟩ : ByteArray).toList) = true := h
    rw [eqE_list, List.isEmpty_iff] at h
    rw [if_pos h]
    refine sat_callG [0] tabOk Tryz.func48 rfl trivial (fails_call b ((p : Int), 0) (p : Int) 2) ⟨⟨_, rfl, .refl _⟩, trivial⟩ (.refl _) rfl rfl rfl ⟨_, rfl⟩ ?_
    rintro r o ⟨rfl, rfl⟩
    refine sat_callG [0] tabOk Tryz.func48 rfl trivial (word_call b s (failS 2 ((p : Int), 0)) hb (by omega)) ⟨⟨_, rfl, .refl _⟩, trivial⟩ (.refl _) rfl rfl rfl ⟨_, rfl⟩ ?_
    rintro r o ⟨rfl, rfl⟩
    exact sat_retL tabOk Tryz.func48 rfl trivial hC hCl (.refl _) (o2 := rdO b (wordS b s (failS 2 ((p : Int), 0)))) ⟨.refl _, trivial⟩ rfl rfl (Nat.le_refl _) ⟨rfl, rfl⟩
  have h : ((⟨s.toArray⟩ : ByteArray).toList == (⟨#[]⟩ : ByteArray).toList) = false := h
  rw [eqE_list, ← Bool.not_eq_true, List.isEmpty_iff] at h
  rw [if_neg h]
  cases hf : (formR s).2 with
  | false =>
    refine sat_branch tabOk Tryz.func48 rfl trivial (fun _ => ?_) (fun h => by cases h)
    refine sat_callG [0] tabOk Tryz.func48 rfl trivial (fails_call b ((p : Int), 0) (p : Int) 9) ⟨⟨_, rfl, .refl _⟩, trivial⟩ (.refl _) rfl rfl rfl ⟨_, rfl⟩ ?_
    rintro r o ⟨rfl, rfl⟩
    refine sat_callG [0] tabOk Tryz.func48 rfl trivial (word_call b s (failS 9 ((p : Int), 0)) hb (by omega)) ⟨⟨_, rfl, .refl _⟩, trivial⟩ (.refl _) rfl rfl rfl ⟨_, rfl⟩ ?_
    rintro r o ⟨rfl, rfl⟩
    exact sat_retL tabOk Tryz.func48 rfl trivial hC hCl (.refl _) (o2 := rdO b (wordS b s (failS 9 ((p : Int), 0)))) ⟨.refl _, trivial⟩ rfl rfl (Nat.le_refl _) ⟨rfl, rfl⟩
  | true =>
    refine sat_branch tabOk Tryz.func48 rfl trivial (fun h => by cases h) (fun _ => ?_)
    refine sat_callG [0] tabOk Tryz.func48 rfl trivial (word_call b s ((p : Int), 0) hb (by omega)) ⟨⟨_, rfl, .refl _⟩, trivial⟩ (.refl _) rfl rfl rfl ⟨_, rfl⟩ ?_
    rintro r o ⟨rfl, rfl⟩
    exact sat_retL tabOk Tryz.func48 rfl trivial hC hCl (.refl _) (o2 := rdO b (wordS b s ((p : Int), 0))) ⟨.refl _, trivial⟩ rfl rfl (Nat.le_refl _) ⟨rfl, rfl⟩
end Go.Proofs.YtjjlipbddlignaaGreatDoor
namespace Go.Proofs.YtjjlipbddlignaaGreatDoor
open Go Ab Go.RowKit
set_option maxRecDepth 100000
set_option linter.unusedVariables false
set_option linter.unusedSimpArgs false
set_option maxHeartbeats 4000000

theorem isEq_bytes (a b : List UInt8) : ((⟨a.toArray⟩ : ByteArray).toList == (⟨b.toArray⟩ : ByteArray).toList) = decide (a = b) := strBy a b
theorem width_call (b : List UInt8) (st : Rs) (hp : Pl b st) (hb : b.length ≤ 1000000) : ACall Tryz.prog 50 [.ptr 0 0] (rdO b st) (fun r o => r = vI .i64 (widthS b st).1 ∧ o = rdO b (widthS b st).2) := by
  refine acall_enter Tryz.func50 rfl rfl (Nat.le_of_ble_eq_true rfl) fun C hC hCl hDs hGk => ?_
  unfold widthS
  have rest : ∀ st2 k env, st2 = (if st.2 = 0 ∧ letsR b st.1 = kArray then failS 9 st else st) → ASat Tryz.prog 50 Tryz.f50.ntmps C k env (rdO b st2) (fun r o => r = vI .i64 (numS b 1 128 (wordS b kBitvec st2)).1 ∧ o = rdO b (numS b 1 128 (wordS b kBitvec st2)).2) → ASat Tryz.prog 50 Tryz.f50.ntmps C k env (rdO b st2) (fun r o => r = vI .i64 (numS b 1 128 (wordS b kBitvec (if st.2 = 0 ∧ letsR b st.1 = kArray then failS 9 st else st))).1 ∧ o = rdO b (numS b 1 128 (wordS b kBitvec (if st.2 = 0 ∧ letsR b st.1 = kArray then failS 9 st else st))).2) := fun st2 k env e h => by rw [← e]; exact h
  refine sat_branch tabOk Tryz.func50 rfl trivial (fun h => ?_) (fun h => ?_)
  · have h : (st.2 == 0) = true := h
    rw [beq_iff_eq] at h
    obtain ⟨p, hpe, hpb⟩ := hp.nat
    obtain ⟨at_, e⟩ := st
    obtain rfl : e = 0 := h
    obtain rfl : at_ = (p : Int) := hpe
    refine sat_callG [0] tabOk Tryz.func50 rfl trivial (letters_call b p 0 hpb hb) ⟨⟨_, rfl, .refl _⟩, trivial⟩ (.refl _) rfl rfl rfl ⟨_, rfl⟩ ?_
    rintro r o ⟨rfl, rfl⟩
    refine sat_branch tabOk Tryz.func50 rfl trivial (fun h2 => ?_) (fun h2 => ?_)
    · have h2 : ((⟨(letsR b (p : Int)).toArray⟩ : ByteArray).toList == (⟨kArray.toArray⟩ : ByteArray).toList) = true := h2
      rw [isEq_bytes, decide_eq_true_eq] at h2
      refine sat_callG [0] tabOk Tryz.func50 rfl trivial (fails_call b ((p : Int), 0) (p : Int) 9) ⟨⟨_, rfl, .refl _⟩, trivial⟩ (.refl _) rfl rfl rfl ⟨_, rfl⟩ ?_
      rintro r o ⟨rfl, rfl⟩
      refine rest (failS 9 ((p : Int), 0)) _ _ (by rw [if_pos ⟨rfl, h2⟩]) ?_
      refine sat_callG [0] tabOk Tryz.func50 rfl trivial (word_call b kBitvec (failS 9 ((p : Int), 0)) hb (by decide)) ⟨⟨_, rfl, .refl _⟩, trivial⟩ (.refl _) rfl rfl rfl ⟨_, rfl⟩ ?_
      rintro r o ⟨rfl, rfl⟩
      refine sat_callG [0] tabOk Tryz.func50 rfl trivial (number_call b (wordS b kBitvec (failS 9 ((p : Int), 0))) 1 128 hb) ⟨⟨_, rfl, .refl _⟩, trivial⟩ (.refl _) rfl rfl rfl ⟨_, rfl⟩ ?_
      rintro r o ⟨rfl, rfl⟩
      exact sat_retL tabOk Tryz.func50 rfl trivial hC hCl (.refl _) (o2 := rdO b (numS b 1 128 (wordS b kBitvec (failS 9 ((p : Int), 0)))).2) ⟨.refl _, trivial⟩ rfl rfl (Nat.le_refl _) ⟨rfl, rfl⟩
    · have h2 : ((⟨(letsR b (p : Int)).toArray⟩ : ByteArray).toList == (⟨kArray.toArray⟩ : ByteArray).toList) = false := h2
      rw [isEq_bytes, decide_eq_false_iff_not] at h2
      refine rest ((p : Int), 0) _ _ (by rw [if_neg (fun hh => h2 hh.2)]) ?_
      refine sat_callG [0] tabOk Tryz.func50 rfl trivial (word_call b kBitvec ((p : Int), 0) hb (by decide)) ⟨⟨_, rfl, .refl _⟩, trivial⟩ (.refl _) rfl rfl rfl ⟨_, rfl⟩ ?_
      rintro r o ⟨rfl, rfl⟩
      refine sat_callG [0] tabOk Tryz.func50 rfl trivial (number_call b (wordS b kBitvec ((p : Int), 0)) 1 128 hb) ⟨⟨_, rfl, .refl _⟩, trivial⟩ (.refl _) rfl rfl rfl ⟨_, rfl⟩ ?_
      rintro r o ⟨rfl, rfl⟩
      exact sat_retL tabOk Tryz.func50 rfl trivial hC hCl (.refl _) (o2 := rdO b (numS b 1 128 (wordS b kBitvec ((p : Int), 0))).2) ⟨.refl _, trivial⟩ rfl rfl (Nat.le_refl _) ⟨rfl, rfl⟩
  · have h : (st.2 == 0) = false := h
    rw [beq_eq_false_iff_ne] at h
    refine sat_branch tabOk Tryz.func50 rfl trivial (fun h => by cases h) (fun _ => ?_)
    refine rest st _ _ (by rw [if_neg (fun hh => h hh.1)]) ?_
    refine sat_callG [0] tabOk Tryz.func50 rfl trivial (word_call b kBitvec st hb (by decide)) ⟨⟨_, rfl, .refl _⟩, trivial⟩ (.refl _) rfl rfl rfl ⟨_, rfl⟩ ?_
    rintro r o ⟨rfl, rfl⟩
    refine sat_callG [0] tabOk Tryz.func50 rfl trivial (number_call b (wordS b kBitvec st) 1 128 hb) ⟨⟨_, rfl, .refl _⟩, trivial⟩ (.refl _) rfl rfl rfl ⟨_, rfl⟩ ?_
    rintro r o ⟨rfl, rfl⟩
    exact sat_retL tabOk Tryz.func50 rfl trivial hC hCl (.refl _) (o2 := rdO b (numS b 1 128 (wordS b kBitvec st)).2) ⟨.refl _, trivial⟩ rfl rfl (Nat.le_refl _) ⟨rfl, rfl⟩
theorem bits_call (b : List UInt8) (st : Rs) (hb : b.length ≤ 1000000) : ACall Tryz.prog 51 [.ptr 0 0] (rdO b st) (fun r o => r = vTx (bitsS b st).1 ∧ o = rdO b (bitsS b st).2) := by
  refine acall_enter Tryz.func51 rfl rfl (Nat.le_of_ble_eq_true rfl) fun C hC hCl hDs hGk => ?_
  unfold bitsS
  refine sat_branch tabOk Tryz.func51 rfl trivial (fun h => ?_) (fun h => ?_)
  · have h : (st.2 != 0) = true := h
    rw [bne_iff_ne] at h
    rw [if_pos h]
    exact sat_retL tabOk Tryz.func51 rfl trivial hC hCl (.refl _) (o2 := rdO b st) ⟨.refl _, trivial⟩ rfl rfl (Nat.le_refl _) ⟨rfl, rfl⟩
  have h : (st.2 != 0) = false := h
  rw [bne_eq_false_iff_eq] at h
  rw [if_neg (not_not_intro h)]
  obtain ⟨at_, e⟩ := st
  obtain rfl : e = 0 := h
  refine sat_drawT 15 tabOk Tryz.func51 rfl rfl trivial (by kernel_rfl) ?_
  refine ds_call tabOk rfl trivial (Ones_call b at_ 128 hb (by decide)) (callFunc_run Tryz.func66 rfl rfl) (by rintro r o rfl; rfl) (.refl _) rfl rfl ⟨_, rfl⟩ ?_
  refine ds_done tabOk rfl trivial ?_
  generalize onesR b at_ 128 = q
  obtain ⟨s, nx, e⟩ := q
  simp only
  by_cases he : e = 0
  · subst he
    rw [if_neg (by simp)]
    refine sat_branch tabOk Tryz.func51 rfl trivial (fun h => by cases h) (fun _ => ?_)
    exact sat_retL tabOk Tryz.func51 rfl trivial hC hCl (.refl _) (o2 := rdO b (nx, 0)) ⟨.refl _, trivial⟩ rfl rfl (Nat.le_refl _) ⟨rfl, rfl⟩
  · rw [if_pos he]
    refine sat_branch tabOk Tryz.func51 rfl trivial (fun _ => ?_) (fun h => ?_)
    · refine sat_callG [0] tabOk Tryz.func51 rfl trivial (fails_call b (at_, 0) at_ e) ⟨⟨_, rfl, .refl _⟩, trivial⟩ (.refl _) rfl rfl rfl ⟨_, rfl⟩ ?_
      rintro r o ⟨rfl, rfl⟩
      exact sat_retL tabOk Tryz.func51 rfl trivial hC hCl (.refl _) (o2 := rdO b (at_, e)) ⟨.refl _, trivial⟩ rfl rfl (Nat.le_refl _) ⟨rfl, rfl⟩
    · have h : (e != 0) = false := h
      rw [bne_eq_false_iff_eq] at h
      exact absurd h he
theorem name_call (b : List UInt8) (st : Rs) (hb : b.length ≤ 1000000) : ACall Tryz.prog 52 [.ptr 0 0] (rdO b st) (fun r o => r = vTx (nameS b st).1 ∧ o = rdO b (nameS b st).2) := by
  refine acall_enter Tryz.func52 rfl rfl (Nat.le_of_ble_eq_true rfl) fun C hC hCl hDs hGk => ?_
  unfold nameS
  refine sat_branch tabOk Tryz.func52 rfl trivial (fun h => ?_) (fun h => ?_)
  · have h : (st.2 != 0) = true := h
    rw [bne_iff_ne] at h
    rw [if_pos h]
    exact sat_retL tabOk Tryz.func52 rfl trivial hC hCl (.refl _) (o2 := rdO b st) ⟨.refl _, trivial⟩ rfl rfl (Nat.le_refl _) ⟨rfl, rfl⟩
  have h : (st.2 != 0) = false := h
  rw [bne_eq_false_iff_eq] at h
  rw [if_neg (not_not_intro h)]
  obtain ⟨at_, e⟩ := st
  obtain rfl : e = 0 := h
  refine sat_drawT 13 tabOk Tryz.func52 rfl rfl trivial (by kernel_rfl) ?_
  refine ds_call tabOk rfl trivial (Is_call b at_ [32] hb (by decide)) (callFunc_run Tryz.func63 rfl rfl) (by rintro r o rfl; rfl) (.refl _) rfl rfl ⟨_, rfl⟩ ?_
  refine ds_done tabOk rfl trivial ?_
  cases hi : isAt b at_ [32] with
  | false =>
    refine sat_branch tabOk Tryz.func52 rfl trivial (fun _ => ?_) (fun h => by cases h)
    exact sat_retL tabOk Tryz.func52 rfl trivial hC hCl (.refl _) (o2 := rdO b (at_, 0)) ⟨.refl _, trivial⟩ rfl rfl (Nat.le_refl _) ⟨rfl, rfl⟩
  | true =>
    rw [if_neg (by simp)]
    refine sat_branch tabOk Tryz.func52 rfl trivial (fun h => by cases h) (fun _ => ?_)
    simp only
    refine sat_callG [] tabOk Tryz.func52 rfl trivial (Name_call b (isTo b at_ [32]) hb) trivial (.refl _) rfl rfl rfl ⟨_, rfl⟩ ?_
    rintro _ o rfl
    generalize nameR b (isTo b at_ [32]) = q
    obtain ⟨s, nx, e⟩ := q
    simp only
    by_cases he : e = 0
    · subst he
      rw [if_neg (by simp)]
      refine sat_branch tabOk Tryz.func52 rfl trivial (fun h => by cases h) (fun _ => ?_)
      exact sat_retL tabOk Tryz.func52 rfl trivial hC hCl (.refl _) (o2 := rdO b (nx, 0)) ⟨.refl _, trivial⟩ rfl rfl (Nat.le_refl _) ⟨rfl, rfl⟩
    · rw [if_pos he]
      refine sat_branch tabOk Tryz.func52 rfl trivial (fun _ => ?_) (fun h => ?_)
      · refine sat_callG [0] tabOk Tryz.func52 rfl trivial (fails_call b (at_, 0) (isTo b at_ [32]) e) ⟨⟨_, rfl, .refl _⟩, trivial⟩ (.refl _) rfl rfl rfl ⟨_, rfl⟩ ?_
        rintro r o ⟨rfl, rfl⟩
        exact sat_retL tabOk Tryz.func52 rfl trivial hC hCl (.refl _) (o2 := rdO b (isTo b at_ [32], e)) ⟨.refl _, trivial⟩ rfl rfl (Nat.le_refl _) ⟨rfl, rfl⟩
      · have h : (e != 0) = false := h
        rw [bne_eq_false_iff_eq] at h
        exact absurd h he
end Go.Proofs.YtjjlipbddlignaaGreatDoor
namespace Go.Proofs.YtjjlipbddlignaaGreatDoor
open Go Ab Go.Lib
set_option maxRecDepth 100000
set_option linter.unusedVariables false
set_option linter.unusedSimpArgs false

/-! ### What is read stood there -/
def Rd (b : List UInt8) (p : Int) (q : Nat) (s : List UInt8) : Prop := q ≤ b.length ∧ b.drop p.toNat = s ++ b.drop q
theorem Rd.trans {b s t : List UInt8} {p : Int} {q r : Nat} (h : Rd b p q s) (k : Rd b (q : Int) r t) : Rd b p r (s ++ t) := by
  refine ⟨k.1, ?_⟩
  have := k.2
  rw [Int.toNat_natCast] at this
  rw [h.2, this, List.append_assoc]
theorem word_inv {b s : List UInt8} {st : Rs} (hp : Pl b st) (h : (wordS b s st).2 = 0) : st.2 = 0 ∧ ∃ q : Nat, wordS b s st = ((q : Int), 0) ∧ Rd b st.1 q s := by
  unfold wordS at h ⊢
  split at h
  · rename_i h1
    exact absurd h h1
  · rename_i h1
    simp only [ne_eq, Decidable.not_not] at h1
    refine ⟨h1, ?_⟩
    split at h
    · rename_i h2
      rw [if_neg (not_not_intro h1), if_pos h2]
      obtain ⟨i, hi⟩ : ∃ i : Nat, st.1 = i := ⟨st.1.toNat, by have := hp.1; omega⟩
      rw [hi] at h2 ⊢
      obtain ⟨k1, k2, k3⟩ := isAt_inv h2
      exact ⟨i + s.length, by rw [k2], k1, by rw [Int.toNat_natCast]; exact k3⟩
    · cases h
theorem num_inv {b : List UInt8} {least most : Int} {st : Rs} (hp : Pl b st) (h : (numS b least most st).2.2 = 0) : st.2 = 0 ∧ ∃ u q : Nat, numS b least most st = ((u : Int), ((q : Int), 0)) ∧ least ≤ u ∧ (u : Int) ≤ most ∧ Rd b st.1 q (decDigits u) := by
  unfold numS at h ⊢
  split at h
  · rename_i h1
    exact absurd h h1
  · rename_i h1
    simp only [ne_eq, Decidable.not_not] at h1
    refine ⟨h1, ?_⟩
    split at h
    · rename_i h2
      exact absurd h h2
    · rename_i h2
      split at h
      · cases h
      · rename_i h3
        rw [if_neg (not_not_intro h1), if_neg h2, if_neg h3]
        simp only [ne_eq, Decidable.not_not] at h2
        obtain ⟨i, hi⟩ : ∃ i : Nat, st.1 = i := ⟨st.1.toNat, by have := hp.1; omega⟩
        rw [hi] at h2 h3 ⊢
        obtain ⟨u, q, k1, k2, k3, k4, k5, k6, k7⟩ := numR_inv (b := b) (i := i) (n := most) (v := (numR b i most).1) (nx := (numR b i most).2.1) (by rw [← h2])
        exact ⟨u, q, by rw [k1, k2], by omega, k5, k4, by rw [Int.toNat_natCast]; exact k7⟩
theorem numT_inv {b : List UInt8} {least most : Int} {st : Rs} (hp : Pl b st) (h0 : 0 ≤ least) (h : (numS b least most (wordS b [32] st)).2.2 = 0) : st.2 = 0 ∧ ∃ (s : Int) (q : Nat), numS b least most (wordS b [32] st) = (s, ((q : Int), 0)) ∧ least ≤ s ∧ s ≤ most ∧ Rd b st.1 q (numT s) := by
  obtain ⟨h1, u, q, e, k1, k2, k3⟩ := num_inv (wordS_pl hp) h
  obtain ⟨h2, q1, e1, k4⟩ := word_inv hp h1
  rw [e1] at k3
  exact ⟨h2, u, q, e, k1, k2, by rw [numT_nat]; exact k4.trans k3⟩
theorem inv_s {b : List UInt8} {id : Int} {p : Nd × Rs} (hp : Pl b p.2) (h : (letS b id p 115).2.2 = 0) : p.2.2 = 0 ∧ ∃ (s : Int) (q : Nat), letS b id p 115 = ({ p.1 with s := s }, ((q : Int), 0)) ∧ 1 ≤ s ∧ s < id ∧ Rd b p.2.1 q (numT s) := by
  obtain ⟨h1, s, q, e, k1, k2, k3⟩ := numT_inv (least := 1) (most := id - 1) hp (by decide) h
  refine ⟨h1, s, q, ?_, k1, by omega, k3⟩
  show (({ p.1 with s := (numS b 1 (id - 1) (wordS b [32] p.2)).1 } : Nd), (numS b 1 (id - 1) (wordS b [32] p.2)).2) = _
  rw [e]
theorem inv_a {b : List UInt8} {id : Int} {p : Nd × Rs} (hp : Pl b p.2) (h : (letS b id p 97).2.2 = 0) : p.2.2 = 0 ∧ ∃ (s : Int) (q : Nat), letS b id p 97 = ({ p.1 with a := p.1.a ++ [s] }, ((q : Int), 0)) ∧ 1 ≤ s ∧ s < id ∧ Rd b p.2.1 q (numT s) := by
  obtain ⟨h1, s, q, e, k1, k2, k3⟩ := numT_inv (least := 1) (most := id - 1) hp (by decide) h
  refine ⟨h1, s, q, ?_, k1, by omega, k3⟩
  show (({ p.1 with a := p.1.a ++ [(numS b 1 (id - 1) (wordS b [32] p.2)).1] } : Nd), (numS b 1 (id - 1) (wordS b [32] p.2)).2) = _
  rw [e]
theorem inv_n {b : List UInt8} {id : Int} {p : Nd × Rs} (hp : Pl b p.2) (h : (letS b id p 110).2.2 = 0) : p.2.2 = 0 ∧ ∃ (s : Int) (q : Nat), letS b id p 110 = ({ p.1 with n := p.1.n ++ [s] }, ((q : Int), 0)) ∧ 0 ≤ s ∧ s ≤ 128 ∧ Rd b p.2.1 q (numT s) := by
  obtain ⟨h1, s, q, e, k1, k2, k3⟩ := numT_inv (least := 0) (most := 128) hp (by decide) h
  refine ⟨h1, s, q, ?_, k1, k2, k3⟩
  show (({ p.1 with n := p.1.n ++ [(numS b 0 128 (wordS b [32] p.2)).1] } : Nd), (numS b 0 128 (wordS b [32] p.2)).2) = _
  rw [e]
theorem inv_w {b : List UInt8} {id : Int} {p : Nd × Rs} (hp : Pl b p.2) (h : (letS b id p 119).2.2 = 0) : p.2.2 = 0 ∧ ∃ (s : Int) (q : Nat), letS b id p 119 = ({ p.1 with n := [s] }, ((q : Int), 0)) ∧ 1 ≤ s ∧ s ≤ 128 ∧ Rd b p.2.1 q (sBitvec ++ numT s) := by
  have h' : (widthS b (wordS b [32] p.2)).2.2 = 0 := h
  have hw : Pl b (if (wordS b [32] p.2).2 = 0 ∧ letsR b (wordS b [32] p.2).1 = kArray then failS 9 (wordS b [32] p.2) else wordS b [32] p.2) := by
    split
    · exact failS_pl (wordS_pl hp) (.inr (.inr rfl))
    · exact wordS_pl hp
  unfold widthS at h'
  obtain ⟨h1, u, q, e, k1, k2, k3⟩ := num_inv (wordS_pl hw) h'
  obtain ⟨h2, q1, e1, k4⟩ := word_inv hw h1
  have hno : ¬ ((wordS b [32] p.2).2 = 0 ∧ letsR b (wordS b [32] p.2).1 = kArray) := by
    intro hh
    rw [if_pos hh] at h2
    unfold failS at h2
    rw [if_pos hh.1] at h2
    cases h2
  rw [if_neg hno] at h2 e1 k4 e k3
  obtain ⟨h3, q2, e2, k5⟩ := word_inv hp h2
  rw [e1] at k3
  rw [e2] at k4
  refine ⟨h3, u, q, ?_, k1, k2, ?_⟩
  · show (({ p.1 with n := [(widthS b (wordS b [32] p.2)).1] } : Nd), (widthS b (wordS b [32] p.2)).2) = _
    unfold widthS
    rw [if_neg hno, e]
  · rw [numT_nat]
    have k6 := (k5.trans k4).trans k3
    have e3 : ([32] ++ kBitvec) ++ decDigits u = sBitvec ++ 32 :: decDigits u := rfl
    rw [e3] at k6
    exact k6
theorem take_run01 : ∀ (l : List UInt8), ∀ c ∈ l.take (runN isBit l), isBit c = true
  | [] => by simp
  | x :: r => by
    rw [runN_cons]
    split
    · rename_i h
      intro c hc
      rw [List.take_succ_cons] at hc
      rcases List.mem_cons.1 hc with rfl | hc
      · exact h.2
      · exact take_run01 r c hc
    · simp
theorem inv_b {b : List UInt8} {id : Int} {p : Nd × Rs} (hp : Pl b p.2) (h : (letS b id p 98).2.2 = 0) : p.2.2 = 0 ∧ ∃ (t : List UInt8) (q : Nat), letS b id p 98 = ({ p.1 with t := t }, ((q : Int), 0)) ∧ bitsOk t = true ∧ Rd b p.2.1 q (32 :: t) := by
  have h' : (bitsS b (wordS b [32] p.2)).2.2 = 0 := h
  have hw := wordS_pl (s := [32]) hp
  have h1 : (wordS b [32] p.2).2 = 0 := by
    by_cases hz : (wordS b [32] p.2).2 = 0
    · exact hz
    · unfold bitsS at h'
      rw [if_pos hz] at h'
      exact absurd h' hz
  obtain ⟨h2, i, e1, k1⟩ := word_inv hp h1
  rw [e1] at hw
  have hil : i ≤ b.length := k1.1
  have h3 : (onesR b (i : Int) 128).2.2 = 0 := by
    by_cases hz : (onesR b (i : Int) 128).2.2 = 0
    · exact hz
    · unfold bitsS at h'
      rw [e1, if_neg (by simp), if_pos hz] at h'
      unfold failS at h'
      rw [if_pos rfl] at h'
      exact absurd h' hz
  have hrl := runN_le isBit (b.drop i)
  rw [List.length_drop] at hrl
  have h4 : runN isBit (b.drop i) ≠ 0 ∧ runN isBit (b.drop i) ≤ 128 ∧ onesR b (i : Int) 128 = ((b.drop i).take (runN isBit (b.drop i)), ((i + runN isBit (b.drop i) : Nat) : Int), 0) := by
    unfold onesR at h3 ⊢
    rw [if_neg (not_not_intro ⟨by omega, by omega⟩), Int.toNat_natCast] at h3 ⊢
    split at h3
    · cases h3
    · rename_i z1
      split at h3
      · cases h3
      · rename_i z2
        rw [if_neg z1, if_neg z2]
        exact ⟨z1, by omega, by simp⟩
  obtain ⟨z1, z2, z3⟩ := h4
  refine ⟨h2, (b.drop i).take (runN isBit (b.drop i)), i + runN isBit (b.drop i), ?_, ?_, ?_⟩
  · show (({ p.1 with t := (bitsS b (wordS b [32] p.2)).1 } : Nd), (bitsS b (wordS b [32] p.2)).2) = _
    unfold bitsS
    simp only [e1, z3]
    rw [if_neg (by simp), if_neg (by simp)]
  · unfold bitsOk
    rw [Bool.and_eq_true, decide_eq_true_eq, List.all_eq_true, List.length_take, List.length_drop]
    exact ⟨by omega, take_run01 _⟩
  · refine k1.trans (t := (b.drop i).take (runN isBit (b.drop i))) ⟨by omega, ?_⟩
    rw [Int.toNat_natCast, ← List.drop_drop, List.take_append_drop]
theorem drop_tw {α : Type} (p : α → Bool) : ∀ l : List α, l.drop (l.takeWhile p).length = l.dropWhile p
  | [] => rfl
  | x :: r => by
    rw [List.takeWhile_cons, List.dropWhile_cons]
    split
    · rw [List.length_cons, List.drop_succ_cons]
      exact drop_tw p r
    · rfl
theorem inv_m {b : List UInt8} {id : Int} {p : Nd × Rs} (hp : Pl b p.2) (h : (letS b id p 109).2.2 = 0) : p.2.2 = 0 ∧ ∃ (t : List UInt8) (q : Nat), letS b id p 109 = ({ p.1 with t := t }, ((q : Int), 0)) ∧ (t = [] ∨ nameOk t = true) ∧ Rd b p.2.1 q (if t = [] then [] else 32 :: t) := by
  have h' : (nameS b p.2).2.2 = 0 := h
  have h1 : p.2.2 = 0 := by
    by_cases hz : p.2.2 = 0
    · exact hz
    · unfold nameS at h'
      rw [if_pos hz] at h'
      exact absurd h' hz
  refine ⟨h1, ?_⟩
  obtain ⟨i, hi⟩ : ∃ i : Nat, p.2.1 = i := ⟨p.2.1.toNat, by have := hp.1; omega⟩
  have hil : i ≤ b.length := by have := hp.2.1; omega
  have goal : ∀ t q, nameS b p.2 = (t, ((q : Int), 0)) → letS b id p 109 = ({ p.1 with t := t }, ((q : Int), 0)) := by
    intro t q e
    show (({ p.1 with t := (nameS b p.2).1 } : Nd), (nameS b p.2).2) = _
    rw [e]
  cases hs : isAt b p.2.1 [32] with
  | false =>
    refine ⟨[], i, goal _ _ ?_, .inl rfl, hil, ?_⟩
    · unfold nameS
      rw [if_neg (not_not_intro h1), if_pos hs]
      rw [← hi, ← h1]
    · rw [if_pos rfl, hi, Int.toNat_natCast]
      rfl
  | true =>
    rw [hi] at hs
    obtain ⟨k1, k2, k3⟩ := isAt_inv hs
    have e1 : isTo b p.2.1 [32] = ((i + 1 : Nat) : Int) := by rw [hi]; exact k2
    have k1 : i + 1 ≤ b.length := k1
    have hz : (nameR b ((i + 1 : Nat) : Int)).2.2 = 0 := by
      by_cases hz : (nameR b ((i + 1 : Nat) : Int)).2.2 = 0
      · exact hz
      · unfold nameS at h'
        rw [if_neg (not_not_intro h1), if_neg (by rw [hi, hs]; simp), e1, if_pos hz] at h'
        exact absurd h' hz
    have hll : (lineR b ((i + 1 : Nat) : Int)).length ≤ (b.drop (i + 1)).length := by
      unfold lineR
      rw [Int.toNat_natCast]
      exact (List.takeWhile_sublist _).length_le
    rw [List.length_drop] at hll
    have hk : nameOk (lineR b ((i + 1 : Nat) : Int)) = true ∧ nameR b ((i + 1 : Nat) : Int) = (lineR b ((i + 1 : Nat) : Int), ((i + 1 + (lineR b ((i + 1 : Nat) : Int)).length : Nat) : Int), 0) := by
      unfold nameR at hz ⊢
      rw [if_neg (not_not_intro ⟨by omega, by omega⟩)] at hz ⊢
      split at hz
      · cases hz
      · rename_i z1
        rw [if_neg z1]
        exact ⟨by simpa using z1, by simp⟩
    refine ⟨lineR b ((i + 1 : Nat) : Int), i + 1 + (lineR b ((i + 1 : Nat) : Int)).length, goal _ _ ?_, .inr hk.1, ?_⟩
    · unfold nameS
      rw [if_neg (not_not_intro h1), if_neg (by rw [hi, hs]; simp), e1, hk.2]
      rw [if_neg (by simp)]
    · rw [if_neg (nameOk_ne hk.1), hi]
      refine Rd.trans (s := [32]) (q := i + 1) (t := lineR b ((i + 1 : Nat) : Int)) ⟨k1, by rw [Int.toNat_natCast]; exact k3⟩ ⟨by omega, ?_⟩
      rw [Int.toNat_natCast]
      unfold lineR
      rw [Int.toNat_natCast]
      have e := List.takeWhile_append_dropWhile (p := fun c => decide (c ≠ (10 : UInt8))) (l := b.drop (i + 1))
      have e2 := drop_tw (fun c => decide (c ≠ (10 : UInt8))) (b.drop (i + 1))
      rw [List.drop_drop] at e2
      rw [e2, e]
end Go.Proofs.YtjjlipbddlignaaGreatDoor
namespace Go.Proofs.YtjjlipbddlignaaGreatDoor
open Go Ab Go.Lib
set_option maxRecDepth 100000
set_option linter.unusedVariables false
set_option linter.unusedSimpArgs false

theorem nodeB_mk {id : Int} {x : Nd} (h1 : (formR x.op).2 = true) (h2 : sOk (frm x.op) id x.s = true) (h3 : tOk (frm x.op) x.t = true) (h4 : aOk (frm x.op) id x.a = true) (h5 : nOk (frm x.op) x.n = true) : nodeB id x = true := by
  unfold nodeB
  rw [h1, h2, h3, h4, h5]
  rfl
theorem form_inv {b : List UInt8} {id : Int} {op : List UInt8} {st : Rs} (hf : (formR op).2 = true) (hp : Pl b st) (h : ((frm op).foldl (letS b id) (⟨op, 0, [], [], []⟩, st)).2.2 = 0) :
    st.2 = 0 ∧ ∃ (x : Nd) (q : Nat), (frm op).foldl (letS b id) (⟨op, 0, [], [], []⟩, st) = (x, ((q : Int), 0)) ∧ x.op = op ∧ nodeB id x = true ∧ Rd b st.1 q (fT x (frm op) x.a x.n) := by
  have hmk : ∀ (x : Nd) (q : Nat), x.op = op → sOk (frm op) id x.s = true → tOk (frm op) x.t = true → aOk (frm op) id x.a = true → nOk (frm op) x.n = true → Rd b st.1 q (fT x (frm op) x.a x.n) → x.op = op ∧ nodeB id x = true ∧ Rd b st.1 q (fT x (frm op) x.a x.n) := by
    intro x q e k2 k3 k4 k5 k6
    refine ⟨e, nodeB_mk (by rw [e]; exact hf) ?_ ?_ ?_ ?_, k6⟩ <;> rw [e] <;> assumption
  generalize hfr : frm op = f at h hmk ⊢
  have hc : f = [119] ∨ f = [115, 98] ∨ f = [115, 109] ∨ f = [97] ∨ f = [115, 97] ∨ f = [115, 97, 97] ∨ f = [115, 97, 97, 97] ∨ f = [115, 97, 110, 110] ∨ f = [115, 97, 110] := by
    rcases form_cases op with ⟨e, _⟩ | ⟨_, e⟩
    · rw [e] at hf
      cases hf
    · rw [hfr] at e
      exact e
  clear hfr
  rcases hc with rfl | rfl | rfl | rfl | rfl | rfl | rfl | rfl | rfl
  all_goals simp only [List.foldl_cons, List.foldl_nil] at h ⊢
  · obtain ⟨z, s, q, e, k1, k2, k3⟩ := inv_w hp h
    exact ⟨z, _, q, e, hmk _ q rfl rfl rfl rfl (by simp [nOk, k1, k2]) (by simpa [fT] using k3)⟩
  · obtain ⟨z1, t, q2, e2, k4, k5⟩ := inv_b (letS_pl hp) h
    obtain ⟨z, s, q, e, k1, k2, k3⟩ := inv_s hp z1
    rw [e] at e2 k5 ⊢
    exact ⟨z, _, q2, e2, hmk _ q2 rfl (by simp [sOk, k1, k2]) (by simpa [tOk] using k4) rfl rfl (by simpa [fT] using k3.trans k5)⟩
  · obtain ⟨z1, t, q2, e2, k4, k5⟩ := inv_m (letS_pl hp) h
    obtain ⟨z, s, q, e, k1, k2, k3⟩ := inv_s hp z1
    rw [e] at e2 k5 ⊢
    exact ⟨z, _, q2, e2, hmk _ q2 rfl (by simp [sOk, k1, k2]) (by simpa [tOk] using k4) rfl rfl (by simpa [fT] using k3.trans k5)⟩
  · obtain ⟨z, s, q, e, k1, k2, k3⟩ := inv_a hp h
    exact ⟨z, _, q, e, hmk _ q rfl rfl rfl (by simp [aOk, k1, k2]) rfl (by simpa [fT] using k3)⟩
  · obtain ⟨z1, t, q2, e2, k4, k4', k5⟩ := inv_a (letS_pl hp) h
    obtain ⟨z, s, q, e, k1, k2, k3⟩ := inv_s hp z1
    rw [e] at e2 k5 ⊢
    exact ⟨z, _, q2, e2, hmk _ q2 rfl (by simp [sOk, k1, k2]) rfl (by simp [aOk, k4, k4']) rfl (by simpa [fT] using k3.trans k5)⟩
  · obtain ⟨z2, u, q3, e3, k6, k6', k7⟩ := inv_a (letS_pl (letS_pl hp)) h
    obtain ⟨z1, t, q2, e2, k4, k4', k5⟩ := inv_a (letS_pl hp) z2
    obtain ⟨z, s, q, e, k1, k2, k3⟩ := inv_s hp z1
    rw [e] at e2 e3 k5 k7 ⊢
    rw [e2] at e3 k7 ⊢
    exact ⟨z, _, q3, e3, hmk _ q3 rfl (by simp [sOk, k1, k2]) rfl (by simp [aOk, k4, k4', k6, k6']) rfl (by simpa [fT] using (k3.trans k5).trans k7)⟩
  · obtain ⟨z3, v, q4, e4, k8, k8', k9⟩ := inv_a (letS_pl (letS_pl (letS_pl hp))) h
    obtain ⟨z2, u, q3, e3, k6, k6', k7⟩ := inv_a (letS_pl (letS_pl hp)) z3
    obtain ⟨z1, t, q2, e2, k4, k4', k5⟩ := inv_a (letS_pl hp) z2
    obtain ⟨z, s, q, e, k1, k2, k3⟩ := inv_s hp z1
    rw [e] at e2 e3 e4 k5 k7 k9 ⊢
    rw [e2] at e3 e4 k7 k9 ⊢
    rw [e3] at e4 k9 ⊢
    exact ⟨z, _, q4, e4, hmk _ q4 rfl (by simp [sOk, k1, k2]) rfl (by simp [aOk, k4, k4', k6, k6', k8, k8']) rfl (by simpa [fT] using ((k3.trans k5).trans k7).trans k9)⟩
  · obtain ⟨z3, v, q4, e4, k8, k8', k9⟩ := inv_n (letS_pl (letS_pl (letS_pl hp))) h
    obtain ⟨z2, u, q3, e3, k6, k6', k7⟩ := inv_n (letS_pl (letS_pl hp)) z3
    obtain ⟨z1, t, q2, e2, k4, k4', k5⟩ := inv_a (letS_pl hp) z2
    obtain ⟨z, s, q, e, k1, k2, k3⟩ := inv_s hp z1
    rw [e] at e2 e3 e4 k5 k7 k9 ⊢
    rw [e2] at e3 e4 k7 k9 ⊢
    rw [e3] at e4 k9 ⊢
    exact ⟨z, _, q4, e4, hmk _ q4 rfl (by simp [sOk, k1, k2]) rfl (by simp [aOk, k4, k4']) (by simp [nOk, k6, k6', k8, k8']) (by simpa [fT] using ((k3.trans k5).trans k7).trans k9)⟩
  · obtain ⟨z2, u, q3, e3, k6, k6', k7⟩ := inv_n (letS_pl (letS_pl hp)) h
    obtain ⟨z1, t, q2, e2, k4, k4', k5⟩ := inv_a (letS_pl hp) z2
    obtain ⟨z, s, q, e, k1, k2, k3⟩ := inv_s hp z1
    rw [e] at e2 e3 k5 k7 ⊢
    rw [e2] at e3 k7 ⊢
    exact ⟨z, _, q3, e3, hmk _ q3 rfl (by simp [sOk, k1, k2]) rfl (by simp [aOk, k4, k4']) (by simp [nOk, k6, k6']) (by simpa [fT] using (k3.trans k5).trans k7)⟩
theorem fold_err {b : List UInt8} {id : Int} : ∀ (f : List UInt8) (p : Nd × Rs), (∀ c ∈ f, ∀ q : Nd × Rs, q.2.2 ≠ 0 → (letS b id q c).2.2 ≠ 0) → p.2.2 ≠ 0 → (f.foldl (letS b id) p).2.2 ≠ 0
  | [], _, _, h => h
  | c :: f, p, hc, h => fold_err f _ (fun d hd => hc d (List.mem_cons_of_mem _ hd)) (hc c List.mem_cons_self p h)
theorem op_inv {b : List UInt8} {st : Rs} (hp : Pl b st) (h : (opS b st).2.2.2 = 0) : st.2 = 0 ∧ ∃ (op : List UInt8) (q : Nat), opS b st = (op, frm op, ((q : Int), 0)) ∧ (formR op).2 = true ∧ Rd b st.1 q op := by
  have h1 : st.2 = 0 := by
    by_cases hz : st.2 = 0
    · exact hz
    · unfold opS at h
      rw [if_pos hz] at h
      exact h
  refine ⟨h1, letsR b st.1, ?_⟩
  unfold opS at h ⊢
  rw [if_neg (not_not_intro h1)] at h ⊢
  simp only at h ⊢
  have hw : Pl b (if letsR b st.1 = [] then failS 2 st else if (formR (letsR b st.1)).2 = false then failS 9 st else st) := by
    split
    · exact failS_pl hp (.inl rfl)
    · split
      · exact failS_pl hp (.inr (.inr rfl))
      · exact hp
  obtain ⟨h2, q, e, k⟩ := word_inv hw h
  have n1 : ¬ letsR b st.1 = [] := by
    intro e
    rw [if_pos e] at h2
    unfold failS at h2
    rw [if_pos h1] at h2
    cases h2
  have n2 : ¬ (formR (letsR b st.1)).2 = false := by
    intro e
    rw [if_neg n1, if_pos e] at h2
    unfold failS at h2
    rw [if_pos h1] at h2
    cases h2
  rw [if_neg n1, if_neg n2] at e k ⊢
  exact ⟨q, by rw [e], by simpa using n2, k⟩
theorem node_inv {b : List UInt8} {id : Int} {st : Rs} (hp : Pl b st) (h : (nodeS b id st).2.2 = 0) : st.2 = 0 ∧ ∃ (x : Nd) (q : Nat), nodeS b id st = (x, ((q : Int), 0)) ∧ nodeB id x = true ∧ Rd b st.1 q (nodeT id x) := by
  unfold nodeS at h ⊢
  simp only at h ⊢
  obtain ⟨z1, q5, e5, k5⟩ := word_inv (fold_pl _ _ (opS_pl (wordS_pl hp))) h
  have hof : (opS b (wordS b (tItoa id ++ [32]) st)).2.2.2 = 0 ∧ ((opS b (wordS b (tItoa id ++ [32]) st)).2.2.2 = 0 → True) := by
    by_cases hz : (opS b (wordS b (tItoa id ++ [32]) st)).2.2.2 = 0
    · exact ⟨hz, fun _ => trivial⟩
    · exfalso
      refine fold_err _ _ ?_ hz z1
      intro c _ q hq hh
      have hw : (if c = 109 then q.2 else wordS b [32] q.2).2 ≠ 0 := by
        split
        · exact hq
        · unfold wordS
          rw [if_pos hq]
          exact hq
      revert hh
      unfold letS
      generalize (if c = 109 then q.2 else wordS b [32] q.2) = s2 at hw ⊢
      simp only [apply_ite Prod.snd]
      have e1 : ∀ l m, (numS b l m s2).2 = s2 := fun l m => by unfold numS; rw [if_pos hw]
      have e2 : (bitsS b s2).2 = s2 := by unfold bitsS; rw [if_pos hw]
      have e3 : (nameS b s2).2 = s2 := by unfold nameS; rw [if_pos hw]
      have e4 : (widthS b s2).2 = s2 := by
        unfold widthS
        rw [if_neg (fun hh => hw hh.1)]
        have e5 : wordS b kBitvec s2 = s2 := by unfold wordS; rw [if_pos hw]
        rw [e5, e1]
      rw [e1, e1, e2, e3, e4]
      simp only [ite_self]
      exact hw
  obtain ⟨z2, op, q2, e2, k6, k2⟩ := op_inv (wordS_pl hp) hof.1
  obtain ⟨z3, q1, e1, k1⟩ := word_inv hp z2
  rw [e1] at k2
  have hp2 : Pl b ((q2 : Int), 0) := by
    have := opS_pl (wordS_pl (s := tItoa id ++ [32]) hp)
    rw [e2] at this
    exact this
  rw [e2] at z1 e5 k5 ⊢
  simp only at z1 e5 k5 ⊢
  obtain ⟨-, x, q3, e3, rfl, k7, k3⟩ := form_inv k6 hp2 z1
  rw [e3] at e5 k5 ⊢
  refine ⟨z3, x, q5, ?_, k7, ?_⟩
  · simp only
    rw [e5]
  · rw [nodeT_form k7]
    have := ((k1.trans k2).trans k3).trans k5
    simpa using this
theorem par_inv0 {b : List UInt8} : ∀ (f : Nat) (out : List Nd) (st : Rs), Pl b st → st.2 = 0 → out.length ≤ 5000 → (parS b f out st).2.2 = 0 → ∃ l : List Nd, parS b f out st = (out ++ l, ((b.length : Int), 0)) ∧ rightFrom out.length l = true ∧ out.length + l.length ≤ 5000 ∧ b.drop st.1.toNat = textFrom out.length l
  | 0, out, st, _, _, _, h => by
    rw [parS] at h
    cases h
  | f + 1, out, st, hp, h0, hl, h => by
    rw [parS] at h ⊢
    by_cases hc : st.2 = 0 ∧ st.1 < b.length
    · rw [if_pos hc] at h ⊢
      by_cases h5 : out.length = 5000
      · rw [if_pos h5] at h
        cases h
      · rw [if_neg h5] at h ⊢
        by_cases hz : (nodeS b ((out.length : Int) + 1) st).2.2 = 0
        · obtain ⟨-, x, q, e, k1, k2⟩ := node_inv hp hz
          rw [e] at h ⊢
          simp only at h ⊢
          have hpl : Pl b ((q : Int), 0) := by
            have := nodeS_pl (id := (out.length : Int) + 1) hp
            rw [e] at this
            exact this
          have ho : (out ++ [x]).length = out.length + 1 := by simp
          obtain ⟨l, i1, i2, i3, i4⟩ := par_inv0 f (out ++ [x]) ((q : Int), 0) hpl rfl (by rw [ho]; omega) h
          rw [ho] at i2 i3 i4
          refine ⟨x :: l, by rw [i1, List.append_assoc]; rfl, ?_, by rw [List.length_cons]; omega, ?_⟩
          · rw [rightFrom, k1, i2]
            rfl
          · rw [k2.2, textFrom]
            rw [Int.toNat_natCast] at i4
            rw [i4]
        · exfalso
          revert h
          generalize nodeS b ((out.length : Int) + 1) st = q at hz
          cases f with
          | zero => 
            rw [parS]
            intro h
            cases h
          | succ f =>
            rw [parS, if_neg (fun hh => hz hh.1)]
            exact hz
    · rw [if_neg hc] at h ⊢
      have hlt : ¬ st.1 < b.length := fun e => hc ⟨h0, e⟩
      have h1 := hp.2.1
      have e : st.1 = b.length := by omega
      refine ⟨[], ?_, rfl, by simpa using hl, ?_⟩
      · rw [List.append_nil, ← e, ← h0]
      · rw [e, Int.toNat_natCast, List.drop_length]
        rfl
/-- What is parsed was printed. -/
theorem par_inv {b : List UInt8} (h : (parM b).2.2 = 0) : rightM (parM b).1 = true ∧ b = textM (parM b).1 ∧ (parM b).2.1 = b.length := by
  unfold parM at h ⊢
  split at h
  · cases h
  · rename_i h1
    rw [if_neg h1]
    split at h
    · rename_i h2
      exact absurd h h2
    · rename_i h2
      rw [if_neg h2]
      simp only [ne_eq, Decidable.not_not] at h2
      obtain ⟨l, i1, i2, i3, i4⟩ := par_inv0 (b := b) (b.length + 1) [] (0, 0) ⟨Int.le_refl _, by simp only; omega, .inl rfl⟩ rfl (Nat.zero_le _) h2
      rw [i1]
      refine ⟨?_, i4, rfl⟩
      unfold rightM
      rw [Bool.and_eq_true, decide_eq_true_eq]
      exact ⟨i2, by simpa using i3⟩
end Go.Proofs.YtjjlipbddlignaaGreatDoor
