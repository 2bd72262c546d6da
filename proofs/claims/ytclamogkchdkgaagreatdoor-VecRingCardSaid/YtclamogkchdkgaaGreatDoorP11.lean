/- A part of the proof: S1, S2, V9, V10, Ab51, V11, V12, V13, V14, R1, R2, R3, S3, L1. -/
import Derived.Test.YtclamogkchdkgaaGreatDoorP10
import Derived.Laws.Strings
set_option linter.unusedVariables false
set_option linter.unusedSimpArgs false
namespace Go.Proofs.YtclamogkchdkgaaGreatDoor
open Go Ab
set_option maxRecDepth 100000
set_option linter.unusedVariables false
set_option linter.unusedSimpArgs false

/-! ### strings.Trim, of noughts and ones -/
def set01 : List AV := (List.range 256).map fun i => vB (i == 48 || i == 49)
def is01 (c : UInt8) : Bool := c.toNat == 48 || c.toNat == 49
theorem set01_at {i : Nat} (h : i < 256) : nth set01 i = some (vB (i == 48 || i == 49)) := by
  rw [nth_eq, set01, List.getElem?_map, List.getElem?_range h]
  rfl
@[reducible] def sO : AObj := .cells 98 set01
@[reducible] def vSL (l : List UInt8) : AV := vS ⟨l.toArray⟩

theorem contains_call (c : UInt8) : ACall Tryz.prog 108 [.ptr 0 0, vI .u8 (c.toNat : Int)] [some sO] (fun r o => r = vB (is01 c) ∧ o = [some sO]) := by
  refine acall_enter Tryz.func108 rfl rfl (Nat.le_of_ble_eq_true rfl) fun C hC hCl => ?_
  have hc : c.toNat < 256 := c.toNat_lt
  refine sat_steps 9 tabOk Tryz.func108 rfl trivial ?_
  refine sat_pure (.ptr 0 (0 + c.toNat * 1)) tabOk rfl rfl (by exact pIndexAddr_arr (T := tab) (t := 98) (e := 4) (objs := [some sO]) (j := 0) (off := 0) (i := c.toNat) (ki := .u8) (by rfl) (by rfl) (by rfl) hc) rfl ?_
  refine sat_pure (vB (is01 c)) tabOk rfl rfl (by exact pLoad_arr (T := tab) (t := 4) (objs := [some sO]) (j := 0) (off := 0 + c.toNat * 1) (by rfl) (by rfl) (by rfl) (by rw [Nat.zero_add, Nat.mul_one]; exact set01_at hc)) rfl ?_
  exact sat_retL tabOk Tryz.func108 rfl trivial hC hCl (.refl _) (o2 := [some sO]) ⟨.refl _, trivial⟩ rfl rfl (Nat.le_refl _) ⟨rfl, rfl⟩

theorem bt_list (l : List UInt8) (i : Nat) : bt ⟨l.toArray⟩ i = ((l.getD i 0).toNat : Int) := by
  simp [bt]
theorem ext_list (l : List UInt8) (a b : Nat) : (⟨l.toArray⟩ : ByteArray).extract a b = ⟨((l.take b).drop a).toArray⟩ := by
  apply ByteArray.ext
  rw [ByteArray.data_extract]
  apply Array.ext'
  simp [List.drop_take]
theorem size_list (l : List UInt8) : (⟨l.toArray⟩ : ByteArray).size = l.length := by simp [ByteArray.size]
@[reducible] def trE (l t : List UInt8) : Prop := t = [] ↔ ∀ c ∈ l, is01 c = true
theorem trimR_call (l : List UInt8) (hl : l.length ≤ 1000000000) : ACall Tryz.prog 58 [vSL l, .ptr 0 0] [some sO] (fun r o => ∃ t, r = vSL t ∧ t.length ≤ l.length ∧ (trE l t ∧ trE t t) ∧ o = [some sO]) := by
  refine acall_enter Tryz.func58 rfl rfl (Nat.le_of_ble_eq_true rfl) fun C hC hCl => ?_
  refine sat_stop tabOk Tryz.func58 rfl trivial ?_
  refine sat_while (α := Nat) (fun k => [(0, vSL (l.take k)), (1, .ptr 0 0)]) (fun k => [some sO]) (fun k => k ≤ l.length ∧ ∀ c ∈ l.drop k, is01 c = true) (fun k => k) l.length ⟨Nat.le_refl _, by simp⟩ ?_ ?_
  · refine fun h => sat_le h hC hCl ⟨⟨_, rfl, .of ?_⟩, ⟨_, rfl, .refl _⟩, trivial⟩ ⟨.refl _, trivial⟩ rfl rfl (Nat.le_refl _)
    rw [List.take_length]
  rintro k ⟨hk, hd⟩ ih
  have hsz : (⟨(l.take k).toArray⟩ : ByteArray).size = k := by rw [size_list, List.length_take]; omega
  refine sat_branch tabOk Tryz.func58 rfl trivial (fun hb => ?_) (fun hb => ?_) <;> rw [hsz] at hb <;> simp only [decide_eq_true_eq, decide_eq_false_iff_not] at hb
  · have e1 : IntKind.i64.wrap ((k : Int) - 1) = ((k - 1 : Nat) : Int) := by rw [wrap_id (by omega) (by omega)]; omega
    have ht : (l.take k).take (k - 1) = l.take (k - 1) := by rw [List.take_take, Nat.min_eq_left (by omega)]
    have hdk : l.drop (k - 1) = l.getD (k - 1) 0 :: l.drop k := by
      rw [List.drop_eq_getElem_cons (by omega)]
      simp [show k - 1 < l.length by omega, show k - 1 + 1 = k by omega]
    have hm : l.getD (k - 1) 0 ∈ l := by
      have : k - 1 < l.length := by omega
      simp [this]
    refine sat_callG [0] tabOk Tryz.func58 rfl ?_ (contains_call (l.getD (k - 1) 0)) ⟨⟨_, rfl, .refl _⟩, trivial⟩ ⟨.refl _, .of ?_, trivial⟩ rfl rfl rfl ⟨_, rfl⟩ ?_
    · simp only [hsz, e1, Int.toNat_natCast]
      refine ⟨⟨?_, ?_⟩, trivial⟩ <;> omega
    · show vI .u8 (bt ⟨(l.take k).toArray⟩ (IntKind.i64.wrap (((⟨(l.take k).toArray⟩ : ByteArray).size : Int) - 1)).toNat) = vI .u8 _
      simp only [hsz, e1, Int.toNat_natCast, bt_list]
      rw [show (l.take k).getD (k - 1) 0 = l.getD (k - 1) 0 by simp [List.getD_eq_getElem?_getD, List.getElem?_take, show k - 1 < k by omega]]
    rintro r o ⟨rfl, rfl⟩
    refine sat_branch tabOk Tryz.func58 rfl trivial (fun h => ?_) (fun h => ?_)
    · refine sat_retL tabOk Tryz.func58 rfl trivial hC hCl (.refl _) (o2 := [some sO]) ⟨.refl _, trivial⟩ rfl rfl (Nat.le_refl _) ⟨l.take k, rfl, ?_, ?_, rfl⟩
      · rw [List.length_take]; omega
      · have h : is01 (l.getD (k - 1) 0) = false := by cases e : is01 (l.getD (k - 1) 0) with | true => rw [e] at h; cases h | false => rfl
        have hmt : l.getD (k - 1) 0 ∈ l.take k := by
          refine List.mem_iff_getElem?.2 ⟨k - 1, ?_⟩
          simp [List.getElem?_take, show k - 1 < k by omega, show k - 1 < l.length by omega]
        have hne : l.take k ≠ [] := fun e => by rw [e] at hmt; cases hmt
        exact ⟨⟨fun e => absurd e hne, fun e => by rw [e _ hm] at h; cases h⟩, ⟨fun e => absurd e hne, fun e => by rw [e _ hmt] at h; cases h⟩⟩
    · refine sat_stop tabOk Tryz.func58 rfl ?_ ?_
      · simp only [hsz, e1, Int.toNat_natCast]
        refine ⟨⟨?_, ?_, ?_⟩, trivial⟩ <;> omega
      refine sat_le (ih (k - 1) ⟨by omega, ?_⟩ (by omega)) hC hCl ⟨⟨_, rfl, .of ?_⟩, ⟨_, rfl, .refl _⟩, trivial⟩ ⟨.refl _, trivial⟩ rfl rfl (Nat.le_refl _)
      · rw [hdk]
        intro c hc
        rcases List.mem_cons.1 hc with rfl | hc
        · simpa using h
        · exact hd c hc
      · show vS _ = vS _
        simp only [hsz, e1, Int.toNat_natCast]
        rw [ext_list, ht]; rfl
  · obtain rfl : k = 0 := by omega
    exact sat_retL tabOk Tryz.func58 rfl trivial hC hCl (.refl _) (o2 := [some sO]) ⟨.refl _, trivial⟩ rfl rfl (Nat.le_refl _) ⟨[], rfl, Nat.zero_le _, ⟨by simpa [trE] using hd, by simp [trE]⟩, rfl⟩
theorem trimL_call (l : List UInt8) (hl : l.length ≤ 1000000000) : ACall Tryz.prog 57 [vSL l, .ptr 0 0] [some sO] (fun r o => ∃ t, r = vSL t ∧ t.length ≤ l.length ∧ trE l t ∧ o = [some sO]) := by
  refine acall_enter Tryz.func57 rfl rfl (Nat.le_of_ble_eq_true rfl) fun C hC hCl => ?_
  refine sat_stop tabOk Tryz.func57 rfl trivial ?_
  refine sat_while (α := Nat) (fun k => [(0, vSL (l.drop k)), (1, .ptr 0 0)]) (fun k => [some sO]) (fun k => k ≤ l.length ∧ ∀ c ∈ l.take k, is01 c = true) (fun k => l.length - k) 0 ⟨Nat.zero_le _, by simp⟩ ?_ ?_
  · exact fun h => sat_le h hC hCl ⟨⟨_, rfl, .refl _⟩, ⟨_, rfl, .refl _⟩, trivial⟩ ⟨.refl _, trivial⟩ rfl rfl (Nat.le_refl _)
  rintro k ⟨hk, hd⟩ ih
  have hsz : (⟨(l.drop k).toArray⟩ : ByteArray).size = l.length - k := by rw [size_list, List.length_drop]
  refine sat_branch tabOk Tryz.func57 rfl trivial (fun hb => ?_) (fun hb => ?_) <;> rw [hsz] at hb <;> simp only [decide_eq_true_eq, decide_eq_false_iff_not] at hb
  · have hdk : l.take (k + 1) = l.take k ++ [l.getD k 0] := by
      rw [List.take_add_one]
      simp [show k < l.length by omega]
    have hm : l.getD k 0 ∈ l := by
      have : k < l.length := by omega
      simp [this]
    refine sat_callG [0] tabOk Tryz.func57 rfl ?_ (contains_call (l.getD k 0)) ⟨⟨_, rfl, .refl _⟩, trivial⟩ ⟨.refl _, .of ?_, trivial⟩ rfl rfl rfl ⟨_, rfl⟩ ?_
    · simp only [hsz]
      refine ⟨⟨?_, ?_⟩, trivial⟩ <;> omega
    · show vI .u8 (bt ⟨(l.drop k).toArray⟩ (0 : Int).toNat) = vI .u8 _
      rw [bt_list]
      rw [show (l.drop k).getD (0 : Int).toNat 0 = l.getD k 0 by simp [List.getD_eq_getElem?_getD]]
    rintro r o ⟨rfl, rfl⟩
    refine sat_branch tabOk Tryz.func57 rfl trivial (fun h => ?_) (fun h => ?_)
    · refine sat_retL tabOk Tryz.func57 rfl trivial hC hCl (.refl _) (o2 := [some sO]) ⟨.refl _, trivial⟩ rfl rfl (Nat.le_refl _) ⟨l.drop k, rfl, ?_, ?_, rfl⟩
      · rw [List.length_drop]; omega
      · have h : is01 (l.getD k 0) = false := by cases e : is01 (l.getD k 0) with | true => rw [e] at h; cases h | false => rfl
        constructor
        · intro e
          rw [e] at hsz
          simp [size_list] at hsz
          omega
        · intro e
          rw [e _ hm] at h
          cases h
    · refine sat_stop tabOk Tryz.func57 rfl ?_ ?_
      · simp only [hsz]
        refine ⟨⟨?_, ?_, ?_⟩, trivial⟩ <;> omega
      refine sat_le (ih (k + 1) ⟨by omega, ?_⟩ (by omega)) hC hCl ⟨⟨_, rfl, .of ?_⟩, ⟨_, rfl, .refl _⟩, trivial⟩ ⟨.refl _, trivial⟩ rfl rfl (Nat.le_refl _)
      · rw [hdk]
        intro c hc
        rcases List.mem_append.1 hc with hc | hc
        · exact hd c hc
        · rw [List.mem_singleton.1 hc]
          simpa using h
      · show vS _ = vS _
        simp only [hsz]
        rw [ext_list, List.take_of_length_le (by rw [List.length_drop]; omega), List.drop_drop]
        rfl
  · obtain rfl : k = l.length := by omega
    exact sat_retL tabOk Tryz.func57 rfl trivial hC hCl (.refl _) (o2 := [some sO]) ⟨.refl _, trivial⟩ rfl rfl (Nat.le_refl _) ⟨[], by rw [List.drop_length]; rfl, Nat.zero_le _, by simpa [trE] using hd, rfl⟩
def mk01 : Nat → List AV
  | 0 => List.replicate 256 (vB false)
  | 1 => (List.replicate 256 (vB false)).set 48 (vB true)
  | _ => set01
@[reducible] def mkI (i : Nat) : Env := [(0, vS ⟨#[48, 49]⟩), (2, .ptr 0 0), (4, vI .i64 i)]
@[reducible] def mkO (i : Nat) : List (Option AObj) := [some (.cells 98 (mk01 i))]
theorem make01_call : ACall Tryz.prog 56 [vS ⟨#[48, 49]⟩] [] (fun r o => r = tupOf [mkAg set01, vB true] ∧ o = []) := by
  refine acall_enter Tryz.func56 rfl rfl (Nat.le_of_ble_eq_true rfl) fun C hC hCl => ?_
  refine sat_stop tabOk Tryz.func56 rfl trivial ?_
  refine sat_loop1 (sat_le (env' := mkI 0) (objs' := mkO 0) ?_ hC hCl ⟨⟨_, rfl, .refl _⟩, ⟨_, rfl, .refl _⟩, ⟨_, rfl, .refl _⟩, trivial⟩ ⟨.of (by kernel_rfl), trivial⟩ rfl rfl (Nat.zero_le _))
  refine sat_branch tabOk Tryz.func56 rfl trivial (fun _ => ?_) (fun h => by cases h)
  refine sat_branch tabOk Tryz.func56 rfl ⟨⟨by decide, by decide⟩, trivial⟩ (fun h => by cases h) (fun _ => ?_)
  refine sat_stop tabOk Tryz.func56 rfl trivial ?_
  refine sat_in1 (sat_le (env' := mkI 1) (objs' := mkO 1) ?_ hC hCl ⟨⟨_, rfl, .refl _⟩, ⟨_, rfl, .refl _⟩, ⟨_, rfl, .of (by rw [wrap_id (by omega) (by omega)]; rfl)⟩, trivial⟩ ⟨.of (by kernel_rfl), trivial⟩ rfl rfl (Nat.zero_le _))
  refine sat_branch tabOk Tryz.func56 rfl trivial (fun _ => ?_) (fun h => by cases h)
  refine sat_branch tabOk Tryz.func56 rfl ⟨⟨by decide, by decide⟩, trivial⟩ (fun h => by cases h) (fun _ => ?_)
  refine sat_stop tabOk Tryz.func56 rfl trivial ?_
  refine sat_in1 (sat_le (env' := mkI 2) (objs' := mkO 2) ?_ hC hCl ⟨⟨_, rfl, .refl _⟩, ⟨_, rfl, .refl _⟩, ⟨_, rfl, .of (by rw [wrap_id (by omega) (by omega)]; rfl)⟩, trivial⟩ ⟨.of (by kernel_rfl), trivial⟩ rfl rfl (Nat.zero_le _))
  refine sat_branch tabOk Tryz.func56 rfl trivial (fun h => by cases h) (fun _ => ?_)
  exact sat_retL tabOk Tryz.func56 rfl trivial hC hCl (r2 := tupOf [mkAg set01, vB true]) (.of (by kernel_rfl)) (o2 := []) trivial rfl (by kernel_rfl) (Nat.zero_le _) ⟨rfl, rfl⟩
theorem eqE_list (l : List UInt8) : ((⟨l.toArray⟩ : ByteArray).toList == (⟨#[]⟩ : ByteArray).toList) = l.isEmpty := by
  rw [ByteArray.toList_mk, show (⟨#[]⟩ : ByteArray) = ⟨([] : List UInt8).toArray⟩ from rfl, ByteArray.toList_mk]
  cases l <;> rfl
theorem Trim01_call (l : List UInt8) (hl : l.length ≤ 1000000000) : ACall Tryz.prog 33 [vSL l, vS ⟨#[48, 49]⟩] [] (fun r o => ∃ t, r = vSL t ∧ trE l t) := by
  refine acall_enter Tryz.func33 rfl rfl (Nat.le_of_ble_eq_true rfl) fun C hC hCl => ?_
  refine sat_branch tabOk Tryz.func33 rfl trivial (fun h => ?_) (fun h => ?_) <;> rw [eqE_list] at h
  · cases l with | cons a l => simp at h | nil =>
    refine sat_branch tabOk Tryz.func33 rfl trivial (fun _ => ?_) (fun h => by cases h)
    exact sat_ret tabOk Tryz.func33 rfl trivial ⟨[], rfl, by simp [trE]⟩
  refine sat_branch tabOk Tryz.func33 rfl trivial (fun h => ?_) (fun _ => ?_)
  · rw [show (⟨#[48, 49]⟩ : ByteArray) = ⟨([48, 49] : List UInt8).toArray⟩ from rfl, eqE_list] at h
    cases h
  refine sat_branch tabOk Tryz.func33 rfl trivial (fun h => absurd h (by decide)) (fun _ => ?_)
  refine sat_branch tabOk Tryz.func33 rfl trivial (fun h => absurd h (by decide)) (fun _ => ?_)
  refine sat_callG [] tabOk Tryz.func33 rfl trivial make01_call trivial (.refl _) rfl rfl rfl ⟨_, rfl⟩ ?_
  rintro r o ⟨rfl, rfl⟩
  refine sat_branch tabOk Tryz.func33 rfl trivial (fun _ => ?_) (fun h => by cases h)
  refine sat_callG [0] tabOk Tryz.func33 rfl trivial (trimR_call l hl) ⟨⟨_, rfl, .of (by kernel_rfl)⟩, trivial⟩ (.refl _) rfl rfl rfl ⟨_, rfl⟩ ?_
  rintro r o ⟨t, rfl, ht1, ⟨ht2, ht3⟩, rfl⟩
  refine sat_callG [0] tabOk Tryz.func33 rfl trivial (trimL_call t (by omega)) ⟨⟨_, rfl, .refl _⟩, trivial⟩ (.refl _) rfl rfl rfl ⟨_, rfl⟩ ?_
  rintro r o ⟨u, rfl, hu1, hu2, rfl⟩
  refine sat_retL tabOk Tryz.func33 rfl trivial hC hCl (.refl _) (o2 := []) trivial rfl rfl (Nat.zero_le _) ⟨u, rfl, ?_⟩
  exact ⟨fun e => ht2.1 (ht3.2 (hu2.1 e)), fun e => hu2.2 (ht3.1 (ht2.2 e))⟩
end Go.Proofs.YtclamogkchdkgaaGreatDoor
namespace Go.Proofs.YtclamogkchdkgaaGreatDoor
open Go Ab
set_option maxRecDepth 100000
set_option linter.unusedVariables false
set_option linter.unusedSimpArgs false

/-! ### Make -/
@[reducible] def vN (w x : Nat) : D := eV w (lmb (limbsN w) x)
@[reducible] def z24 : D := .ag [eI 0, .v (.slice none 0 0)]
/-- A string's number: its last byte is bit 0. -/
def mkN (l : List UInt8) : Nat := ofB (fun i => (l.getD (l.length - 1 - i) 0).toNat == 49) l.length
def mkok (l : List UInt8) : Bool := decide (1 ≤ l.length) && decide (l.length ≤ 128) && l.all is01
def mkR (l : List UInt8) : AV := if mkok l then tupOf [.d (vN l.length (mkN l)), vI .i64 0] else tupOf [.d z24, vI .i64 2]
def mkB (l : List UInt8) (i : Nat) : Nat := ofB (fun i => (l.getD (l.length - 1 - i) 0).toNat == 49) i
theorem mkB_t (l : List UInt8) (i : Nat) (h : (l.getD (l.length - 1 - i) 0).toNat = 49) : mkB l (i + 1) = mkB l i ||| 2 ^ i := by
  have hlt : mkB l i < 2 ^ i := ofB_lt _ _
  have := Nat.two_pow_add_eq_or_of_lt hlt 1
  rw [Nat.mul_one] at this
  rw [Nat.or_comm, ← this, Nat.add_comm (2 ^ i)]
  show ofB _ _ + _ = _
  rw [if_pos (show ((l.getD (l.length - 1 - i) 0).toNat == 49) = true by rw [h]; rfl)]
  rfl
theorem mkB_f (l : List UInt8) (i : Nat) (h : ¬ (l.getD (l.length - 1 - i) 0).toNat = 49) : mkB l (i + 1) = mkB l i := by
  show ofB _ _ + _ = _
  rw [if_neg (by simpa using h), Nat.add_zero]
  rfl

theorem Make_call (l : List UInt8) (hl : l.length ≤ 1000000000) : ACall Tryz.prog 12 [vSL l] [] (fun r o => r = mkR l) := by
  refine acall_enter Tryz.func12 rfl rfl (Nat.le_of_ble_eq_true rfl) fun C hC hCl => ?_
  refine sat_branch tabOk Tryz.func12 rfl trivial (fun h => ?_) (fun h => ?_)
  · rw [eqE_list] at h
    cases l with | cons a l => simp at h | nil =>
    refine sat_branch tabOk Tryz.func12 rfl trivial (fun _ => ?_) (fun h => by cases h)
    refine sat_branch tabOk Tryz.func12 rfl trivial (fun _ => ?_) (fun h => by cases h)
    exact sat_ret tabOk Tryz.func12 rfl trivial rfl
  · rw [eqE_list] at h
    refine sat_branch tabOk Tryz.func12 rfl trivial (fun h2 => ?_) (fun h2 => ?_)
    · refine sat_branch tabOk Tryz.func12 rfl trivial (fun _ => ?_) (fun h => by cases h)
      refine sat_ret tabOk Tryz.func12 rfl trivial ?_
      rw [size_list, decide_eq_true_eq] at h2
      rw [mkR, if_neg (by simp only [mkok, Bool.and_eq_true, decide_eq_true_eq]; omega)]
      rfl
    · refine sat_call tabOk Tryz.func12 rfl trivial (Trim01_call l hl) (.refl _) rfl ⟨_, rfl⟩ (by rintro r o ⟨t, rfl, -⟩; rfl) ?_
      rintro r o ⟨t, rfl, ht⟩
      refine sat_branch tabOk Tryz.func12 rfl trivial (fun h3 => ?_) (fun h3 => ?_)
      · refine sat_ret tabOk Tryz.func12 rfl trivial ?_
        rw [mkR, if_neg]
        · rfl
        · intro hk
          simp only [mkok, Bool.and_eq_true, decide_eq_true_eq, List.all_eq_true] at hk
          rw [ht.2 hk.2] at h3
          rw [eqE_list] at h3
          cases h3
      refine sat_callG [] tabOk Tryz.func12 rfl trivial (none_call l.length (by rw [size_list, decide_eq_false_iff_not] at h2; omega)) trivial (.refl _) rfl rfl rfl ⟨_, rfl⟩ ?_
      rintro r o ⟨rfl, rfl⟩
      refine sat_stop tabOk Tryz.func12 rfl trivial ?_
      have hsz : (⟨l.toArray⟩ : ByteArray).size = l.length := size_list l
      rw [hsz] at h2
      have hlen : 1 ≤ l.length ∧ l.length ≤ 128 := by
        cases l with | nil => simp at h | cons a l => simp only [decide_eq_false_iff_not] at h2; exact ⟨by simp, by omega⟩
      have hall : ∀ c ∈ l, is01 c = true := ht.1 (by
        rw [eqE_list] at h3
        cases t with | nil => rfl | cons a t => simp at h3)
      have hok : mkok l = true := by
        simp only [mkok, Bool.and_eq_true, decide_eq_true_eq, List.all_eq_true]
        exact ⟨hlen, hall⟩
      refine sat_while (α := Nat) (fun i => [(0, vSL l), (2, .ptr 0 0), (4, .ptr 3 0), (23, vI .i64 (l.length : Int)), (24, vI .i64 i)]) (fun i => [some zV, none, some (gUs (lmb (limbsN l.length) (mkB l i))), some (cV l.length 2)]) (fun i => i ≤ l.length) (fun i => l.length - i) 0 (Nat.zero_le _) ?_ ?_
      · refine fun h => sat_le h hC hCl ⟨⟨_, rfl, .refl _⟩, ⟨_, rfl, .refl _⟩, ⟨_, rfl, .refl _⟩, ⟨_, rfl, .of ?_⟩, ⟨_, rfl, .refl _⟩, trivial⟩ ⟨.refl _, .of (by rw [zero_lmb]; rfl), .refl _, trivial⟩ rfl rfl (Nat.zero_le _)
        show vI .i64 (((⟨l.toArray⟩ : ByteArray).size : Nat) : Int) = _
        rw [hsz]
      rintro i hi ih
      refine sat_branch tabOk Tryz.func12 rfl trivial (fun hb => ?_) (fun hb => ?_) <;> simp only [decide_eq_true_eq, decide_eq_false_iff_not] at hb
      · have e1 : IntKind.i64.wrap (IntKind.i64.wrap ((l.length : Int) - 1) - i) = ((l.length - 1 - i : Nat) : Int) := by
          rw [wrap_id (n := (l.length : Int) - 1) (by omega) (by omega), wrap_id (by omega) (by omega)]; omega
        refine sat_branch tabOk Tryz.func12 rfl ?_ (fun hb2 => ?_) (fun hb2 => ?_)
        · simp only [hsz, e1, Int.toNat_natCast]
          exact ⟨⟨by omega, by omega⟩, trivial⟩
        · have hb2 : (bt ⟨l.toArray⟩ (IntKind.i64.wrap (IntKind.i64.wrap (((⟨l.toArray⟩ : ByteArray).size : Int) - 1) - i)).toNat == 49) = true := hb2
          rw [hsz, e1, Int.toNat_natCast, bt_list] at hb2
          refine sat_callG [3, 2] tabOk Tryz.func12 rfl trivial (set_call l.length i (lmb (limbsN l.length) (mkB l i)) (lmb_lims _ _) (by rw [lmb_len]; exact limbs_at (by omega)) (by omega)) ⟨⟨_, rfl, .refl _⟩, ⟨_, rfl, .refl _⟩, trivial⟩ (.refl _) rfl rfl rfl ⟨_, rfl⟩ ?_
          rintro r o ⟨rfl, rfl⟩
          refine sat_stop tabOk Tryz.func12 rfl trivial ?_
          refine sat_le (ih (i + 1) (by omega) (by omega)) hC hCl ⟨⟨_, rfl, .refl _⟩, ⟨_, rfl, .refl _⟩, ⟨_, rfl, .refl _⟩, ⟨_, rfl, .refl _⟩, ⟨_, rfl, .of (by rw [wrap_id (by omega) (by omega)]; rfl)⟩, trivial⟩ ⟨.refl _, .of ?_, .refl _, trivial⟩ rfl rfl (Nat.zero_le _)
          rw [mkB_t l i (by have := eq_of_beq hb2; omega), setB_lmb (limbs_at (by omega))]; rfl
        · have hb2 : (bt ⟨l.toArray⟩ (IntKind.i64.wrap (IntKind.i64.wrap (((⟨l.toArray⟩ : ByteArray).size : Int) - 1) - i)).toNat == 49) = false := hb2
          rw [hsz, e1, Int.toNat_natCast, bt_list] at hb2
          refine sat_stop tabOk Tryz.func12 rfl trivial ?_
          refine sat_le (ih (i + 1) (by omega) (by omega)) hC hCl ⟨⟨_, rfl, .refl _⟩, ⟨_, rfl, .refl _⟩, ⟨_, rfl, .refl _⟩, ⟨_, rfl, .refl _⟩, ⟨_, rfl, .of (by rw [wrap_id (by omega) (by omega)]; rfl)⟩, trivial⟩ ⟨.refl _, .of ?_, .refl _, trivial⟩ rfl rfl (Nat.zero_le _)
          rw [mkB_f l i (fun e => by rw [e] at hb2; cases hb2)]
      · obtain rfl : i = l.length := by omega
        refine sat_freeze 2 rfl ?_
        refine sat_ret tabOk Tryz.func12 rfl trivial ?_
        rw [mkR, if_pos hok]
        rfl
end Go.Proofs.YtclamogkchdkgaaGreatDoor
namespace Go.Proofs.YtclamogkchdkgaaGreatDoor
open Go Ab
set_option maxRecDepth 100000
set_option linter.unusedVariables false
set_option linter.unusedSimpArgs false

/-! ### The functions told of numbers -/
def bitI' (w x : Nat) (i : Int) : Bool := decide (0 ≤ i) && decide (i < w) && x.testBit i.toNat
theorem bitV_lmb (w x : Nat) (i : Int) : bitV w (lmb (limbsN w) x) i = bitI' w x i := by
  simp only [bitV, bitI']
  by_cases h : 0 ≤ i ∧ i < w
  · rw [bitN_lmb (limbs_at (by omega))]
  · by_cases h1 : 0 ≤ i
    · simp [h1, show ¬ i < w by omega]
    · simp [h1]
theorem bitI'_nat {w x i : Nat} (h : i < w) : bitI' w x (i : Int) = x.testBit i := by
  simp [bitI', show (i : Int) < w by omega]
theorem BitN_call (w x : Nat) (i : Int) (hb : w ≤ 1000000) : ACall Tryz.prog 17 [.d (vN w x), vI .i64 i] [] (fun r o => r = vB (bitI' w x i)) := by
  have := Bit_call w (lmb (limbsN w) x) i (lmb_lims _ _) (by rw [lmb_len]; exact Nat.le_refl _) hb
  rwa [bitV_lmb] at this
theorem turnedN_call (w x : Nat) (hx : x < 2 ^ w) (hw : 0 < w) (hwb : w ≤ 1000000) : ACall Tryz.prog 63 [.d (vN w x)] [] (fun r o => r = .d (vN w (2 ^ w - (x + 1)))) := by
  have := turned_call w (lmb (limbsN w) x) (lmb_lims _ _) (lmb_len _ _) hw hwb
  rwa [not_lmb (lt_limbs hx), cut_lmb, notw hx] at this
theorem sumN_call (w x y c : Nat) (hw : 0 < w) (hwb : w ≤ 1000000) (hc : c ≤ 1) : ACall Tryz.prog 65 [.d (vN w x), .d (vN w y), vU c] [] (fun r o => r = .d (vN w ((x + y + c) % 2 ^ w))) := by
  have := sum_call w w (lmb (limbsN w) x) (lmb (limbsN w) y) c (lmb_lims _ _) (lmb_lims _ _) (lmb_len _ _) (lmb_len _ _) hw hwb hc
  rwa [sumR_lmb] at this
theorem modand {w x y : Nat} (hx : x < 2 ^ w) : (x &&& y) % 2 ^ w = x &&& y := Nat.mod_eq_of_lt (Nat.lt_of_le_of_lt Nat.and_le_left hx)
theorem andN_call (w x y : Nat) (hx : x < 2 ^ w) (hw : 0 < w) (hwb : w ≤ 1000000) : ACall Tryz.prog 76 [.d (vN w x), .d (vN w y)] [] (fun r o => r = .d (vN w (x &&& y))) := by
  have := and_call w w (lmb (limbsN w) x) (lmb (limbsN w) y) (lmb_lims _ _) (lmb_lims _ _) (lmb_len _ _) (lmb_len _ _) hw hwb
  rwa [and_lmb, cut_lmb, modand hx] at this
theorem orN_call (w x y : Nat) (hx : x < 2 ^ w) (hy : y < 2 ^ w) (hw : 0 < w) (hwb : w ≤ 1000000) : ACall Tryz.prog 79 [.d (vN w x), .d (vN w y)] [] (fun r o => r = .d (vN w (x ||| y))) := by
  have := or_call w w (lmb (limbsN w) x) (lmb (limbsN w) y) (lmb_lims _ _) (lmb_lims _ _) (lmb_len _ _) (lmb_len _ _) hw hwb
  rwa [or_lmb, cut_lmb, Nat.mod_eq_of_lt (Nat.or_lt_two_pow hx hy)] at this
theorem xorN_call (w x y : Nat) (hx : x < 2 ^ w) (hy : y < 2 ^ w) (hw : 0 < w) (hwb : w ≤ 1000000) : ACall Tryz.prog 81 [.d (vN w x), .d (vN w y)] [] (fun r o => r = .d (vN w (x ^^^ y))) := by
  have := xor_call w w (lmb (limbsN w) x) (lmb (limbsN w) y) (lmb_lims _ _) (lmb_lims _ _) (lmb_len _ _) (lmb_len _ _) hw hwb
  rwa [xor_lmb, cut_lmb, Nat.mod_eq_of_lt (Nat.xor_lt_two_pow hx hy)] at this
theorem upmod {w x n : Nat} (hn : n ≤ w) : x % 2 ^ (w - n) * 2 ^ n = x * 2 ^ n % 2 ^ w := by
  rw [← Nat.mul_mod_mul_right, ← Nat.pow_add, Nat.sub_add_cancel hn]
theorem upN_call (w n x : Nat) (hw : w ≤ 100000) (hn : n ≤ w) : ACall Tryz.prog 74 [.d (vN w x), vI .i64 n] [] (fun r o => r = .d (vN w (x * 2 ^ n % 2 ^ w))) := by
  have := up_call w n (lmb (limbsN w) x) (lmb_lims _ _) (lmb_len _ _) hw (by omega)
  rwa [upI_lmb _ (Nat.le_refl _), upmod hn] at this
theorem flagN_call (b : Bool) : ACall Tryz.prog 69 [vB b] [] (fun r o => r = .d (vN 1 (if b then 1 else 0))) := by
  have := flag_call b
  rwa [show ([if b then 1 else 0] : List Nat) = lmb (limbsN 1) (if b then 1 else 0) by cases b <;> decide] at this

@[reducible] def bN (w x : Nat) : AObj := bV w (lmb (limbsN w) x)

/-! ### product -/
def prI (w x y i : Nat) : Nat := x * (y % 2 ^ i) % 2 ^ w
theorem mod_succ (y i : Nat) : y % 2 ^ (i + 1) = y % 2 ^ i + if y.testBit i then 2 ^ i else 0 := by
  rw [Nat.pow_succ, Nat.mod_mul, Nat.testBit_eq_decide_div_mod_eq]
  rcases Nat.mod_two_eq_zero_or_one (y / 2 ^ i) with h | h <;> simp [h]
theorem prI_t {w x y i : Nat} (h : y.testBit i = true) : prI w x y (i + 1) = (prI w x y i + x * 2 ^ i % 2 ^ w + 0) % 2 ^ w := by
  rw [prI, mod_succ, if_pos h, Nat.mul_add, Nat.add_mod]
  rfl
theorem prI_f {w x y i : Nat} (h : y.testBit i = false) : prI w x y (i + 1) = prI w x y i := by
  rw [prI, mod_succ, if_neg (by simp [h])]
  rfl
theorem productN_call (w x y : Nat) (hy : y < 2 ^ w) (hw : 0 < w) (hwb : w ≤ 100000) : ACall Tryz.prog 85 [.d (vN w x), .d (vN w y)] [] (fun r o => r = .d (vN w (x * y % 2 ^ w))) := by
  refine acall_enter Tryz.func85 rfl rfl (Nat.le_of_ble_eq_true rfl) fun C hC hCl => ?_
  refine sat_callG [] tabOk Tryz.func85 rfl trivial (none_call w (by omega)) trivial (.refl _) rfl rfl rfl ⟨_, rfl⟩ ?_
  rintro r o ⟨rfl, rfl⟩
  refine sat_freeze 4 rfl ?_
  refine sat_stop tabOk Tryz.func85 rfl trivial ?_
  refine sat_while (α := Nat) (fun i => [(2, .ptr 0 0), (3, .ptr 1 0), (4, .ptr 2 0), (5, .ptr 5 0), (11, vI .i64 (w : Int)), (12, vI .i64 i)]) (fun i => [some (bN w x), some (bN w y), some zV, none, none, some (bN w (prI w x y i))]) (fun i => i ≤ w) (fun i => w - i) 0 (Nat.zero_le _) ?_ ?_
  · refine fun h => sat_le h hC hCl ⟨⟨_, rfl, .refl _⟩, ⟨_, rfl, .refl _⟩, ⟨_, rfl, .refl _⟩, ⟨_, rfl, .refl _⟩, ⟨_, rfl, .refl _⟩, ⟨_, rfl, .refl _⟩, trivial⟩ ⟨.refl _, .refl _, .refl _, .of ?_, trivial⟩ rfl rfl (Nat.zero_le _)
    rw [zero_lmb]
    simp only [prI, Nat.pow_zero, Nat.mod_one, Nat.mul_zero, Nat.zero_mod]
    rfl
  rintro i hi ih
  refine sat_branch tabOk Tryz.func85 rfl trivial (fun hb => ?_) (fun hb => ?_) <;> simp only [decide_eq_true_eq, decide_eq_false_iff_not] at hb
  · refine sat_call tabOk Tryz.func85 rfl trivial (BitN_call w y i (by omega)) (.refl _) rfl ⟨_, rfl⟩ (by rintro r o rfl; rfl) ?_
    rintro r o rfl
    rw [bitI'_nat (by omega)]
    refine sat_branch tabOk Tryz.func85 rfl trivial (fun hb2 => ?_) (fun hb2 => ?_)
    · refine sat_drawT 4 tabOk Tryz.func85 rfl rfl trivial (by kernel_rfl) ?_
      refine ds_call tabOk rfl trivial (upN_call w i x (by omega) (by omega)) (callFunc_run Tryz.func74 rfl rfl) (by rintro r o rfl; rfl) (.refl _) rfl rfl ⟨_, rfl⟩ ?_
      refine ds_done tabOk rfl trivial ?_
      refine sat_call tabOk Tryz.func85 rfl trivial (sumN_call w (prI w x y i) (x * 2 ^ i % 2 ^ w) 0 hw (by omega) (by omega)) (.refl _) rfl ⟨_, rfl⟩ (by rintro r o rfl; rfl) ?_
      rintro r o rfl
      refine sat_stop tabOk Tryz.func85 rfl trivial ?_
      rw [← prI_t hb2]
      exact sat_le (ih (i + 1) (by omega) (by omega)) hC hCl ⟨⟨_, rfl, .refl _⟩, ⟨_, rfl, .refl _⟩, ⟨_, rfl, .refl _⟩, ⟨_, rfl, .refl _⟩, ⟨_, rfl, .refl _⟩, ⟨_, rfl, .of (by rw [wrap_id (by omega) (by omega)]; rfl)⟩, trivial⟩ ⟨.refl _, .refl _, .refl _, .refl _, trivial⟩ rfl rfl (Nat.zero_le _)
    · refine sat_stop tabOk Tryz.func85 rfl trivial ?_
      refine sat_le (ih (i + 1) (by omega) (by omega)) hC hCl ⟨⟨_, rfl, .refl _⟩, ⟨_, rfl, .refl _⟩, ⟨_, rfl, .refl _⟩, ⟨_, rfl, .refl _⟩, ⟨_, rfl, .refl _⟩, ⟨_, rfl, .of (by rw [wrap_id (by omega) (by omega)]; rfl)⟩, trivial⟩ ⟨.refl _, .refl _, .refl _, .of (by rw [prI_f hb2]), trivial⟩ rfl rfl (Nat.zero_le _)
  · obtain rfl : i = w := by omega
    refine sat_ret tabOk Tryz.func85 rfl trivial ?_
    rw [prI, Nat.mod_eq_of_lt hy]
    rfl
end Go.Proofs.YtclamogkchdkgaaGreatDoor
namespace Go.Proofs.YtclamogkchdkgaaGreatDoor
open Go Ab
set_option maxRecDepth 100000
set_option linter.unusedVariables false
set_option linter.unusedSimpArgs false

/-! ### down, places -/
theorem lw1_pos {w y : Nat} (hw : w ≤ 128) (hy : y < 2 ^ w) (h : limbsN w = 2) : (0 < lw y 1) = ¬ y < 2 ^ 64 := by
  have h2 : y < 2 ^ 128 := Nat.lt_of_lt_of_le hy (Nat.pow_le_pow_right (by decide) hw)
  rw [lw]
  apply propext
  constructor
  · intro h hc
    rw [Nat.div_eq_of_lt hc] at h
    exact absurd h (by decide)
  · intro h
    rw [Nat.mod_eq_of_lt (Nat.div_lt_of_lt_mul (by omega))]
    exact Nat.div_pos (by omega) (by decide)
theorem placesN_call (w y : Nat) (hw : 0 < w) (hwb : w ≤ 128) (hy : y < 2 ^ w) : ACall Tryz.prog 90 [.d (vN w y)] [] (fun r o => r = vI .i64 ((min y w : Nat) : Int)) := by
  refine acall_enter Tryz.func90 rfl rfl (Nat.le_of_ble_eq_true rfl) fun C hC hCl => ?_
  have hn : limbsN w = (w + 63) / 64 := rfl
  have h2 : y < 2 ^ 128 := Nat.lt_of_lt_of_le hy (Nat.pow_le_pow_right (by decide) hwb)
  have hll : (lmb (limbsN w) y).length = limbsN w := lmb_len _ _
  have h0 : (lmb (limbsN w) y).getD 0 0 = y % 2 ^ 64 := by rw [lmb_get (by omega), lw]; simp
  refine sat_drawT 19 tabOk Tryz.func90 rfl rfl trivial (by kernel_rfl) ?_
  refine ds_branch tabOk rfl trivial (fun h => ?_) (fun h => ?_) <;> simp only [List.length_map, hll, decide_eq_true_eq, decide_eq_false_iff_not] at h
  · have hl2 : limbsN w = 2 := by omega
    have h1 : (lmb (limbsN w) y).getD 1 0 = lw y 1 := by rw [lmb_get (by omega)]
    have hp := lw1_pos hwb hy hl2
    refine ds_branch tabOk rfl ?_ (fun h3 => ?_) (fun h3 => ?_)
    · simp only [List.length_map, hll]
      exact ⟨⟨by omega, by omega⟩, trivial⟩
    · have h3 : decide (((lmb (limbsN w) y).getD 1 0 : Int) > 0) = true := h3
      rw [h1, decide_eq_true_eq] at h3
      have h4 : ¬ y < 2 ^ 64 := hp ▸ (show 0 < lw y 1 by omega)
      refine ds_done tabOk rfl trivial ?_
      refine sat_branch tabOk Tryz.func90 rfl trivial (fun _ => ?_) (fun h => by cases h)
      refine sat_ret tabOk Tryz.func90 rfl trivial ?_
      rw [Nat.min_eq_right (show w ≤ y by omega)]
      rfl
    · have h3 : decide (((lmb (limbsN w) y).getD 1 0 : Int) > 0) = false := h3
      rw [h1, decide_eq_false_iff_not] at h3
      have h4 : y < 2 ^ 64 := Decidable.of_not_not fun hc => by
        have : 0 < lw y 1 := by rw [hp]; exact hc
        omega
      refine ds_done tabOk rfl ?_ ?_
      · simp only [List.length_map, hll]
        exact ⟨⟨by omega, by omega⟩, trivial⟩
      have ew : IntKind.u64.wrap (w : Int) = (w : Int) := wrapU_id (by omega)
      refine sat_branch tabOk Tryz.func90 rfl trivial (fun h5 => ?_) (fun h5 => ?_)
      · have h5 : decide (((lmb (limbsN w) y).getD 0 0 : Int) ≥ IntKind.u64.wrap (w : Int)) = true := h5
        rw [h0, ew, Nat.mod_eq_of_lt h4, decide_eq_true_eq] at h5
        refine sat_ret tabOk Tryz.func90 rfl trivial ?_
        rw [Nat.min_eq_right (show w ≤ y by omega)]
        rfl
      · have h5 : decide (((lmb (limbsN w) y).getD 0 0 : Int) ≥ IntKind.u64.wrap (w : Int)) = false := h5
        rw [h0, ew, Nat.mod_eq_of_lt h4, decide_eq_false_iff_not] at h5
        refine sat_ret tabOk Tryz.func90 rfl ?_ ?_
        · simp only [List.length_map, hll]
          exact ⟨⟨by omega, by omega⟩, trivial⟩
        · show vI .i64 (IntKind.i64.wrap (((lmb (limbsN w) y).getD 0 0 : Nat) : Int)) = _
          rw [h0, Nat.mod_eq_of_lt h4, wrap_id (by omega) (by omega), Nat.min_eq_left (by omega)]
  · have h4 : y < 2 ^ 64 := Nat.lt_of_lt_of_le hy (Nat.pow_le_pow_right (by decide) (by omega))
    refine ds_branch tabOk rfl trivial (fun h => by cases h) (fun _ => ?_)
    refine ds_done tabOk rfl ?_ ?_
    · simp only [List.length_map, hll]
      exact ⟨⟨by omega, by omega⟩, trivial⟩
    have ew : IntKind.u64.wrap (w : Int) = (w : Int) := wrapU_id (by omega)
    refine sat_branch tabOk Tryz.func90 rfl trivial (fun h5 => ?_) (fun h5 => ?_)
    · have h5 : decide (((lmb (limbsN w) y).getD 0 0 : Int) ≥ IntKind.u64.wrap (w : Int)) = true := h5
      rw [h0, ew, Nat.mod_eq_of_lt h4, decide_eq_true_eq] at h5
      refine sat_ret tabOk Tryz.func90 rfl trivial ?_
      rw [Nat.min_eq_right (show w ≤ y by omega)]
      rfl
    · have h5 : decide (((lmb (limbsN w) y).getD 0 0 : Int) ≥ IntKind.u64.wrap (w : Int)) = false := h5
      rw [h0, ew, Nat.mod_eq_of_lt h4, decide_eq_false_iff_not] at h5
      refine sat_ret tabOk Tryz.func90 rfl ?_ ?_
      · simp only [List.length_map, hll]
        exact ⟨⟨by omega, by omega⟩, trivial⟩
      · show vI .i64 (IntKind.i64.wrap (((lmb (limbsN w) y).getD 0 0 : Nat) : Int)) = _
        rw [h0, Nat.mod_eq_of_lt h4, wrap_id (by omega) (by omega), Nat.min_eq_left (by omega)]

/-- What 'down' answers: each bit from n further up, else 'in'. -/
def dnN (w x n : Nat) (b : Bool) (i : Nat) : Nat := ofB (fun i => if i + n < w then x.testBit (i + n) else b) i
theorem dn_t {w x n i : Nat} {b : Bool} (h : (if i + n < w then x.testBit (i + n) else b) = true) : dnN w x n b (i + 1) = dnN w x n b i ||| 2 ^ i := by
  have hlt : dnN w x n b i < 2 ^ i := ofB_lt _ _
  have := Nat.two_pow_add_eq_or_of_lt hlt 1
  rw [Nat.mul_one] at this
  rw [Nat.or_comm, ← this, Nat.add_comm (2 ^ i)]
  show ofB _ _ + _ = _
  rw [if_pos h]
  rfl
theorem dn_f {w x n i : Nat} {b : Bool} (h : (if i + n < w then x.testBit (i + n) else b) = false) : dnN w x n b (i + 1) = dnN w x n b i := by
  show ofB _ _ + _ = _
  rw [if_neg (by simpa using h), Nat.add_zero]
  rfl
theorem downN_call (w x n : Nat) (b : Bool) (hw : 0 < w) (hwb : w ≤ 100000) (hn : n ≤ 100000) : ACall Tryz.prog 92 [.d (vN w x), vI .i64 n, vB b] [] (fun r o => r = .d (vN w (dnN w x n b w))) := by
  refine acall_enter Tryz.func92 rfl rfl (Nat.le_of_ble_eq_true rfl) fun C hC hCl => ?_
  refine sat_callG [] tabOk Tryz.func92 rfl trivial (none_call w (by omega)) trivial (.refl _) rfl rfl rfl ⟨_, rfl⟩ ?_
  rintro r o ⟨rfl, rfl⟩
  refine sat_stop tabOk Tryz.func92 rfl trivial ?_
  refine sat_while (α := Nat) (fun i => [(1, vI .i64 n), (2, vB b), (3, .ptr 0 0), (6, .ptr 1 0), (7, .ptr 4 0), (13, vI .i64 (w : Int)), (14, vI .i64 i)]) (fun i => [some (bN w x), some zV, none, some (gUs (lmb (limbsN w) (dnN w x n b i))), some (cV w 3)]) (fun i => i ≤ w) (fun i => w - i) 0 (Nat.zero_le _) ?_ ?_
  · exact fun h => sat_le h hC hCl ⟨⟨_, rfl, .refl _⟩, ⟨_, rfl, .refl _⟩, ⟨_, rfl, .refl _⟩, ⟨_, rfl, .refl _⟩, ⟨_, rfl, .refl _⟩, ⟨_, rfl, .refl _⟩, ⟨_, rfl, .refl _⟩, trivial⟩ ⟨.refl _, .refl _, .of (by rw [zero_lmb]; rfl), .refl _, trivial⟩ rfl rfl (Nat.zero_le _)
  rintro i hi ih
  refine sat_branch tabOk Tryz.func92 rfl trivial (fun hb => ?_) (fun hb => ?_) <;> simp only [decide_eq_true_eq, decide_eq_false_iff_not] at hb
  · have e1 : IntKind.i64.wrap ((i : Int) + n) = ((i + n : Nat) : Int) := by rw [wrap_id (by omega) (by omega)]; omega
    refine sat_branch tabOk Tryz.func92 rfl trivial (fun h => ?_) (fun h => ?_)
    · have h : decide (IntKind.i64.wrap ((i : Int) + n) < (w : Int)) = true := h
      rw [e1, decide_eq_true_eq] at h
      refine sat_call tabOk Tryz.func92 rfl trivial (BitN_call w x ((i + n : Nat) : Int) (by omega)) ⟨.refl _, .of (by show vI .i64 (IntKind.i64.wrap ((i : Int) + n)) = _; rw [e1]), trivial⟩ rfl ⟨_, rfl⟩ (by rintro r o rfl; rfl) ?_
      rintro r o rfl
      rw [bitI'_nat (by omega)]
      refine sat_branch tabOk Tryz.func92 rfl trivial (fun h2 => ?_) (fun h2 => ?_)
      · have hx : (if i + n < w then x.testBit (i + n) else b) = true := by rw [if_pos (by omega)]; exact h2
        refine sat_branch tabOk Tryz.func92 rfl trivial (fun _ => ?_) (fun h => by cases h)
        refine sat_callG [4, 3] tabOk Tryz.func92 rfl trivial (set_call w i (lmb (limbsN w) (dnN w x n b i)) (lmb_lims _ _) (by rw [lmb_len]; exact limbs_at (by omega)) (by omega)) ⟨⟨_, rfl, .refl _⟩, ⟨_, rfl, .refl _⟩, trivial⟩ (.refl _) rfl rfl rfl ⟨_, rfl⟩ ?_
        rintro r o ⟨rfl, rfl⟩
        refine sat_stop tabOk Tryz.func92 rfl trivial ?_
        exact sat_le (ih (i + 1) (by omega) (by omega)) hC hCl ⟨⟨_, rfl, .refl _⟩, ⟨_, rfl, .refl _⟩, ⟨_, rfl, .refl _⟩, ⟨_, rfl, .refl _⟩, ⟨_, rfl, .refl _⟩, ⟨_, rfl, .refl _⟩, ⟨_, rfl, .of (by rw [wrap_id (by omega) (by omega)]; rfl)⟩, trivial⟩ ⟨.refl _, .refl _, .of (by rw [dn_t hx, setB_lmb (limbs_at (by omega))]; rfl), .refl _, trivial⟩ rfl rfl (Nat.zero_le _)
      · have hx : (if i + n < w then x.testBit (i + n) else b) = false := by rw [if_pos (by omega)]; exact h2
        refine sat_branch tabOk Tryz.func92 rfl trivial (fun h3 => ?_) (fun h3 => ?_)
        · have h3 : decide (IntKind.i64.wrap ((i : Int) + n) ≥ (w : Int)) = true := h3
          rw [e1, decide_eq_true_eq] at h3
          omega
        refine sat_branch tabOk Tryz.func92 rfl trivial (fun h => by cases h) (fun _ => ?_)
        refine sat_stop tabOk Tryz.func92 rfl trivial ?_
        exact sat_le (ih (i + 1) (by omega) (by omega)) hC hCl ⟨⟨_, rfl, .refl _⟩, ⟨_, rfl, .refl _⟩, ⟨_, rfl, .refl _⟩, ⟨_, rfl, .refl _⟩, ⟨_, rfl, .refl _⟩, ⟨_, rfl, .refl _⟩, ⟨_, rfl, .of (by rw [wrap_id (by omega) (by omega)]; rfl)⟩, trivial⟩ ⟨.refl _, .refl _, .of (by rw [dn_f hx]), .refl _, trivial⟩ rfl rfl (Nat.zero_le _)
    · have h : decide (IntKind.i64.wrap ((i : Int) + n) < (w : Int)) = false := h
      rw [e1, decide_eq_false_iff_not] at h
      refine sat_branch tabOk Tryz.func92 rfl trivial (fun h => by cases h) (fun _ => ?_)
      refine sat_branch tabOk Tryz.func92 rfl trivial (fun h2 => ?_) (fun h2 => ?_)
      · refine sat_branch tabOk Tryz.func92 rfl trivial (fun h3 => ?_) (fun h3 => ?_)
        · have hx : (if i + n < w then x.testBit (i + n) else b) = true := by rw [if_neg (by omega)]; exact h3
          refine sat_callG [4, 3] tabOk Tryz.func92 rfl trivial (set_call w i (lmb (limbsN w) (dnN w x n b i)) (lmb_lims _ _) (by rw [lmb_len]; exact limbs_at (by omega)) (by omega)) ⟨⟨_, rfl, .refl _⟩, ⟨_, rfl, .refl _⟩, trivial⟩ (.refl _) rfl rfl rfl ⟨_, rfl⟩ ?_
          rintro r o ⟨rfl, rfl⟩
          refine sat_stop tabOk Tryz.func92 rfl trivial ?_
          exact sat_le (ih (i + 1) (by omega) (by omega)) hC hCl ⟨⟨_, rfl, .refl _⟩, ⟨_, rfl, .refl _⟩, ⟨_, rfl, .refl _⟩, ⟨_, rfl, .refl _⟩, ⟨_, rfl, .refl _⟩, ⟨_, rfl, .refl _⟩, ⟨_, rfl, .of (by rw [wrap_id (by omega) (by omega)]; rfl)⟩, trivial⟩ ⟨.refl _, .refl _, .of (by rw [dn_t hx, setB_lmb (limbs_at (by omega))]; rfl), .refl _, trivial⟩ rfl rfl (Nat.zero_le _)
        · have hx : (if i + n < w then x.testBit (i + n) else b) = false := by rw [if_neg (by omega)]; exact h3
          refine sat_stop tabOk Tryz.func92 rfl trivial ?_
          exact sat_le (ih (i + 1) (by omega) (by omega)) hC hCl ⟨⟨_, rfl, .refl _⟩, ⟨_, rfl, .refl _⟩, ⟨_, rfl, .refl _⟩, ⟨_, rfl, .refl _⟩, ⟨_, rfl, .refl _⟩, ⟨_, rfl, .refl _⟩, ⟨_, rfl, .of (by rw [wrap_id (by omega) (by omega)]; rfl)⟩, trivial⟩ ⟨.refl _, .refl _, .of (by rw [dn_f hx]), .refl _, trivial⟩ rfl rfl (Nat.zero_le _)
      · have h2 : decide (IntKind.i64.wrap ((i : Int) + n) ≥ (w : Int)) = false := h2
        rw [e1, decide_eq_false_iff_not] at h2
        omega
  · obtain rfl : i = w := by omega
    refine sat_freeze 3 rfl ?_
    exact sat_ret tabOk Tryz.func92 rfl trivial rfl
end Go.Proofs.YtclamogkchdkgaaGreatDoor
set_option linter.unusedSimpArgs false
set_option linter.unusedVariables false
namespace Ab
open Go

section
variable {P : Program} {T : Tab} {f : FuncId} {fn : Func} {n : Nat} {C : Cx} {R : AV → List (Option AObj) → Prop} {todo todo' k : List Item} {env env' : Env} {objs objs' : List (Option AObj)}

theorem sat_insert {ops : Array Oper} {i : Nat} {r : List Nat} {k : List Item} {o : Oper} {t kt et : TypeId} {mo ko xo : Operand} {rm rk : TRow} {j : Nat} {es es' : List (Value × AV)} {key : Value} {x : AV} (hT : TabOk P T)
    (ho : ops[i]? = some o) (hw : wantE ops env o = .yes) (hop : o.op = .insert t mo ko xo) (hd : o.dst = none) (hm : opnd env mo = some (.mp j)) (hk : opnd env ko = some (.d (.v key))) (hx : opnd env xo = some x) (h1 : tlook T t = some rm) (h2 : rm.kd = .map kt et) (h3 : tlook T kt = some rk)
    (hobj : nth objs j = some (some (.map es))) (hkey : keyB rk.kd key = true) (hks : keysB rk.kd es = true) (hf : MPut key x es es')
    (h : ASat P f n C (.inRegion ops r :: k) env (setNth objs j (some (.map es'))) R) : ASat P f n C (.inRegion ops (i :: r) :: k) env objs R := by
  refine sat_op ⟨none, true, .und, none, setNth objs j (some (.map es'))⟩ ho hw (fun X π w tmps m he _ => ?_) trivial (by rw [hd]; rfl) h
  obtain ⟨w', e1, e2⟩ := update_do hT m h1 h2 h3 hobj hkey hks hf (opnd_rel (ds := []) he hm) (opnd_rel (ds := []) he hx)
  refine ⟨undef, w', π, ?_, e2, fun h => by cases h⟩
  unfold execOp
  simp only [hop]
  rw [look_ok (P := P) he hk]
  simp only [Sem.run_bind, e1, Result.andThen_ok, Sem.run_pure]
  rfl
end
end Ab
namespace Go.Proofs.YtclamogkchdkgaaGreatDoor
open Go Ab
set_option maxRecDepth 100000
set_option linter.unusedVariables false
set_option linter.unusedSimpArgs false

/-! ### The tables of functions -/
def strK (l : List UInt8) : Value := .string ⟨l.toArray⟩
theorem strK_ne {a b : List UInt8} (h : a ≠ b) : strK a ≠ strK b := by
  intro e
  injection e with e
  injection e with e
  injection e with e
  exact h e
/-- Put behind all others, under a new key. -/
theorem mput_new {k : List UInt8} {x : AV} : ∀ {es : List (List UInt8 × AV)}, (∀ p ∈ es, p.1 ≠ k) → MPut (strK k) x (es.map fun p => (strK p.1, p.2)) ((es ++ [(k, x)]).map fun p => (strK p.1, p.2))
  | [], _ => .nil
  | p :: r, h => .miss (strK_ne (h p (List.mem_cons_self))) (mput_new fun q hq => h q (List.mem_cons_of_mem _ hq))
def assocK (k : List UInt8) : List (List UInt8 × AV) → Option AV
  | [] => none
  | (k', x) :: r => if k' = k then some x else assocK k r
theorem mfind_assoc (k : List UInt8) (ρ : Nat → Nat) : ∀ es : List (List UInt8 × AV), MFind (strK k) (renEs ρ (es.map fun p => (strK p.1, p.2))) ((assocK k es).map (AV.ren ρ))
  | [] => .nil
  | (k', x) :: r => by
    simp only [assocK, List.map_cons, renEs]
    split
    · rename_i h
      subst h
      exact .hit
    · rename_i h
      exact .miss (strK_ne h) (mfind_assoc k ρ r)
@[reducible] def mpK (es : List (List UInt8 × AV)) : AObj := .map (es.map fun p => (strK p.1, p.2))
@[reducible] def cF (g : FuncId) : AObj := .cells 61 [fnV g]

def sNot : List UInt8 := [110, 111, 116]
def sInc : List UInt8 := [105, 110, 99]
def sDec : List UInt8 := [100, 101, 99]
def sNeg : List UInt8 := [110, 101, 103]
def sRedand : List UInt8 := [114, 101, 100, 97, 110, 100]
def sRedor : List UInt8 := [114, 101, 100, 111, 114]
def sRedxor : List UInt8 := [114, 101, 100, 120, 111, 114]
def unsE : List (List UInt8 × AV) := [(sNot, fnV 63), (sInc, .fn (.func 64) [.ptr 0 0]), (sDec, .fn (.func 66) [.ptr 0 0]), (sNeg, fnV 67), (sRedand, fnV 68), (sRedor, fnV 71), (sRedxor, fnV 72)]

theorem uns_call : ACall Tryz.prog 42 [] [] (fun r o => r = .mp 1 ∧ o = [some (cF 62), some (mpK unsE)]) := by
  refine acall_enter Tryz.func42 rfl rfl (Nat.le_of_ble_eq_true rfl) fun C hC hCl => ?_
  refine sat_steps 12 tabOk Tryz.func42 rfl trivial ?_
  refine sat_insert (es' := (unsE.take 1).map fun p => (strK p.1, p.2)) tabOk rfl rfl rfl rfl rfl rfl rfl rfl rfl rfl rfl rfl (by kernel_rfl) ?_ ?_
  · exact mput_new (k := sNot) (es := unsE.take 0) (by intro p hp; revert p; decide)
  refine sat_le (env' := [(1, .ptr 0 0), (2, .mp 1)]) (objs' := [some (cF 62), some (mpK (unsE.take 1))]) ?_ hC hCl ⟨⟨_, rfl, .refl _⟩, ⟨_, rfl, .refl _⟩, trivial⟩ ⟨.refl _, .refl _, trivial⟩ rfl rfl (Nat.zero_le _)
  refine sat_steps 1 tabOk Tryz.func42 rfl trivial ?_
  refine sat_insert (es' := (unsE.take 2).map fun p => (strK p.1, p.2)) tabOk rfl rfl rfl rfl rfl rfl rfl rfl rfl rfl rfl rfl (by kernel_rfl) ?_ ?_
  · exact mput_new (k := sInc) (es := unsE.take 1) (by intro p hp; revert p; decide)
  refine sat_le (env' := [(1, .ptr 0 0), (2, .mp 1)]) (objs' := [some (cF 62), some (mpK (unsE.take 2))]) ?_ hC hCl ⟨⟨_, rfl, .refl _⟩, ⟨_, rfl, .refl _⟩, trivial⟩ ⟨.refl _, .refl _, trivial⟩ rfl rfl (Nat.zero_le _)
  refine sat_steps 1 tabOk Tryz.func42 rfl trivial ?_
  refine sat_insert (es' := (unsE.take 3).map fun p => (strK p.1, p.2)) tabOk rfl rfl rfl rfl rfl rfl rfl rfl rfl rfl rfl rfl (by kernel_rfl) ?_ ?_
  · exact mput_new (k := sDec) (es := unsE.take 2) (by intro p hp; revert p; decide)
  refine sat_le (env' := [(1, .ptr 0 0), (2, .mp 1)]) (objs' := [some (cF 62), some (mpK (unsE.take 3))]) ?_ hC hCl ⟨⟨_, rfl, .refl _⟩, ⟨_, rfl, .refl _⟩, trivial⟩ ⟨.refl _, .refl _, trivial⟩ rfl rfl (Nat.zero_le _)
  refine sat_insert (es' := (unsE.take 4).map fun p => (strK p.1, p.2)) tabOk rfl rfl rfl rfl rfl rfl rfl rfl rfl rfl rfl rfl (by kernel_rfl) ?_ ?_
  · exact mput_new (k := sNeg) (es := unsE.take 3) (by intro p hp; revert p; decide)
  refine sat_le (env' := [(1, .ptr 0 0), (2, .mp 1)]) (objs' := [some (cF 62), some (mpK (unsE.take 4))]) ?_ hC hCl ⟨⟨_, rfl, .refl _⟩, ⟨_, rfl, .refl _⟩, trivial⟩ ⟨.refl _, .refl _, trivial⟩ rfl rfl (Nat.zero_le _)
  refine sat_insert (es' := (unsE.take 5).map fun p => (strK p.1, p.2)) tabOk rfl rfl rfl rfl rfl rfl rfl rfl rfl rfl rfl rfl (by kernel_rfl) ?_ ?_
  · exact mput_new (k := sRedand) (es := unsE.take 4) (by intro p hp; revert p; decide)
  refine sat_le (env' := [(1, .ptr 0 0), (2, .mp 1)]) (objs' := [some (cF 62), some (mpK (unsE.take 5))]) ?_ hC hCl ⟨⟨_, rfl, .refl _⟩, ⟨_, rfl, .refl _⟩, trivial⟩ ⟨.refl _, .refl _, trivial⟩ rfl rfl (Nat.zero_le _)
  refine sat_insert (es' := (unsE.take 6).map fun p => (strK p.1, p.2)) tabOk rfl rfl rfl rfl rfl rfl rfl rfl rfl rfl rfl rfl (by kernel_rfl) ?_ ?_
  · exact mput_new (k := sRedor) (es := unsE.take 5) (by intro p hp; revert p; decide)
  refine sat_le (env' := [(1, .ptr 0 0), (2, .mp 1)]) (objs' := [some (cF 62), some (mpK (unsE.take 6))]) ?_ hC hCl ⟨⟨_, rfl, .refl _⟩, ⟨_, rfl, .refl _⟩, trivial⟩ ⟨.refl _, .refl _, trivial⟩ rfl rfl (Nat.zero_le _)
  refine sat_insert (es' := (unsE.take 7).map fun p => (strK p.1, p.2)) tabOk rfl rfl rfl rfl rfl rfl rfl rfl rfl rfl rfl rfl (by kernel_rfl) ?_ ?_
  · exact mput_new (k := sRedxor) (es := unsE.take 6) (by intro p hp; revert p; decide)
  refine sat_le (env' := [(1, .ptr 0 0), (2, .mp 1)]) (objs' := [some (cF 62), some (mpK (unsE.take 7))]) ?_ hC hCl ⟨⟨_, rfl, .refl _⟩, ⟨_, rfl, .refl _⟩, trivial⟩ ⟨.refl _, .refl _, trivial⟩ rfl rfl (Nat.zero_le _)
  exact sat_ret tabOk Tryz.func42 rfl trivial ⟨rfl, rfl⟩
end Go.Proofs.YtclamogkchdkgaaGreatDoor
namespace Go.Proofs.YtclamogkchdkgaaGreatDoor
open Go Ab
set_option maxRecDepth 100000
set_option linter.unusedVariables false
set_option linter.unusedSimpArgs false

def sAnd : List UInt8 := [97, 110, 100]
def sOr : List UInt8 := [111, 114]
def sXor : List UInt8 := [120, 111, 114]
def sAdd : List UInt8 := [97, 100, 100]
def sSub : List UInt8 := [115, 117, 98]
def sMul : List UInt8 := [109, 117, 108]
def sUdiv : List UInt8 := [117, 100, 105, 118]
def sUrem : List UInt8 := [117, 114, 101, 109]
def sSll : List UInt8 := [115, 108, 108]
def sSrl : List UInt8 := [115, 114, 108]
def sSra : List UInt8 := [115, 114, 97]
def sEq : List UInt8 := [101, 113]
def sUlt : List UInt8 := [117, 108, 116]
def sSlt : List UInt8 := [115, 108, 116]
def sConcat : List UInt8 := [99, 111, 110, 99, 97, 116]
def binsE : List (List UInt8 × AV) := [(sAnd, fnV 76), (sOr, fnV 79), (sXor, fnV 81), (sAdd, fnV 83), (sSub, fnV 84), (sMul, fnV 85), (sUdiv, fnV 86), (sUrem, fnV 88), (sSll, fnV 89), (sSrl, fnV 91), (sSra, fnV 93), (sEq, fnV 94), (sUlt, fnV 95), (sSlt, .fn (.func 97) [.ptr 1 0])]
@[reducible] def cV1 (g : FuncId) : AObj := .cells 77 [fnV g]
@[reducible] def cV2 (g : FuncId) : AObj := .cells 77 [.fn (.func g) [.ptr 0 0]]

theorem bins_call : ACall Tryz.prog 50 [] [] (fun r o => r = .mp 2 ∧ o = [some (cV1 73), some (cV2 75), some (mpK binsE)]) := by
  refine acall_enter Tryz.func50 rfl rfl (Nat.le_of_ble_eq_true rfl) fun C hC hCl => ?_
  refine sat_steps 18 tabOk Tryz.func50 rfl trivial ?_
  refine sat_insert (es' := (binsE.take 1).map fun p => (strK p.1, p.2)) tabOk rfl rfl rfl rfl rfl rfl rfl rfl rfl rfl rfl rfl (by kernel_rfl) ?_ ?_
  · exact mput_new (k := sAnd) (es := binsE.take 0) (by intro p hp; revert p; decide)
  refine sat_le (env' := [(2, .ptr 1 0), (4, .mp 2)]) (objs' := [some (cV1 73), some (cV2 75), some (mpK (binsE.take 1))]) ?_ hC hCl ⟨⟨_, rfl, .refl _⟩, ⟨_, rfl, .refl _⟩, trivial⟩ ⟨.refl _, .refl _, .refl _, trivial⟩ rfl rfl (Nat.zero_le _)
  refine sat_insert (es' := (binsE.take 2).map fun p => (strK p.1, p.2)) tabOk rfl rfl rfl rfl rfl rfl rfl rfl rfl rfl rfl rfl (by kernel_rfl) ?_ ?_
  · exact mput_new (k := sOr) (es := binsE.take 1) (by intro p hp; revert p; decide)
  refine sat_le (env' := [(2, .ptr 1 0), (4, .mp 2)]) (objs' := [some (cV1 73), some (cV2 75), some (mpK (binsE.take 2))]) ?_ hC hCl ⟨⟨_, rfl, .refl _⟩, ⟨_, rfl, .refl _⟩, trivial⟩ ⟨.refl _, .refl _, .refl _, trivial⟩ rfl rfl (Nat.zero_le _)
  refine sat_insert (es' := (binsE.take 3).map fun p => (strK p.1, p.2)) tabOk rfl rfl rfl rfl rfl rfl rfl rfl rfl rfl rfl rfl (by kernel_rfl) ?_ ?_
  · exact mput_new (k := sXor) (es := binsE.take 2) (by intro p hp; revert p; decide)
  refine sat_le (env' := [(2, .ptr 1 0), (4, .mp 2)]) (objs' := [some (cV1 73), some (cV2 75), some (mpK (binsE.take 3))]) ?_ hC hCl ⟨⟨_, rfl, .refl _⟩, ⟨_, rfl, .refl _⟩, trivial⟩ ⟨.refl _, .refl _, .refl _, trivial⟩ rfl rfl (Nat.zero_le _)
  refine sat_insert (es' := (binsE.take 4).map fun p => (strK p.1, p.2)) tabOk rfl rfl rfl rfl rfl rfl rfl rfl rfl rfl rfl rfl (by kernel_rfl) ?_ ?_
  · exact mput_new (k := sAdd) (es := binsE.take 3) (by intro p hp; revert p; decide)
  refine sat_le (env' := [(2, .ptr 1 0), (4, .mp 2)]) (objs' := [some (cV1 73), some (cV2 75), some (mpK (binsE.take 4))]) ?_ hC hCl ⟨⟨_, rfl, .refl _⟩, ⟨_, rfl, .refl _⟩, trivial⟩ ⟨.refl _, .refl _, .refl _, trivial⟩ rfl rfl (Nat.zero_le _)
  refine sat_insert (es' := (binsE.take 5).map fun p => (strK p.1, p.2)) tabOk rfl rfl rfl rfl rfl rfl rfl rfl rfl rfl rfl rfl (by kernel_rfl) ?_ ?_
  · exact mput_new (k := sSub) (es := binsE.take 4) (by intro p hp; revert p; decide)
  refine sat_le (env' := [(2, .ptr 1 0), (4, .mp 2)]) (objs' := [some (cV1 73), some (cV2 75), some (mpK (binsE.take 5))]) ?_ hC hCl ⟨⟨_, rfl, .refl _⟩, ⟨_, rfl, .refl _⟩, trivial⟩ ⟨.refl _, .refl _, .refl _, trivial⟩ rfl rfl (Nat.zero_le _)
  refine sat_insert (es' := (binsE.take 6).map fun p => (strK p.1, p.2)) tabOk rfl rfl rfl rfl rfl rfl rfl rfl rfl rfl rfl rfl (by kernel_rfl) ?_ ?_
  · exact mput_new (k := sMul) (es := binsE.take 5) (by intro p hp; revert p; decide)
  refine sat_le (env' := [(2, .ptr 1 0), (4, .mp 2)]) (objs' := [some (cV1 73), some (cV2 75), some (mpK (binsE.take 6))]) ?_ hC hCl ⟨⟨_, rfl, .refl _⟩, ⟨_, rfl, .refl _⟩, trivial⟩ ⟨.refl _, .refl _, .refl _, trivial⟩ rfl rfl (Nat.zero_le _)
  refine sat_insert (es' := (binsE.take 7).map fun p => (strK p.1, p.2)) tabOk rfl rfl rfl rfl rfl rfl rfl rfl rfl rfl rfl rfl (by kernel_rfl) ?_ ?_
  · exact mput_new (k := sUdiv) (es := binsE.take 6) (by intro p hp; revert p; decide)
  refine sat_le (env' := [(2, .ptr 1 0), (4, .mp 2)]) (objs' := [some (cV1 73), some (cV2 75), some (mpK (binsE.take 7))]) ?_ hC hCl ⟨⟨_, rfl, .refl _⟩, ⟨_, rfl, .refl _⟩, trivial⟩ ⟨.refl _, .refl _, .refl _, trivial⟩ rfl rfl (Nat.zero_le _)
  refine sat_insert (es' := (binsE.take 8).map fun p => (strK p.1, p.2)) tabOk rfl rfl rfl rfl rfl rfl rfl rfl rfl rfl rfl rfl (by kernel_rfl) ?_ ?_
  · exact mput_new (k := sUrem) (es := binsE.take 7) (by intro p hp; revert p; decide)
  refine sat_le (env' := [(2, .ptr 1 0), (4, .mp 2)]) (objs' := [some (cV1 73), some (cV2 75), some (mpK (binsE.take 8))]) ?_ hC hCl ⟨⟨_, rfl, .refl _⟩, ⟨_, rfl, .refl _⟩, trivial⟩ ⟨.refl _, .refl _, .refl _, trivial⟩ rfl rfl (Nat.zero_le _)
  refine sat_insert (es' := (binsE.take 9).map fun p => (strK p.1, p.2)) tabOk rfl rfl rfl rfl rfl rfl rfl rfl rfl rfl rfl rfl (by kernel_rfl) ?_ ?_
  · exact mput_new (k := sSll) (es := binsE.take 8) (by intro p hp; revert p; decide)
  refine sat_le (env' := [(2, .ptr 1 0), (4, .mp 2)]) (objs' := [some (cV1 73), some (cV2 75), some (mpK (binsE.take 9))]) ?_ hC hCl ⟨⟨_, rfl, .refl _⟩, ⟨_, rfl, .refl _⟩, trivial⟩ ⟨.refl _, .refl _, .refl _, trivial⟩ rfl rfl (Nat.zero_le _)
  refine sat_insert (es' := (binsE.take 10).map fun p => (strK p.1, p.2)) tabOk rfl rfl rfl rfl rfl rfl rfl rfl rfl rfl rfl rfl (by kernel_rfl) ?_ ?_
  · exact mput_new (k := sSrl) (es := binsE.take 9) (by intro p hp; revert p; decide)
  refine sat_le (env' := [(2, .ptr 1 0), (4, .mp 2)]) (objs' := [some (cV1 73), some (cV2 75), some (mpK (binsE.take 10))]) ?_ hC hCl ⟨⟨_, rfl, .refl _⟩, ⟨_, rfl, .refl _⟩, trivial⟩ ⟨.refl _, .refl _, .refl _, trivial⟩ rfl rfl (Nat.zero_le _)
  refine sat_insert (es' := (binsE.take 11).map fun p => (strK p.1, p.2)) tabOk rfl rfl rfl rfl rfl rfl rfl rfl rfl rfl rfl rfl (by kernel_rfl) ?_ ?_
  · exact mput_new (k := sSra) (es := binsE.take 10) (by intro p hp; revert p; decide)
  refine sat_le (env' := [(2, .ptr 1 0), (4, .mp 2)]) (objs' := [some (cV1 73), some (cV2 75), some (mpK (binsE.take 11))]) ?_ hC hCl ⟨⟨_, rfl, .refl _⟩, ⟨_, rfl, .refl _⟩, trivial⟩ ⟨.refl _, .refl _, .refl _, trivial⟩ rfl rfl (Nat.zero_le _)
  refine sat_insert (es' := (binsE.take 12).map fun p => (strK p.1, p.2)) tabOk rfl rfl rfl rfl rfl rfl rfl rfl rfl rfl rfl rfl (by kernel_rfl) ?_ ?_
  · exact mput_new (k := sEq) (es := binsE.take 11) (by intro p hp; revert p; decide)
  refine sat_le (env' := [(2, .ptr 1 0), (4, .mp 2)]) (objs' := [some (cV1 73), some (cV2 75), some (mpK (binsE.take 12))]) ?_ hC hCl ⟨⟨_, rfl, .refl _⟩, ⟨_, rfl, .refl _⟩, trivial⟩ ⟨.refl _, .refl _, .refl _, trivial⟩ rfl rfl (Nat.zero_le _)
  refine sat_insert (es' := (binsE.take 13).map fun p => (strK p.1, p.2)) tabOk rfl rfl rfl rfl rfl rfl rfl rfl rfl rfl rfl rfl (by kernel_rfl) ?_ ?_
  · exact mput_new (k := sUlt) (es := binsE.take 12) (by intro p hp; revert p; decide)
  refine sat_le (env' := [(2, .ptr 1 0), (4, .mp 2)]) (objs' := [some (cV1 73), some (cV2 75), some (mpK (binsE.take 13))]) ?_ hC hCl ⟨⟨_, rfl, .refl _⟩, ⟨_, rfl, .refl _⟩, trivial⟩ ⟨.refl _, .refl _, .refl _, trivial⟩ rfl rfl (Nat.zero_le _)
  refine sat_steps 1 tabOk Tryz.func50 rfl trivial ?_
  refine sat_insert (es' := (binsE.take 14).map fun p => (strK p.1, p.2)) tabOk rfl rfl rfl rfl rfl rfl rfl rfl rfl rfl rfl rfl (by kernel_rfl) ?_ ?_
  · exact mput_new (k := sSlt) (es := binsE.take 13) (by intro p hp; revert p; decide)
  refine sat_le (env' := [(2, .ptr 1 0), (4, .mp 2)]) (objs' := [some (cV1 73), some (cV2 75), some (mpK (binsE.take 14))]) ?_ hC hCl ⟨⟨_, rfl, .refl _⟩, ⟨_, rfl, .refl _⟩, trivial⟩ ⟨.refl _, .refl _, .refl _, trivial⟩ rfl rfl (Nat.zero_le _)
  exact sat_ret tabOk Tryz.func50 rfl trivial ⟨rfl, rfl⟩

theorem keys_str (ρ : Nat → Nat) : ∀ es : List (List UInt8 × AV), keysB .str (renEs ρ (es.map fun p => (strK p.1, p.2))) = true
  | [] => rfl
  | p :: r => by
    show (match keyB .str (strK p.1) with | true => keysB .str _ | false => false) = true
    exact keys_str ρ r

/-! ### Un, Bin -/
theorem assoc_ren {op : List UInt8} {es : List (List UInt8 × AV)} {a : Option AV} (h : assocK op es = a) (ρ : Nat → Nat) : MFind (strK op) (renEs ρ (es.map fun p => (strK p.1, p.2))) (a.map (AV.ren ρ)) := h ▸ mfind_assoc op ρ es
theorem Un_fn (op : List UInt8) (g : FuncId) (w x w' x' : Nat) (hf : assocK op unsE = some (fnV g)) (hg : ACall Tryz.prog g [.d (vN w x)] [] (fun r o => r = .d (vN w' x'))) : ACall Tryz.prog 22 [vSL op, .d (vN w x)] [] (fun r o => r = tupOf [.d (vN w' x'), vI .i64 0]) := by
  refine acall_enter Tryz.func22 rfl rfl (Nat.le_of_ble_eq_true rfl) fun C hC hCl => ?_
  refine sat_callG [] tabOk Tryz.func22 rfl trivial uns_call trivial (.refl _) rfl rfl rfl ⟨_, rfl⟩ ?_
  rintro r o ⟨rfl, rfl⟩
  refine sat_steps 1 tabOk Tryz.func22 rfl trivial ?_
  refine sat_lookup (a := some (fnV g)) (es := renEs (rho [] 2) (unsE.map fun p => (strK p.1, p.2))) (key := strK op) tabOk rfl rfl rfl rfl rfl rfl rfl rfl rfl rfl rfl (keys_str _ _) (assoc_ren hf _) rfl ?_
  refine sat_branch tabOk Tryz.func22 rfl trivial (fun h => by cases h) (fun _ => ?_)
  refine sat_call tabOk Tryz.func22 rfl trivial hg (.refl _) rfl ⟨_, rfl⟩ (by rintro r o rfl; rfl) ?_
  rintro r o rfl
  exact sat_ret tabOk Tryz.func22 rfl trivial rfl
theorem Un_cl (op : List UInt8) (g : FuncId) (w x w' x' : Nat) (hf : assocK op unsE = some (.fn (.func g) [.ptr 0 0])) (hg : ACall Tryz.prog g [.d (vN w x), .ptr 0 0] [some (cF 62)] (fun r o => r = .d (vN w' x') ∧ o = [some (cF 62)])) : ACall Tryz.prog 22 [vSL op, .d (vN w x)] [] (fun r o => r = tupOf [.d (vN w' x'), vI .i64 0]) := by
  refine acall_enter Tryz.func22 rfl rfl (Nat.le_of_ble_eq_true rfl) fun C hC hCl => ?_
  refine sat_callG [] tabOk Tryz.func22 rfl trivial uns_call trivial (.refl _) rfl rfl rfl ⟨_, rfl⟩ ?_
  rintro r o ⟨rfl, rfl⟩
  refine sat_steps 1 tabOk Tryz.func22 rfl trivial ?_
  refine sat_lookup (a := some (.fn (.func g) [.ptr 2 0])) (es := renEs (rho [] 2) (unsE.map fun p => (strK p.1, p.2))) (key := strK op) tabOk rfl rfl rfl rfl rfl rfl rfl rfl rfl rfl rfl (keys_str _ _) (assoc_ren hf _) rfl ?_
  refine sat_branch tabOk Tryz.func22 rfl trivial (fun h => by cases h) (fun _ => ?_)
  refine sat_callG [2] tabOk Tryz.func22 rfl trivial hg ⟨⟨_, rfl, .refl _⟩, trivial⟩ (.refl _) rfl rfl rfl ⟨_, rfl⟩ ?_
  rintro r o ⟨rfl, rfl⟩
  exact sat_ret tabOk Tryz.func22 rfl trivial rfl
theorem Un_no (op : List UInt8) (w x : Nat) (hf : assocK op unsE = none) : ACall Tryz.prog 22 [vSL op, .d (vN w x)] [] (fun r o => r = tupOf [.d z24, vI .i64 1]) := by
  refine acall_enter Tryz.func22 rfl rfl (Nat.le_of_ble_eq_true rfl) fun C hC hCl => ?_
  refine sat_callG [] tabOk Tryz.func22 rfl trivial uns_call trivial (.refl _) rfl rfl rfl ⟨_, rfl⟩ ?_
  rintro r o ⟨rfl, rfl⟩
  refine sat_steps 1 tabOk Tryz.func22 rfl trivial ?_
  refine sat_lookup (a := none) (es := renEs (rho [] 2) (unsE.map fun p => (strK p.1, p.2))) (key := strK op) tabOk rfl rfl rfl rfl rfl rfl rfl rfl rfl rfl rfl (keys_str _ _) (assoc_ren hf _) rfl ?_
  refine sat_branch tabOk Tryz.func22 rfl trivial (fun _ => ?_) (fun h => by cases h)
  exact sat_ret tabOk Tryz.func22 rfl trivial rfl
theorem strE (a b : List UInt8) : ((⟨a.toArray⟩ : ByteArray).toList == (⟨b.toArray⟩ : ByteArray).toList) = decide (a = b) := by
  rw [ByteArray.toList_mk, ByteArray.toList_mk]
  by_cases h : a = b <;> simp [h]
theorem Bin_fn (op : List UInt8) (g : FuncId) (w x y w' x' : Nat) (hc : op ≠ sConcat) (hf : assocK op binsE = some (fnV g)) (hg : ACall Tryz.prog g [.d (vN w x), .d (vN w y)] [] (fun r o => r = .d (vN w' x'))) : ACall Tryz.prog 24 [vSL op, .d (vN w x), .d (vN w y)] [] (fun r o => r = tupOf [.d (vN w' x'), vI .i64 0]) := by
  refine acall_enter Tryz.func24 rfl rfl (Nat.le_of_ble_eq_true rfl) fun C hC hCl => ?_
  refine sat_branch tabOk Tryz.func24 rfl trivial (fun h => ?_) (fun h => ?_) <;> rw [show ((⟨#[99, 111, 110, 99, 97, 116]⟩ : ByteArray)) = ⟨sConcat.toArray⟩ from rfl, strE] at h
  · simp at h
    exact absurd h hc
  refine sat_callG [] tabOk Tryz.func24 rfl trivial bins_call trivial (.refl _) rfl rfl rfl ⟨_, rfl⟩ ?_
  rintro r o ⟨rfl, rfl⟩
  refine sat_steps 1 tabOk Tryz.func24 rfl trivial ?_
  refine sat_lookup (a := some (fnV g)) (es := renEs (rho [] 3) (binsE.map fun p => (strK p.1, p.2))) (key := strK op) tabOk rfl rfl rfl rfl rfl rfl rfl rfl rfl rfl rfl (keys_str _ _) (assoc_ren hf _) rfl ?_
  refine sat_branch tabOk Tryz.func24 rfl trivial (fun h => by cases h) (fun _ => ?_)
  refine sat_branch tabOk Tryz.func24 rfl trivial (fun h => ?_) (fun h => ?_)
  · have h : ((w : Int) != (w : Int)) = true := h
    simp at h
  refine sat_call tabOk Tryz.func24 rfl trivial hg (.refl _) rfl ⟨_, rfl⟩ (by rintro r o rfl; rfl) ?_
  rintro r o rfl
  exact sat_ret tabOk Tryz.func24 rfl trivial rfl
theorem Bin_cl (op : List UInt8) (g : FuncId) (w x y w' x' : Nat) (hc : op ≠ sConcat) (hf : assocK op binsE = some (.fn (.func g) [.ptr 1 0])) (hg : ACall Tryz.prog g [.d (vN w x), .d (vN w y), .ptr 1 0] [some (cV1 73), some (cV2 75)] (fun r o => r = .d (vN w' x') ∧ o = [some (cV1 73), some (cV2 75)])) : ACall Tryz.prog 24 [vSL op, .d (vN w x), .d (vN w y)] [] (fun r o => r = tupOf [.d (vN w' x'), vI .i64 0]) := by
  refine acall_enter Tryz.func24 rfl rfl (Nat.le_of_ble_eq_true rfl) fun C hC hCl => ?_
  refine sat_branch tabOk Tryz.func24 rfl trivial (fun h => ?_) (fun h => ?_) <;> rw [show ((⟨#[99, 111, 110, 99, 97, 116]⟩ : ByteArray)) = ⟨sConcat.toArray⟩ from rfl, strE] at h
  · simp at h
    exact absurd h hc
  refine sat_callG [] tabOk Tryz.func24 rfl trivial bins_call trivial (.refl _) rfl rfl rfl ⟨_, rfl⟩ ?_
  rintro r o ⟨rfl, rfl⟩
  refine sat_steps 1 tabOk Tryz.func24 rfl trivial ?_
  refine sat_lookup (a := some (.fn (.func g) [.ptr 4 0])) (es := renEs (rho [] 3) (binsE.map fun p => (strK p.1, p.2))) (key := strK op) tabOk rfl rfl rfl rfl rfl rfl rfl rfl rfl rfl rfl (keys_str _ _) (assoc_ren hf _) rfl ?_
  refine sat_branch tabOk Tryz.func24 rfl trivial (fun h => by cases h) (fun _ => ?_)
  refine sat_branch tabOk Tryz.func24 rfl trivial (fun h => ?_) (fun h => ?_)
  · have h : ((w : Int) != (w : Int)) = true := h
    simp at h
  refine sat_callG [3, 4] tabOk Tryz.func24 rfl trivial hg ⟨⟨_, rfl, .refl _⟩, ⟨_, rfl, .refl _⟩, trivial⟩ (.refl _) rfl rfl rfl ⟨_, rfl⟩ ?_
  rintro r o ⟨rfl, rfl⟩
  exact sat_ret tabOk Tryz.func24 rfl trivial rfl
theorem Bin_no (op : List UInt8) (a b : D) (w v : Nat) (l k : List Nat) (hc : op ≠ sConcat) (hf : assocK op binsE = none) : ACall Tryz.prog 24 [vSL op, .d (eV w l), .d (eV v k)] [] (fun r o => r = tupOf [.d z24, vI .i64 1]) := by
  refine acall_enter Tryz.func24 rfl rfl (Nat.le_of_ble_eq_true rfl) fun C hC hCl => ?_
  refine sat_branch tabOk Tryz.func24 rfl trivial (fun h => ?_) (fun h => ?_) <;> rw [show ((⟨#[99, 111, 110, 99, 97, 116]⟩ : ByteArray)) = ⟨sConcat.toArray⟩ from rfl, strE] at h
  · simp at h
    exact absurd h hc
  refine sat_callG [] tabOk Tryz.func24 rfl trivial bins_call trivial (.refl _) rfl rfl rfl ⟨_, rfl⟩ ?_
  rintro r o ⟨rfl, rfl⟩
  refine sat_steps 1 tabOk Tryz.func24 rfl trivial ?_
  refine sat_lookup (a := none) (es := renEs (rho [] 3) (binsE.map fun p => (strK p.1, p.2))) (key := strK op) tabOk rfl rfl rfl rfl rfl rfl rfl rfl rfl rfl rfl (keys_str _ _) (assoc_ren hf _) rfl ?_
  refine sat_branch tabOk Tryz.func24 rfl trivial (fun _ => ?_) (fun h => by cases h)
  exact sat_ret tabOk Tryz.func24 rfl trivial rfl
theorem Bin_ne (op : List UInt8) (f : AV) (g : FuncId) (hfv : f = fnV g ∨ f = .fn (.func g) [.ptr 1 0]) (w v : Nat) (l k : List Nat) (hne : w ≠ v) (hc : op ≠ sConcat) (hf : assocK op binsE = some f) : ACall Tryz.prog 24 [vSL op, .d (eV w l), .d (eV v k)] [] (fun r o => r = tupOf [.d z24, vI .i64 5]) := by
  refine acall_enter Tryz.func24 rfl rfl (Nat.le_of_ble_eq_true rfl) fun C hC hCl => ?_
  refine sat_branch tabOk Tryz.func24 rfl trivial (fun h => ?_) (fun h => ?_) <;> rw [show ((⟨#[99, 111, 110, 99, 97, 116]⟩ : ByteArray)) = ⟨sConcat.toArray⟩ from rfl, strE] at h
  · simp at h
    exact absurd h hc
  refine sat_callG [] tabOk Tryz.func24 rfl trivial bins_call trivial (.refl _) rfl rfl rfl ⟨_, rfl⟩ ?_
  rintro r o ⟨rfl, rfl⟩
  refine sat_steps 1 tabOk Tryz.func24 rfl trivial ?_
  rcases hfv with rfl | rfl
  · refine sat_lookup (a := some (fnV g)) (es := renEs (rho [] 3) (binsE.map fun p => (strK p.1, p.2))) (key := strK op) tabOk rfl rfl rfl rfl rfl rfl rfl rfl rfl rfl rfl (keys_str _ _) (assoc_ren hf _) rfl ?_
    refine sat_branch tabOk Tryz.func24 rfl trivial (fun h => by cases h) (fun _ => ?_)
    refine sat_branch tabOk Tryz.func24 rfl trivial (fun h => ?_) (fun h => ?_)
    · exact sat_ret tabOk Tryz.func24 rfl trivial rfl
    · have h : ((w : Int) != (v : Int)) = false := h
      simp at h
      omega
  · refine sat_lookup (a := some (.fn (.func g) [.ptr 4 0])) (es := renEs (rho [] 3) (binsE.map fun p => (strK p.1, p.2))) (key := strK op) tabOk rfl rfl rfl rfl rfl rfl rfl rfl rfl rfl rfl (keys_str _ _) (assoc_ren hf _) rfl ?_
    refine sat_branch tabOk Tryz.func24 rfl trivial (fun h => by cases h) (fun _ => ?_)
    refine sat_branch tabOk Tryz.func24 rfl trivial (fun h => ?_) (fun h => ?_)
    · exact sat_ret tabOk Tryz.func24 rfl trivial rfl
    · have h : ((w : Int) != (v : Int)) = false := h
      simp at h
      omega
end Go.Proofs.YtclamogkchdkgaaGreatDoor
namespace Go.Proofs.YtclamogkchdkgaaGreatDoor
open Go Ab
set_option maxRecDepth 100000
set_option linter.unusedVariables false
set_option linter.unusedSimpArgs false

theorem none_callF (w : Nat) (hw : w ≤ 1000000) : ACall Tryz.prog 34 [vI .i64 w] [] (fun r o => r = .d (vN w 0)) := by
  have := (none_call w hw).frz [1] (r3 := .d (vN w 0)) rfl (.agL (by rw [zero_lmb]; exact .refl _))
  exact this
theorem one_lmb {n : Nat} (hn : 0 < n) : (List.replicate n 0).set 0 1 = lmb n 1 := by
  have := setB_lmb (n := n) (X := 0) (j := 0) (by omega)
  rw [← zero_lmb] at this
  rw [show lmb n 1 = lmb n (0 ||| 2 ^ 0) by rfl, ← this, setB]
  congr 1
  cases n with | zero => omega | succ n => simp
theorem one_callO (w : Nat) (hw : 0 < w) (hwb : w ≤ 1000000) : ACall Tryz.prog 62 [vI .i64 w] [] (fun r o => r = .ag [vI .i64 w, .gs 2] ∧ o = [none, none, some (gUs (lmb (limbsN w) 1))]) := by
  refine acall_enter Tryz.func62 rfl rfl (Nat.le_of_ble_eq_true rfl) fun C hC hCl => ?_
  have hn : 0 < limbsN w := by unfold limbsN; omega
  refine sat_callG [] tabOk Tryz.func62 rfl trivial (none_call w hwb) trivial (.refl _) rfl rfl rfl ⟨_, rfl⟩ ?_
  rintro r o ⟨rfl, rfl⟩
  refine sat_retL tabOk Tryz.func62 rfl ?_ hC hCl (.refl _) (o2 := [none, none, some (gUs (lmb (limbsN w) 1))]) ⟨.gL ?_, trivial⟩ rfl rfl (Nat.zero_le _) ⟨rfl, rfl⟩
  · simp only [andP, List.length_map, List.length_replicate]
    exact ⟨by simpa using hn, by simpa using hn⟩
  · rw [← one_lmb hn, List.map_set]
    rfl
theorem one_call (w : Nat) (hw : 0 < w) (hwb : w ≤ 1000000) : ACall Tryz.prog 62 [vI .i64 w] [] (fun r o => r = .d (vN w 1)) := (one_callO w hw hwb).frz [2] rfl (.agL (.refl _))

theorem inc_call (w x : Nat) (hw : 0 < w) (hwb : w ≤ 1000000) : ACall Tryz.prog 64 [.d (vN w x), .ptr 0 0] [some (cF 62)] (fun r o => r = .d (vN w ((x + 1) % 2 ^ w)) ∧ o = [some (cF 62)]) := by
  refine acall_enter Tryz.func64 rfl rfl (Nat.le_of_ble_eq_true rfl) fun C hC hCl => ?_
  refine sat_drawT 5 tabOk Tryz.func64 rfl rfl trivial (by kernel_rfl) ?_
  refine ds_call tabOk rfl trivial (one_call w hw hwb) (callFunc_run Tryz.func62 rfl rfl) (by rintro r o rfl; rfl) (.refl _) rfl rfl ⟨_, rfl⟩ ?_
  refine ds_done tabOk rfl trivial ?_
  refine sat_call tabOk Tryz.func64 rfl trivial (sumN_call w x 1 0 hw hwb (by decide)) (.refl _) rfl ⟨_, rfl⟩ (by rintro r o rfl; rfl) ?_
  rintro r o rfl
  exact sat_retL tabOk Tryz.func64 rfl trivial hC hCl (.refl _) (o2 := [some (cF 62)]) ⟨.refl _, trivial⟩ rfl rfl (Nat.le_refl _) ⟨rfl, rfl⟩
theorem dec_call (w x : Nat) (hw : 0 < w) (hwb : w ≤ 1000000) : ACall Tryz.prog 66 [.d (vN w x), .ptr 0 0] [some (cF 62)] (fun r o => r = .d (vN w ((x + (2 ^ w - (1 + 1)) + 1) % 2 ^ w)) ∧ o = [some (cF 62)]) := by
  refine acall_enter Tryz.func66 rfl rfl (Nat.le_of_ble_eq_true rfl) fun C hC hCl => ?_
  refine sat_drawT 6 tabOk Tryz.func66 rfl rfl trivial (by kernel_rfl) ?_
  refine ds_call tabOk rfl trivial (one_call w hw hwb) (callFunc_run Tryz.func62 rfl rfl) (by rintro r o rfl; rfl) (.refl _) rfl rfl ⟨_, rfl⟩ ?_
  refine ds_call tabOk rfl trivial (turnedN_call w 1 (Nat.one_lt_two_pow (by omega)) hw hwb) (callFunc_run Tryz.func63 rfl rfl) (by rintro r o rfl; rfl) (.refl _) rfl rfl ⟨_, rfl⟩ ?_
  refine ds_done tabOk rfl trivial ?_
  refine sat_call tabOk Tryz.func66 rfl trivial (sumN_call w x (2 ^ w - (1 + 1)) 1 hw hwb (by decide)) (.refl _) rfl ⟨_, rfl⟩ (by rintro r o rfl; rfl) ?_
  rintro r o rfl
  exact sat_retL tabOk Tryz.func66 rfl trivial hC hCl (.refl _) (o2 := [some (cF 62)]) ⟨.refl _, trivial⟩ rfl rfl (Nat.le_refl _) ⟨rfl, rfl⟩
theorem neg_call (w x : Nat) (hx : x < 2 ^ w) (hw : 0 < w) (hwb : w ≤ 1000000) : ACall Tryz.prog 67 [.d (vN w x)] [] (fun r o => r = .d (vN w ((0 + (2 ^ w - (x + 1)) + 1) % 2 ^ w))) := by
  refine acall_enter Tryz.func67 rfl rfl (Nat.le_of_ble_eq_true rfl) fun C hC hCl => ?_
  refine sat_drawT 4 tabOk Tryz.func67 rfl rfl trivial (by kernel_rfl) ?_
  refine ds_call tabOk rfl trivial (none_callF w hwb) (callFunc_run Tryz.func34 rfl rfl) (by rintro r o rfl; rfl) (.refl _) rfl rfl ⟨_, rfl⟩ ?_
  refine ds_done tabOk rfl trivial ?_
  refine sat_call tabOk Tryz.func67 rfl trivial (turnedN_call w x hx hw hwb) (.refl _) rfl ⟨_, rfl⟩ (by rintro r o rfl; rfl) ?_
  rintro r o rfl
  refine sat_call tabOk Tryz.func67 rfl trivial (sumN_call w 0 (2 ^ w - (x + 1)) 1 hw hwb (by decide)) (.refl _) rfl ⟨_, rfl⟩ (by rintro r o rfl; rfl) ?_
  rintro r o rfl
  exact sat_ret tabOk Tryz.func67 rfl trivial rfl

theorem add_call (w x y : Nat) (hw : 0 < w) (hwb : w ≤ 1000000) : ACall Tryz.prog 83 [.d (vN w x), .d (vN w y)] [] (fun r o => r = .d (vN w ((x + y) % 2 ^ w))) := by
  refine acall_enter Tryz.func83 rfl rfl (Nat.le_of_ble_eq_true rfl) fun C hC hCl => ?_
  refine sat_call tabOk Tryz.func83 rfl trivial (sumN_call w x y 0 hw hwb (by decide)) (.refl _) rfl ⟨_, rfl⟩ (by rintro r o rfl; rfl) ?_
  rintro r o rfl
  exact sat_ret tabOk Tryz.func83 rfl trivial rfl
theorem sub_call (w x y : Nat) (hy : y < 2 ^ w) (hw : 0 < w) (hwb : w ≤ 1000000) : ACall Tryz.prog 84 [.d (vN w x), .d (vN w y)] [] (fun r o => r = .d (vN w ((x + (2 ^ w - (y + 1)) + 1) % 2 ^ w))) := by
  refine acall_enter Tryz.func84 rfl rfl (Nat.le_of_ble_eq_true rfl) fun C hC hCl => ?_
  refine sat_drawT 3 tabOk Tryz.func84 rfl rfl trivial (by kernel_rfl) ?_
  refine ds_call tabOk rfl trivial (turnedN_call w y hy hw hwb) (callFunc_run Tryz.func63 rfl rfl) (by rintro r o rfl; rfl) (.refl _) rfl rfl ⟨_, rfl⟩ ?_
  refine ds_done tabOk rfl trivial ?_
  refine sat_call tabOk Tryz.func84 rfl trivial (sumN_call w x (2 ^ w - (y + 1)) 1 hw hwb (by decide)) (.refl _) rfl ⟨_, rfl⟩ (by rintro r o rfl; rfl) ?_
  rintro r o rfl
  exact sat_ret tabOk Tryz.func84 rfl trivial rfl
theorem sll_call (w x y : Nat) (hy : y < 2 ^ w) (hw : 0 < w) (hwb : w ≤ 128) : ACall Tryz.prog 89 [.d (vN w x), .d (vN w y)] [] (fun r o => r = .d (vN w (x * 2 ^ (min y w) % 2 ^ w))) := by
  refine acall_enter Tryz.func89 rfl rfl (Nat.le_of_ble_eq_true rfl) fun C hC hCl => ?_
  refine sat_drawT 3 tabOk Tryz.func89 rfl rfl trivial (by kernel_rfl) ?_
  refine ds_call tabOk rfl trivial (placesN_call w y hw hwb hy) (callFunc_run Tryz.func90 rfl rfl) (by rintro r o rfl; rfl) (.refl _) rfl rfl ⟨_, rfl⟩ ?_
  refine ds_done tabOk rfl trivial ?_
  refine sat_call tabOk Tryz.func89 rfl trivial (upN_call w (min y w) x (by omega) (Nat.min_le_right _ _)) (.refl _) rfl ⟨_, rfl⟩ (by rintro r o rfl; rfl) ?_
  rintro r o rfl
  exact sat_ret tabOk Tryz.func89 rfl trivial rfl
theorem srl_call (w x y : Nat) (hy : y < 2 ^ w) (hw : 0 < w) (hwb : w ≤ 128) : ACall Tryz.prog 91 [.d (vN w x), .d (vN w y)] [] (fun r o => r = .d (vN w (dnN w x (min y w) false w))) := by
  refine acall_enter Tryz.func91 rfl rfl (Nat.le_of_ble_eq_true rfl) fun C hC hCl => ?_
  refine sat_drawT 3 tabOk Tryz.func91 rfl rfl trivial (by kernel_rfl) ?_
  refine ds_call tabOk rfl trivial (placesN_call w y hw hwb hy) (callFunc_run Tryz.func90 rfl rfl) (by rintro r o rfl; rfl) (.refl _) rfl rfl ⟨_, rfl⟩ ?_
  refine ds_done tabOk rfl trivial ?_
  refine sat_call tabOk Tryz.func91 rfl trivial (downN_call w x (min y w) false hw (by omega) (by omega)) (.refl _) rfl ⟨_, rfl⟩ (by rintro r o rfl; rfl) ?_
  rintro r o rfl
  exact sat_ret tabOk Tryz.func91 rfl trivial rfl
theorem sra_call (w x y : Nat) (hy : y < 2 ^ w) (hw : 0 < w) (hwb : w ≤ 128) : ACall Tryz.prog 93 [.d (vN w x), .d (vN w y)] [] (fun r o => r = .d (vN w (dnN w x (min y w) (x.testBit (w - 1)) w))) := by
  refine acall_enter Tryz.func93 rfl rfl (Nat.le_of_ble_eq_true rfl) fun C hC hCl => ?_
  have e1 : IntKind.i64.wrap ((w : Int) - 1) = ((w - 1 : Nat) : Int) := by rw [wrap_id (by omega) (by omega)]; omega
  refine sat_drawT 8 tabOk Tryz.func93 rfl rfl trivial (by kernel_rfl) ?_
  refine ds_call tabOk rfl trivial (placesN_call w y hw hwb hy) (callFunc_run Tryz.func90 rfl rfl) (by rintro r o rfl; rfl) (.refl _) rfl rfl ⟨_, rfl⟩ ?_
  refine ds_call tabOk rfl trivial (BitN_call w x ((w - 1 : Nat) : Int) (by omega)) (callFunc_run Tryz.func17 rfl rfl) (by rintro r o rfl; rw [bitI'_nat (by omega)]) ⟨.refl _, .of (by show vI .i64 (IntKind.i64.wrap ((w : Int) - 1)) = _; rw [e1]), trivial⟩ rfl rfl ⟨_, rfl⟩ ?_
  refine ds_done tabOk rfl trivial ?_
  refine sat_call tabOk Tryz.func93 rfl trivial (downN_call w x (min y w) (x.testBit (w - 1)) hw (by omega) (by omega)) (.refl _) rfl ⟨_, rfl⟩ (by rintro r o rfl; rfl) ?_
  rintro r o rfl
  exact sat_ret tabOk Tryz.func93 rfl trivial rfl
theorem SameN_call (w x v y : Nat) (hx : x < 2 ^ w) (hy : y < 2 ^ v) : ACall Tryz.prog 21 [.d (vN w x), .d (vN v y)] [] (fun r o => r = vB (decide (w = v) && decide (x = y))) := by
  have := Same_call w v (lmb (limbsN w) x) (lmb (limbsN v) y)
  have e : sameV w (lmb (limbsN w) x) v (lmb (limbsN v) y) = (decide (w = v) && decide (x = y)) := by
    unfold sameV
    by_cases h : w = v
    · subst h
      by_cases h2 : x = y
      · subst h2; simp
      · have : lmb (limbsN w) x ≠ lmb (limbsN w) y := fun h3 => h2 (lmb_inj (lt_limbs hx) (lt_limbs hy) h3)
        simp [this, h2]
    · have : (w : Int) ≠ v := by omega
      simp [h, this]
  rwa [e] at this
theorem eq_call (w x y : Nat) (hx : x < 2 ^ w) (hy : y < 2 ^ w) : ACall Tryz.prog 94 [.d (vN w x), .d (vN w y)] [] (fun r o => r = .d (vN 1 (if x = y then 1 else 0))) := by
  refine acall_enter Tryz.func94 rfl rfl (Nat.le_of_ble_eq_true rfl) fun C hC hCl => ?_
  refine sat_call tabOk Tryz.func94 rfl trivial (SameN_call w x w y hx hy) (.refl _) rfl ⟨_, rfl⟩ (by rintro r o rfl; rfl) ?_
  rintro r o rfl
  refine sat_call tabOk Tryz.func94 rfl trivial (flagN_call (decide (w = w) && decide (x = y))) (.refl _) rfl ⟨_, rfl⟩ (by rintro r o rfl; rfl) ?_
  rintro r o rfl
  refine sat_ret tabOk Tryz.func94 rfl trivial ?_
  by_cases h : x = y
  · subst h; simp; rfl
  · simp [h]; rfl
end Go.Proofs.YtclamogkchdkgaaGreatDoor
namespace Go.Proofs.YtclamogkchdkgaaGreatDoor
open Go Ab
set_option maxRecDepth 100000
set_option linter.unusedVariables false
set_option linter.unusedSimpArgs false

/-! ### What goes by way of text -/
def txt (w x : Nat) : List UInt8 := (List.range w).map fun i => digU (x.testBit (w - 1 - i))
theorem txt_len (w x : Nat) : (txt w x).length = w := by simp [txt]
theorem TextN_call (w x : Nat) (h0 : 0 < w) (hb : w ≤ 100000) : ACall Tryz.prog 19 [.d (vN w x)] [] (fun r o => r = vSL (txt w x)) := by
  have := Text_call w (lmb (limbsN w) x) (lmb_lims _ _) (by rw [lmb_len]; exact Nat.le_refl _) h0 hb
  rwa [show textU w (lmb (limbsN w) x) = txt w x from List.map_congr_left fun i hi => by
    have := List.mem_range.1 hi
    rw [bitN_lmb (limbs_at (by omega))]] at this
/-- A text of digits, bit 0 last. -/
def isT (l : List UInt8) (f : Nat → Bool) : Prop := ∀ i, i < l.length → l.getD (l.length - 1 - i) 0 = digU (f i)
theorem is01_dig (b : Bool) : is01 (digU b) = true := by cases b <;> decide
theorem mkR_T {l : List UInt8} {f : Nat → Bool} (h1 : 1 ≤ l.length) (h2 : l.length ≤ 128) (h : isT l f) : mkR l = tupOf [.d (vN l.length (ofB f l.length)), vI .i64 0] := by
  have hok : mkok l = true := by
    simp only [mkok, Bool.and_eq_true, decide_eq_true_eq, List.all_eq_true]
    refine ⟨⟨h1, h2⟩, fun c hc => ?_⟩
    obtain ⟨i, hi, rfl⟩ := List.mem_iff_getElem.1 hc
    have := h (l.length - 1 - i) (by omega)
    rw [show l.length - 1 - (l.length - 1 - i) = i by omega] at this
    have e : l.getD i 0 = l[i] := by simp [hi]
    rw [← e, this]
    exact is01_dig _
  have hn : mkN l = ofB f l.length := ofB_eq (ofB_lt _ _) fun i hi => by
    rw [h i hi, ofB_tb]
    cases f i <;> simp [hi, digU]
  rw [mkR, if_pos hok, hn]
theorem ofB_self {w x : Nat} (hx : x < 2 ^ w) : ofB (fun i => x.testBit i) w = x := ofB_eq hx fun i _ => rfl
theorem isT_txt (w x : Nat) : isT (txt w x) fun i => x.testBit i := by
  intro i hi
  rw [txt_len] at hi ⊢
  simp [txt, show w - 1 - i < w by omega, show w - 1 - (w - 1 - i) = i by omega]
theorem isT_app {a b : List UInt8} {f g : Nat → Bool} (ha : isT a f) (hb : isT b g) : isT (a ++ b) fun i => if i < b.length then g i else f (i - b.length) := by
  intro i hi
  show (a ++ b).getD _ 0 = digU (if i < b.length then g i else f (i - b.length))
  rw [List.length_append] at hi ⊢
  by_cases h : i < b.length
  · have := hb i h
    rw [if_pos h, ← this, List.getD_eq_getElem?_getD, List.getD_eq_getElem?_getD, List.getElem?_append_right (by omega)]
    congr 2
    omega
  · have := ha (i - b.length) (by omega)
    rw [if_neg h, ← this, List.getD_eq_getElem?_getD, List.getD_eq_getElem?_getD, List.getElem?_append_left (by omega)]
    congr 2
    omega

theorem cat_list (a b : List UInt8) : (⟨a.toArray⟩ : ByteArray) ++ ⟨b.toArray⟩ = ⟨(a ++ b).toArray⟩ := by
  apply ByteArray.ext
  rw [ByteArray.data_append]
  simp
def jnN (w x v y : Nat) : Nat := ofB (fun i => if i < v then y.testBit i else x.testBit (i - v)) (w + v)
theorem joined_call (w x v y : Nat) (hw : 0 < w) (hv : 0 < v) (hwb : w ≤ 128) (hvb : v ≤ 128) : ACall Tryz.prog 49 [.d (vN w x), .d (vN v y)] [] (fun r o => r = if w + v ≤ 128 then tupOf [.d (vN (w + v) (jnN w x v y)), vI .i64 0] else tupOf [.d z24, vI .i64 5]) := by
  refine acall_enter Tryz.func49 rfl rfl (Nat.le_of_ble_eq_true rfl) fun C hC hCl => ?_
  have e1 : IntKind.i64.wrap ((w : Int) + v) = ((w + v : Nat) : Int) := by rw [wrap_id (by omega) (by omega)]; omega
  refine sat_branch tabOk Tryz.func49 rfl trivial (fun h => ?_) (fun h => ?_)
  · have h : decide (IntKind.i64.wrap ((w : Int) + v) > 128) = true := h
    rw [e1, decide_eq_true_eq] at h
    refine sat_ret tabOk Tryz.func49 rfl trivial ?_
    rw [if_neg (by omega)]
    rfl
  · have h : decide (IntKind.i64.wrap ((w : Int) + v) > 128) = false := h
    rw [e1, decide_eq_false_iff_not] at h
    have hlen : (txt w x ++ txt v y).length = w + v := by rw [List.length_append, txt_len, txt_len]
    have hT := mkR_T (l := txt w x ++ txt v y) (by omega) (by omega) (isT_app (isT_txt w x) (isT_txt v y))
    rw [hlen, txt_len] at hT
    refine sat_drawT 8 tabOk Tryz.func49 rfl rfl trivial (by kernel_rfl) ?_
    refine ds_call tabOk rfl trivial (TextN_call w x hw (by omega)) (callFunc_run Tryz.func19 rfl rfl) (by rintro r o rfl; rfl) (.refl _) rfl rfl ⟨_, rfl⟩ ?_
    refine ds_call tabOk rfl trivial (TextN_call v y hv (by omega)) (callFunc_run Tryz.func19 rfl rfl) (by rintro r o rfl; rfl) (.refl _) rfl rfl ⟨_, rfl⟩ ?_
    refine ds_call tabOk rfl ?_ (Make_call (txt w x ++ txt v y) (by omega)) (callFunc_run Tryz.func12 rfl rfl) (by rintro r o rfl; exact hT) ⟨.of ?_, trivial⟩ rfl rfl ⟨_, rfl⟩ ?_
    · rw [size_list, size_list, txt_len, txt_len]
      exact ⟨by omega, trivial⟩
    · rw [cat_list]
    refine ds_done tabOk rfl trivial ?_
    refine sat_ret tabOk Tryz.func49 rfl trivial ?_
    rw [if_pos (by omega)]
    rfl

def slN (x lo n : Nat) : Nat := ofB (fun i => x.testBit (lo + i)) n
theorem isT_cut {w x lo hi : Nat} (h1 : lo ≤ hi) (h2 : hi < w) : (((txt w x).take (w - lo)).drop (w - 1 - hi)).length = hi - lo + 1 ∧ isT (((txt w x).take (w - lo)).drop (w - 1 - hi)) fun i => x.testBit (lo + i) := by
  have hl : (((txt w x).take (w - lo)).drop (w - 1 - hi)).length = hi - lo + 1 := by rw [List.length_drop, List.length_take, txt_len]; omega
  refine ⟨hl, fun i hi' => ?_⟩
  rw [hl] at hi' ⊢
  have := isT_txt w x (lo + i) (by rw [txt_len]; omega)
  rw [txt_len] at this
  rw [← this, List.getD_eq_getElem?_getD, List.getD_eq_getElem?_getD, List.getElem?_drop, List.getElem?_take, if_pos (by omega)]
  congr 2
  omega
theorem Slice_ok (w x lo hi : Nat) (hwb : w ≤ 128) (h1 : lo ≤ hi) (h2 : hi < w) : ACall Tryz.prog 26 [.d (vN w x), vI .i64 hi, vI .i64 lo] [] (fun r o => r = tupOf [.d (vN (hi - lo + 1) (slN x lo (hi - lo + 1))), vI .i64 0]) := by
  refine acall_enter Tryz.func26 rfl rfl (Nat.le_of_ble_eq_true rfl) fun C hC hCl => ?_
  have e1 : IntKind.i64.wrap (IntKind.i64.wrap ((w : Int) - 1) - hi) = ((w - 1 - hi : Nat) : Int) := by
    rw [wrap_id (n := (w : Int) - 1) (by omega) (by omega), wrap_id (by omega) (by omega)]; omega
  have e2 : IntKind.i64.wrap ((w : Int) - lo) = ((w - lo : Nat) : Int) := by rw [wrap_id (by omega) (by omega)]; omega
  obtain ⟨hl, hT⟩ := isT_cut (x := x) h1 h2
  have hM := mkR_T (by omega) (by omega) hT
  rw [hl] at hM
  refine sat_branch tabOk Tryz.func26 rfl trivial (fun h => by simp at h; omega) (fun _ => ?_)
  refine sat_branch tabOk Tryz.func26 rfl trivial (fun h => by simp at h; omega) (fun _ => ?_)
  refine sat_branch tabOk Tryz.func26 rfl trivial (fun h => by simp at h; omega) (fun _ => ?_)
  refine sat_call tabOk Tryz.func26 rfl trivial (TextN_call w x (by omega) (by omega)) (.refl _) rfl ⟨_, rfl⟩ (by rintro r o rfl; rfl) ?_
  rintro r o rfl
  refine sat_call tabOk Tryz.func26 rfl ?_ (Make_call (((txt w x).take (w - lo)).drop (w - 1 - hi)) (by omega)) ⟨.of ?_, trivial⟩ rfl ⟨_, rfl⟩ ?_ ?_
  · simp only [e1, e2, size_list, txt_len]
    exact ⟨⟨by omega, by omega, by omega⟩, trivial⟩
  · show vS _ = vS _
    rw [e1, e2, ext_list]
    rfl
  · rintro r o rfl
    rw [hM]
    rfl
  rintro r o rfl
  rw [hM]
  exact sat_ret tabOk Tryz.func26 rfl trivial rfl
theorem Slice_no (w x : Nat) (lo hi : Int) (h : lo < 0 ∨ hi < lo ∨ (w : Int) ≤ hi) : ACall Tryz.prog 26 [.d (vN w x), vI .i64 hi, vI .i64 lo] [] (fun r o => r = tupOf [.d z24, vI .i64 5]) := by
  refine acall_enter Tryz.func26 rfl rfl (Nat.le_of_ble_eq_true rfl) fun C hC hCl => ?_
  refine sat_branch tabOk Tryz.func26 rfl trivial (fun _ => ?_) (fun h1 => ?_)
  · refine sat_branch tabOk Tryz.func26 rfl trivial (fun _ => ?_) (fun h => by cases h)
    refine sat_branch tabOk Tryz.func26 rfl trivial (fun _ => ?_) (fun h => by cases h)
    exact sat_ret tabOk Tryz.func26 rfl trivial rfl
  refine sat_branch tabOk Tryz.func26 rfl trivial (fun _ => ?_) (fun h2 => ?_)
  · refine sat_branch tabOk Tryz.func26 rfl trivial (fun _ => ?_) (fun h => by cases h)
    exact sat_ret tabOk Tryz.func26 rfl trivial rfl
  refine sat_branch tabOk Tryz.func26 rfl trivial (fun _ => ?_) (fun h3 => ?_)
  · exact sat_ret tabOk Tryz.func26 rfl trivial rfl
  · simp at h1 h2 h3
    omega

def exN (w x n : Nat) (b : Bool) : Nat := ofB (fun i => if i < w then x.testBit i else b) (w + n)
theorem isT_rep (n : Nat) (b : Bool) : isT (List.replicate n (digU b)) fun _ => b := by
  intro i hi
  rw [List.length_replicate] at hi ⊢
  simp [List.getElem?_replicate, show n - 1 - i < n by omega]
theorem Ext_ok (w x n : Nat) (s : Bool) (hw : 0 < w) (hwb : w ≤ 128) (hn : w + n ≤ 128) (hrep : ACall Tryz.prog 53 [vSL [digU (s && x.testBit (w - 1))], vI .i64 n] [] (fun r o => r = vSL (List.replicate n (digU (s && x.testBit (w - 1)))))) : ACall Tryz.prog 28 [.d (vN w x), vI .i64 n, vB s] [] (fun r o => r = tupOf [.d (vN (w + n) (exN w x n (s && x.testBit (w - 1)))), vI .i64 0]) := by
  refine acall_enter Tryz.func28 rfl rfl (Nat.le_of_ble_eq_true rfl) fun C hC hCl => ?_
  have e1 : IntKind.i64.wrap ((w : Int) - 1) = ((w - 1 : Nat) : Int) := by rw [wrap_id (by omega) (by omega)]; omega
  have e2 : IntKind.i64.wrap (128 - (w : Int)) = ((128 - w : Nat) : Int) := by rw [wrap_id (by omega) (by omega)]; omega
  have hlen : (List.replicate n (digU (s && x.testBit (w - 1))) ++ txt w x).length = w + n := by rw [List.length_append, List.length_replicate, txt_len]; omega
  have hM := mkR_T (by omega) (by omega) (isT_app (isT_rep n (s && x.testBit (w - 1))) (isT_txt w x))
  rw [hlen, txt_len] at hM
  refine sat_branch tabOk Tryz.func28 rfl trivial (fun h => by simp at h; omega) (fun _ => ?_)
  refine sat_branch tabOk Tryz.func28 rfl trivial (fun h => ?_) (fun _ => ?_)
  · have h : decide ((n : Int) > IntKind.i64.wrap (128 - (w : Int))) = true := h
    rw [e2, decide_eq_true_eq] at h
    omega
  cases s with
  | true =>
    refine sat_branch tabOk Tryz.func28 rfl trivial (fun _ => ?_) (fun h => by cases h)
    refine sat_call tabOk Tryz.func28 rfl trivial (BitN_call w x ((w - 1 : Nat) : Int) (by omega)) ⟨.refl _, .of (by show vI .i64 (IntKind.i64.wrap ((w : Int) - 1)) = _; rw [e1]), trivial⟩ rfl ⟨_, rfl⟩ (by rintro r o rfl; rfl) ?_
    rintro r o rfl
    rw [bitI'_nat (by omega)]
    rw [Bool.true_and] at hrep hM hlen ⊢
    refine sat_branch tabOk Tryz.func28 rfl trivial (fun h => ?_) (fun h => ?_)
    · rw [h] at hrep hM hlen ⊢
      refine sat_drawT 9 tabOk Tryz.func28 rfl rfl trivial (by kernel_rfl) ?_
      refine ds_call tabOk rfl trivial (hrep) (callFunc_run Tryz.func53 rfl rfl) (by rintro r o rfl; rfl) (.refl _) rfl rfl ⟨_, rfl⟩ ?_
      refine ds_call tabOk rfl trivial (TextN_call w x hw (by omega)) (callFunc_run Tryz.func19 rfl rfl) (by rintro r o rfl; rfl) (.refl _) rfl rfl ⟨_, rfl⟩ ?_
      refine ds_call tabOk rfl ?_ (Make_call (List.replicate n (digU true) ++ txt w x) (by omega)) (callFunc_run Tryz.func12 rfl rfl) (by rintro r o rfl; exact hM) ⟨.of (by rw [cat_list]), trivial⟩ rfl rfl ⟨_, rfl⟩ ?_
      · rw [size_list, size_list, txt_len, List.length_replicate]
        exact ⟨by omega, trivial⟩
      refine ds_done tabOk rfl trivial ?_
      refine sat_ret tabOk Tryz.func28 rfl trivial ?_
      rfl
    · rw [h] at hrep hM hlen ⊢
      refine sat_drawT 9 tabOk Tryz.func28 rfl rfl trivial (by kernel_rfl) ?_
      refine ds_call tabOk rfl trivial (hrep) (callFunc_run Tryz.func53 rfl rfl) (by rintro r o rfl; rfl) (.refl _) rfl rfl ⟨_, rfl⟩ ?_
      refine ds_call tabOk rfl trivial (TextN_call w x hw (by omega)) (callFunc_run Tryz.func19 rfl rfl) (by rintro r o rfl; rfl) (.refl _) rfl rfl ⟨_, rfl⟩ ?_
      refine ds_call tabOk rfl ?_ (Make_call (List.replicate n (digU false) ++ txt w x) (by omega)) (callFunc_run Tryz.func12 rfl rfl) (by rintro r o rfl; exact hM) ⟨.of (by rw [cat_list]), trivial⟩ rfl rfl ⟨_, rfl⟩ ?_
      · rw [size_list, size_list, txt_len, List.length_replicate]
        exact ⟨by omega, trivial⟩
      refine ds_done tabOk rfl trivial ?_
      refine sat_ret tabOk Tryz.func28 rfl trivial ?_
      rfl
  | false =>
    refine sat_branch tabOk Tryz.func28 rfl trivial (fun h => by cases h) (fun _ => ?_)
    refine sat_branch tabOk Tryz.func28 rfl trivial (fun h => by cases h) (fun _ => ?_)
    rw [Bool.false_and] at hrep hM hlen ⊢
    refine sat_drawT 9 tabOk Tryz.func28 rfl rfl trivial (by kernel_rfl) ?_
    refine ds_call tabOk rfl trivial (hrep) (callFunc_run Tryz.func53 rfl rfl) (by rintro r o rfl; rfl) (.refl _) rfl rfl ⟨_, rfl⟩ ?_
    refine ds_call tabOk rfl trivial (TextN_call w x hw (by omega)) (callFunc_run Tryz.func19 rfl rfl) (by rintro r o rfl; rfl) (.refl _) rfl rfl ⟨_, rfl⟩ ?_
    refine ds_call tabOk rfl ?_ (Make_call (List.replicate n (digU false) ++ txt w x) (by omega)) (callFunc_run Tryz.func12 rfl rfl) (by rintro r o rfl; exact hM) ⟨.of (by rw [cat_list]), trivial⟩ rfl rfl ⟨_, rfl⟩ ?_
    · rw [size_list, size_list, txt_len, List.length_replicate]
      exact ⟨by omega, trivial⟩
    refine ds_done tabOk rfl trivial ?_
    refine sat_ret tabOk Tryz.func28 rfl trivial ?_
    rfl
theorem Ext_no (w x : Nat) (n : Int) (s : Bool) (hwb : w ≤ 128) (h : n < 0 ∨ (128 : Int) < w + n) : ACall Tryz.prog 28 [.d (vN w x), vI .i64 n, vB s] [] (fun r o => r = tupOf [.d z24, vI .i64 5]) := by
  refine acall_enter Tryz.func28 rfl rfl (Nat.le_of_ble_eq_true rfl) fun C hC hCl => ?_
  have e2 : IntKind.i64.wrap (128 - (w : Int)) = 128 - (w : Int) := wrap_id (by omega) (by omega)
  refine sat_branch tabOk Tryz.func28 rfl trivial (fun _ => ?_) (fun h1 => ?_)
  · refine sat_branch tabOk Tryz.func28 rfl trivial (fun _ => ?_) (fun h => by cases h)
    exact sat_ret tabOk Tryz.func28 rfl trivial rfl
  refine sat_branch tabOk Tryz.func28 rfl trivial (fun _ => ?_) (fun h2 => ?_)
  · exact sat_ret tabOk Tryz.func28 rfl trivial rfl
  · have h2 : decide (n > IntKind.i64.wrap (128 - (w : Int))) = false := h2
    rw [e2] at h2
    simp at h1 h2
    omega
theorem Ite_ok (c w x y : Nat) (hc : c < 2 ^ 1) : ACall Tryz.prog 30 [.d (vN 1 c), .d (vN w x), .d (vN w y)] [] (fun r o => r = tupOf [.d (vN w (if c = 1 then x else y)), vI .i64 0]) := by
  refine acall_enter Tryz.func30 rfl rfl (Nat.le_of_ble_eq_true rfl) fun C hC hCl => ?_
  refine sat_branch tabOk Tryz.func30 rfl trivial (fun h => by cases h) (fun _ => ?_)
  refine sat_branch tabOk Tryz.func30 rfl trivial (fun h => ?_) (fun _ => ?_)
  · have h : ((w : Int) != (w : Int)) = true := h
    simp at h
  refine sat_call tabOk Tryz.func30 rfl trivial (BitN_call 1 c 0 (by omega)) (.refl _) rfl ⟨_, rfl⟩ (by rintro r o rfl; rfl) ?_
  rintro r o rfl
  have hb : bitI' 1 c 0 = decide (c = 1) := by
    have : c = 0 ∨ c = 1 := by omega
    rcases this with rfl | rfl <;> decide
  rw [hb]
  refine sat_branch tabOk Tryz.func30 rfl trivial (fun h => ?_) (fun h => ?_)
  · refine sat_ret tabOk Tryz.func30 rfl trivial ?_
    rw [if_pos (by simpa using h)]
    rfl
  · refine sat_ret tabOk Tryz.func30 rfl trivial ?_
    rw [if_neg (by simpa using h)]
    rfl
theorem Ite_no (c u w v x y : Nat) (h : u ≠ 1 ∨ w ≠ v) : ACall Tryz.prog 30 [.d (vN u c), .d (vN w x), .d (vN v y)] [] (fun r o => r = tupOf [.d z24, vI .i64 5]) := by
  refine acall_enter Tryz.func30 rfl rfl (Nat.le_of_ble_eq_true rfl) fun C hC hCl => ?_
  refine sat_branch tabOk Tryz.func30 rfl trivial (fun _ => ?_) (fun h1 => ?_)
  · refine sat_branch tabOk Tryz.func30 rfl trivial (fun _ => ?_) (fun h => by cases h)
    exact sat_ret tabOk Tryz.func30 rfl trivial rfl
  refine sat_branch tabOk Tryz.func30 rfl trivial (fun _ => ?_) (fun h2 => ?_)
  · exact sat_ret tabOk Tryz.func30 rfl trivial rfl
  · have h1 : ((u : Int) != (1 : Int)) = false := h1
    have h2 : ((w : Int) != (v : Int)) = false := h2
    simp at h1 h2
    omega
end Go.Proofs.YtclamogkchdkgaaGreatDoor
namespace Go.Proofs.YtclamogkchdkgaaGreatDoor
open Go Ab
set_option maxRecDepth 100000
set_option linter.unusedVariables false
set_option linter.unusedSimpArgs false

/-! ### The reference: bits one by one -/
def eB (b : Bool) : D := .v (.bool b)
@[reducible] def eBs (l : List Bool) : D := eL 1 eB false l
@[reducible] def gBs (l : List Bool) : AObj := gL 4 1 eB false l

theorem power_call (n : Nat) (hn : n < 64) : ACall Tryz.prog 37 [vI .i64 n] [] (fun r o => r = vU (2 ^ n)) := by
  refine acall_enter Tryz.func37 rfl rfl (Nat.le_of_ble_eq_true rfl) fun C hC hCl => ?_
  refine sat_stop tabOk Tryz.func37 rfl trivial ?_
  refine sat_while (α := Nat) (fun i => [(0, vI .i64 n), (3, vU (2 ^ i)), (4, vI .i64 i)]) (fun i => []) (fun i => i ≤ n) (fun i => n - i) 0 (Nat.zero_le _) ?_ ?_
  · exact fun h => sat_le h hC hCl ⟨⟨_, rfl, .refl _⟩, ⟨_, rfl, .refl _⟩, ⟨_, rfl, .refl _⟩, trivial⟩ trivial rfl rfl (Nat.zero_le _)
  rintro i hi ih
  refine sat_branch tabOk Tryz.func37 rfl trivial (fun hb => ?_) (fun hb => ?_) <;> simp only [decide_eq_true_eq, decide_eq_false_iff_not] at hb
  · refine sat_stop tabOk Tryz.func37 rfl trivial ?_
    refine sat_le (ih (i + 1) (by omega) (by omega)) hC hCl ⟨⟨_, rfl, .refl _⟩, ⟨_, rfl, .of ?_⟩, ⟨_, rfl, .of (by rw [wrap_id (by omega) (by omega)]; rfl)⟩, trivial⟩ trivial rfl rfl (Nat.zero_le _)
    show vI .u64 (IntKind.u64.wrap (((2 ^ i : Nat) : Int) * 2)) = _
    rw [show ((2 ^ i : Nat) : Int) * 2 = ((2 ^ (i + 1) : Nat) : Int) by rw [Nat.pow_succ]; omega, wrapU_id (pow64 (by omega))]
  · obtain rfl : i = n := by omega
    exact sat_ret tabOk Tryz.func37 rfl trivial rfl

theorem rBit_call (w x : Nat) (i : Int) (hb : w ≤ 1000000) : ACall Tryz.prog 18 [.d (vN w x), vI .i64 i] [] (fun r o => r = vB (bitI' w x i)) := by
  refine acall_enter Tryz.func18 rfl rfl (Nat.le_of_ble_eq_true rfl) fun C hC hCl => ?_
  refine sat_branch tabOk Tryz.func18 rfl trivial (fun h => ?_) (fun h => ?_)
  · refine sat_branch tabOk Tryz.func18 rfl trivial (fun _ => ?_) (fun h => by cases h)
    refine sat_ret tabOk Tryz.func18 rfl trivial ?_
    simp at h
    simp [bitI', show ¬ 0 ≤ i by omega]
    rfl
  refine sat_branch tabOk Tryz.func18 rfl trivial (fun h2 => ?_) (fun h2 => ?_)
  · refine sat_ret tabOk Tryz.func18 rfl trivial ?_
    simp at h2
    simp [bitI', show ¬ i < w by omega]
    rfl
  simp at h h2
  obtain ⟨n, rfl⟩ : ∃ n : Nat, i = n := ⟨i.toNat, by omega⟩
  have hm : n % 64 < 64 := Nat.mod_lt _ (by decide)
  have e1 : IntKind.i64.wrap ((n : Int).tdiv 64) = ((n / 64 : Nat) : Int) := by rw [show (n : Int).tdiv 64 = ((n / 64 : Nat) : Int) from rfl, wrap_id (by omega) (by omega)]
  have hl := limbs_at (show n < w by omega)
  refine sat_drawT 9 tabOk Tryz.func18 rfl rfl trivial (by kernel_rfl) ?_
  refine ds_call tabOk rfl ?_ (power_call (n % 64) hm) (callFunc_run Tryz.func37 rfl rfl) (by rintro r o rfl; rfl) (.refl _) rfl rfl ⟨_, rfl⟩ ?_
  · simp only [e1, List.length_map, lmb_len]
    exact ⟨by decide, ⟨by omega, by omega⟩, by decide, trivial⟩
  refine ds_done tabOk rfl trivial ?_
  have hp : 0 < 2 ^ (n % 64) := Nat.two_pow_pos _
  refine sat_ret tabOk Tryz.func18 rfl ⟨by decide, by omega, trivial⟩ ?_
  rw [bitI'_nat (by omega)]
  have key : IntKind.u64.wrap ((((lmb (limbsN w) x).getD (IntKind.i64.wrap ((n : Int).tdiv 64)).toNat 0 : Nat) : Int).tdiv ((2 ^ (n % 64) : Nat) : Int)) = (((lmb (limbsN w) x).getD (n / 64) 0 / 2 ^ (n % 64) : Nat) : Int) := by
    rw [e1, Int.toNat_natCast, tdivN, wrapU_id (Nat.lt_of_le_of_lt (Nat.div_le_self _ _) (lims_get (lmb_lims _ _) _))]
  show vB ((IntKind.u64.wrap ((((lmb (limbsN w) x).getD (IntKind.i64.wrap ((n : Int).tdiv 64)).toNat 0 : Nat) : Int).tdiv ((2 ^ (n % 64) : Nat) : Int))).tmod 2 == 1) = _
  rw [key, ← bitN_lmb hl, bitN]
  rw [show (2 : Int) = ((2 : Nat) : Int) from rfl, tmodN]
  have hd : ∀ m : Nat, ((m : Int) == 1) = (m == 1) := fun m => by
    by_cases e : m = 1
    · subst e; rfl
    · rw [beq_eq_false_iff_ne.2 e, beq_eq_false_iff_ne]
      omega
  rw [hd]

/-- Bits, by a function. -/
def bl (n : Nat) (f : Nat → Bool) : List Bool := (List.range n).map f
theorem bl_len (n : Nat) (f : Nat → Bool) : (bl n f).length = n := by simp [bl]
theorem bl_succ (n : Nat) (f : Nat → Bool) : bl (n + 1) f = bl n f ++ [f n] := by simp [bl, List.range_succ]
theorem bl_get {n i : Nat} {f : Nat → Bool} (h : i < n) : (bl n f).getD i false = f i := by simp [bl, h]
theorem bl_congr {n : Nat} {f g : Nat → Bool} (h : ∀ i, i < n → f i = g i) : bl n f = bl n g := List.map_congr_left fun i hi => h i (List.mem_range.1 hi)

theorem Bits_call (w x : Nat) (hb : w ≤ 1000000) : ACall Tryz.prog 43 [.d (vN w x)] [] (fun r o => r = .d (eBs (bl w x.testBit))) := by
  refine acall_enter Tryz.func43 rfl rfl (Nat.le_of_ble_eq_true rfl) fun C hC hCl => ?_
  refine sat_stop tabOk Tryz.func43 rfl trivial ?_
  refine sat_own (s := 1) (e := 4) (t := 3) (.inl rfl) (fun i => eB (([] : List Bool).getD i false)) ?_
  refine sat_while (α := Nat) (fun i => [(1, .ptr 0 0), (3, .gs 1), (4, vI .i64 i)]) (fun i => [some (bN w x), some (gBs (bl i x.testBit))]) (fun i => i ≤ w) (fun i => w - i) 0 (Nat.zero_le _) ?_ ?_
  · exact fun h => sat_le h hC hCl ⟨⟨_, rfl, .refl _⟩, ⟨_, rfl, .refl _⟩, ⟨_, rfl, .refl _⟩, trivial⟩ ⟨.refl _, .refl _, trivial⟩ rfl rfl (Nat.zero_le _)
  rintro i hi ih
  refine sat_branch tabOk Tryz.func43 rfl trivial (fun hb => ?_) (fun hb => ?_) <;> simp only [decide_eq_true_eq, decide_eq_false_iff_not] at hb
  · refine sat_call tabOk Tryz.func43 rfl trivial (rBit_call w x i (by omega)) (.refl _) rfl ⟨_, rfl⟩ (by rintro r o rfl; rfl) ?_
    rintro r o rfl
    rw [bitI'_nat (by omega)]
    refine sat_stop tabOk Tryz.func43 rfl ?_ ?_
    · simp only [List.length_map, bl_len, andP]
      exact ⟨show (i + 1) * 1 ≤ 140737488355328 by omega, trivial⟩
    refine sat_le (ih (i + 1) (by omega) (by omega)) hC hCl ⟨⟨_, rfl, .refl _⟩, ⟨_, rfl, .refl _⟩, ⟨_, rfl, .of (by rw [wrap_id (by omega) (by omega)]; rfl)⟩, trivial⟩ ⟨.refl _, .gL ?_, trivial⟩ rfl rfl (Nat.zero_le _)
    rw [bl_succ, List.map_append]
    rfl
  · obtain rfl : i = w := by omega
    refine sat_freeze 1 rfl ?_
    exact sat_ret tabOk Tryz.func43 rfl trivial rfl

theorem not_call (n : Nat) (f : Nat → Bool) (hb : n ≤ 1000000) : ACall Tryz.prog 44 [.d (eBs (bl n f))] [] (fun r o => r = .d (eBs (bl n fun i => !f i))) := by
  refine acall_enter Tryz.func44 rfl rfl (Nat.le_of_ble_eq_true rfl) fun C hC hCl => ?_
  refine sat_stop tabOk Tryz.func44 rfl trivial ?_
  refine sat_own (s := 1) (e := 4) (t := 3) (.inl rfl) (fun i => eB (([] : List Bool).getD i false)) ?_
  refine sat_while (α := Nat) (fun i => [(0, .d (eBs (bl n f))), (3, .gs 0), (4, vI .i64 i)]) (fun i => [some (gBs (bl i fun i => !f i))]) (fun i => i ≤ n) (fun i => n - i) 0 (Nat.zero_le _) ?_ ?_
  · exact fun h => sat_le h hC hCl ⟨⟨_, rfl, .refl _⟩, ⟨_, rfl, .refl _⟩, ⟨_, rfl, .refl _⟩, trivial⟩ ⟨.refl _, trivial⟩ rfl rfl (Nat.zero_le _)
  rintro i hi ih
  refine sat_branch tabOk Tryz.func44 rfl trivial (fun hb => ?_) (fun hb => ?_) <;> simp only [decide_eq_true_eq, decide_eq_false_iff_not, List.length_map, bl_len] at hb
  · refine sat_stop tabOk Tryz.func44 rfl ?_ ?_
    · simp only [List.length_map, bl_len, andP]
      exact ⟨show (i + 1) * 1 ≤ 140737488355328 by omega, ⟨by omega, by omega⟩, trivial⟩
    refine sat_le (ih (i + 1) (by omega) (by omega)) hC hCl ⟨⟨_, rfl, .refl _⟩, ⟨_, rfl, .refl _⟩, ⟨_, rfl, .of (by rw [wrap_id (by omega) (by omega)]; rfl)⟩, trivial⟩ ⟨.gL ?_, trivial⟩ rfl rfl (Nat.zero_le _)
    rw [bl_succ, List.map_append, ← bl_get (f := f) (show i < n by omega)]
    rfl
  · obtain rfl : i = n := by omega
    refine sat_freeze 0 rfl ?_
    exact sat_ret tabOk Tryz.func44 rfl trivial rfl

/-! ### add -/
def maj (a b c : Bool) : Bool := (a && b) || (a && c) || (b && c)
def adC (f g : Nat → Bool) (c : Bool) : Nat → Bool
  | 0 => c
  | i + 1 => maj (f i) (g i) (adC f g c i)
def adS (f g : Nat → Bool) (c : Bool) (i : Nat) : Bool := xor (xor (f i) (g i)) (adC f g c i)
theorem adS_ofB (f g : Nat → Bool) (c : Bool) : ∀ n, ofB (adS f g c) n + (if adC f g c n then 2 ^ n else 0) = ofB f n + ofB g n + (if c then 1 else 0)
  | 0 => by cases c <;> simp [ofB, adC]
  | n + 1 => by
    have ih := adS_ofB f g c n
    have hp : 2 ^ (n + 1) = 2 ^ n + 2 ^ n := by rw [Nat.pow_succ]; omega
    simp only [ofB, adC, adS, hp]
    by_cases hf : f n = true <;> by_cases hg : g n = true <;> by_cases hc : adC f g c n = true <;> simp [hf, hg, hc, maj] at ih ⊢ <;> omega
theorem adS_mod (f g : Nat → Bool) (c : Bool) (n : Nat) : ofB (adS f g c) n = (ofB f n + ofB g n + (if c then 1 else 0)) % 2 ^ n := by
  rw [← adS_ofB]
  split
  · rw [Nat.add_mod_right, Nat.mod_eq_of_lt (ofB_lt _ _)]
  · rw [Nat.add_zero, Nat.mod_eq_of_lt (ofB_lt _ _)]

theorem rAdd_call (n : Nat) (f g : Nat → Bool) (c : Bool) (hb : n ≤ 1000000) : ACall Tryz.prog 45 [.d (eBs (bl n f)), .d (eBs (bl n g)), vB c] [] (fun r o => r = .d (eBs (bl n (adS f g c)))) := by
  refine acall_enter Tryz.func45 rfl rfl (Nat.le_of_ble_eq_true rfl) fun C hC hCl => ?_
  refine sat_stop tabOk Tryz.func45 rfl trivial ?_
  refine sat_own (s := 1) (e := 4) (t := 7) (.inl rfl) (fun i => eB (([] : List Bool).getD i false)) ?_
  refine sat_while (α := Nat) (fun i => [(0, .d (eBs (bl n f))), (1, .d (eBs (bl n g))), (2, vB (adC f g c i)), (7, .gs 0), (8, vI .i64 i)]) (fun i => [some (gBs (bl i (adS f g c)))]) (fun i => i ≤ n) (fun i => n - i) 0 (Nat.zero_le _) ?_ ?_
  · exact fun h => sat_le h hC hCl ⟨⟨_, rfl, .refl _⟩, ⟨_, rfl, .refl _⟩, ⟨_, rfl, .refl _⟩, ⟨_, rfl, .refl _⟩, ⟨_, rfl, .refl _⟩, trivial⟩ ⟨.refl _, trivial⟩ rfl rfl (Nat.zero_le _)
  rintro i hi ih
  refine sat_branch tabOk Tryz.func45 rfl trivial (fun hb => ?_) (fun hb => ?_) <;> simp only [decide_eq_true_eq, decide_eq_false_iff_not, List.length_map, bl_len] at hb
  · have ef := bl_get (f := f) (show i < n by omega)
    have eg := bl_get (f := g) (show i < n by omega)
    have hbd : ((0 : Int) ≤ (i : Nat) ∧ ((i : Nat) : Int) < (n : Int)) ∧ True := ⟨⟨by omega, by omega⟩, trivial⟩
    have e1 : ((bl n f).getD ((i : Nat) : Int).toNat false) = f i := ef
    have e2 : ((bl n g).getD ((i : Nat) : Int).toNat false) = g i := eg
    refine sat_branch tabOk Tryz.func45 rfl (by simpa [bl_len] using hbd) (fun h1 => ?_) (fun h1 => ?_) <;> rw [e1] at h1
    all_goals refine sat_branch tabOk Tryz.func45 rfl (by simpa [bl_len] using hbd) (fun h2 => ?_) (fun h2 => ?_) <;> rw [e2] at h2
    all_goals refine sat_branch tabOk Tryz.func45 rfl trivial (fun h3 => ?_) (fun h3 => ?_)
    all_goals refine sat_stop tabOk Tryz.func45 rfl ?_ ?_
    all_goals first
      | (simp only [List.length_map, bl_len, andP]; exact ⟨show (i + 1) * 1 ≤ 140737488355328 by omega, by decide, trivial⟩)
      | skip
    all_goals refine sat_le (ih (i + 1) (by omega) (by omega)) hC hCl ⟨⟨_, rfl, .refl _⟩, ⟨_, rfl, .refl _⟩, ⟨_, rfl, .of ?_⟩, ⟨_, rfl, .refl _⟩, ⟨_, rfl, .of (by rw [wrap_id (by omega) (by omega)]; rfl)⟩, trivial⟩ ⟨.gL ?_, trivial⟩ rfl rfl (Nat.zero_le _)
    all_goals first
      | (show _ = vB (maj (f i) (g i) (adC f g c i)); rw [h1, h2, h3]; rfl)
      | (rw [bl_succ, List.map_append]; simp only [adS, h1, h2, h3]; rfl)
  · obtain rfl : i = n := by omega
    refine sat_freeze 0 rfl ?_
    exact sat_ret tabOk Tryz.func45 rfl trivial rfl
end Go.Proofs.YtclamogkchdkgaaGreatDoor
namespace Go.Proofs.YtclamogkchdkgaaGreatDoor
open Go Ab
set_option maxRecDepth 100000
set_option linter.unusedVariables false
set_option linter.unusedSimpArgs false

theorem rSub_call (n : Nat) (f g : Nat → Bool) (hb : n ≤ 1000000) : ACall Tryz.prog 46 [.d (eBs (bl n f)), .d (eBs (bl n g))] [] (fun r o => r = .d (eBs (bl n (adS f (fun i => !g i) true)))) := by
  refine acall_enter Tryz.func46 rfl rfl (Nat.le_of_ble_eq_true rfl) fun C hC hCl => ?_
  refine sat_call tabOk Tryz.func46 rfl trivial (not_call n g hb) (.refl _) rfl ⟨_, rfl⟩ (by rintro r o rfl; rfl) ?_
  rintro r o rfl
  refine sat_call tabOk Tryz.func46 rfl trivial (rAdd_call n f (fun i => !g i) true hb) (.refl _) rfl ⟨_, rfl⟩ (by rintro r o rfl; rfl) ?_
  rintro r o rfl
  exact sat_ret tabOk Tryz.func46 rfl trivial rfl
theorem rFlag_call (b : Bool) : ACall Tryz.prog 47 [vB b] [] (fun r o => r = .d (eBs (bl 1 fun _ => b))) := by
  refine acall_enter Tryz.func47 rfl rfl (Nat.le_of_ble_eq_true rfl) fun C hC hCl => ?_
  exact sat_retL tabOk Tryz.func47 rfl trivial hC hCl (r2 := .d (eBs (bl 1 fun _ => b))) (.eL rfl) (o2 := []) trivial rfl rfl (Nat.zero_le _) rfl

def shF (f : Nat → Bool) (len : Nat) (n : Int) (b : Bool) (i : Nat) : Bool := if 0 ≤ (i : Int) - n ∧ (i : Int) - n < len then f ((i : Int) - n).toNat else b
theorem shift_call (m : Nat) (f : Nat → Bool) (n : Int) (b : Bool) (hb : m ≤ 1000000) (hn : -1000000 ≤ n ∧ n ≤ 1000000) : ACall Tryz.prog 100 [.d (eBs (bl m f)), vI .i64 n, vB b] [] (fun r o => r = .d (eBs (bl m (shF f m n b)))) := by
  refine acall_enter Tryz.func100 rfl rfl (Nat.le_of_ble_eq_true rfl) fun C hC hCl => ?_
  refine sat_stop tabOk Tryz.func100 rfl trivial ?_
  refine sat_own (s := 1) (e := 4) (t := 7) (.inl rfl) (fun i => eB (([] : List Bool).getD i false)) ?_
  refine sat_while (α := Nat) (fun i => [(0, .d (eBs (bl m f))), (1, vI .i64 n), (2, vB b), (7, .gs 0), (8, vI .i64 i)]) (fun i => [some (gBs (bl i (shF f m n b)))]) (fun i => i ≤ m) (fun i => m - i) 0 (Nat.zero_le _) ?_ ?_
  · exact fun h => sat_le h hC hCl ⟨⟨_, rfl, .refl _⟩, ⟨_, rfl, .refl _⟩, ⟨_, rfl, .refl _⟩, ⟨_, rfl, .refl _⟩, ⟨_, rfl, .refl _⟩, trivial⟩ ⟨.refl _, trivial⟩ rfl rfl (Nat.zero_le _)
  rintro i hi ih
  refine sat_branch tabOk Tryz.func100 rfl trivial (fun hb => ?_) (fun hb => ?_) <;> simp only [decide_eq_true_eq, decide_eq_false_iff_not, List.length_map, bl_len] at hb
  · have e1 : IntKind.i64.wrap ((i : Int) - n) = (i : Int) - n := wrap_id (by omega) (by omega)
    have hin : ∀ z : List D, z = (bl i (shF f m n b)).map eB ++ [eB (shF f m n b i)] → z = (bl (i + 1) (shF f m n b)).map eB := fun z hz => by rw [hz, bl_succ, List.map_append]; rfl
    refine sat_branch tabOk Tryz.func100 rfl trivial (fun h => ?_) (fun h => ?_)
    · have h : decide (IntKind.i64.wrap ((i : Int) - n) ≥ 0) = true := h
      rw [e1, decide_eq_true_eq] at h
      refine sat_branch tabOk Tryz.func100 rfl trivial (fun h2 => ?_) (fun h2 => ?_)
      · have h2 : decide (IntKind.i64.wrap ((i : Int) - n) < ((bl m f).map eB).length) = true := h2
        rw [e1, decide_eq_true_eq, List.length_map, bl_len] at h2
        refine sat_stop tabOk Tryz.func100 rfl ?_ ?_
        · simp only [List.length_map, bl_len, andP, e1]
          exact ⟨show (i + 1) * 1 ≤ 140737488355328 by omega, ⟨by omega, by omega⟩, trivial⟩
        refine sat_le (ih (i + 1) (by omega) (by omega)) hC hCl ⟨⟨_, rfl, .refl _⟩, ⟨_, rfl, .refl _⟩, ⟨_, rfl, .refl _⟩, ⟨_, rfl, .refl _⟩, ⟨_, rfl, .of (by rw [wrap_id (by omega) (by omega)]; rfl)⟩, trivial⟩ ⟨.gL (hin _ ?_), trivial⟩ rfl rfl (Nat.zero_le _)
        show _ ++ [eB ((bl m f).getD (IntKind.i64.wrap ((i : Int) - n)).toNat false)] = _
        rw [shF, if_pos ⟨h, h2⟩, e1, bl_get (by omega)]
      · have h2 : decide (IntKind.i64.wrap ((i : Int) - n) < ((bl m f).map eB).length) = false := h2
        rw [e1, decide_eq_false_iff_not, List.length_map, bl_len] at h2
        refine sat_stop tabOk Tryz.func100 rfl ?_ ?_
        · simp only [List.length_map, bl_len, andP]
          exact ⟨show (i + 1) * 1 ≤ 140737488355328 by omega, trivial⟩
        refine sat_le (ih (i + 1) (by omega) (by omega)) hC hCl ⟨⟨_, rfl, .refl _⟩, ⟨_, rfl, .refl _⟩, ⟨_, rfl, .refl _⟩, ⟨_, rfl, .refl _⟩, ⟨_, rfl, .of (by rw [wrap_id (by omega) (by omega)]; rfl)⟩, trivial⟩ ⟨.gL (hin _ ?_), trivial⟩ rfl rfl (Nat.zero_le _)
        rw [shF, if_neg (by omega)]
        rfl
    · have h : decide (IntKind.i64.wrap ((i : Int) - n) ≥ 0) = false := h
      rw [e1, decide_eq_false_iff_not] at h
      refine sat_branch tabOk Tryz.func100 rfl trivial (fun h => by cases h) (fun _ => ?_)
      refine sat_stop tabOk Tryz.func100 rfl ?_ ?_
      · simp only [List.length_map, bl_len, andP]
        exact ⟨show (i + 1) * 1 ≤ 140737488355328 by omega, trivial⟩
      refine sat_le (ih (i + 1) (by omega) (by omega)) hC hCl ⟨⟨_, rfl, .refl _⟩, ⟨_, rfl, .refl _⟩, ⟨_, rfl, .refl _⟩, ⟨_, rfl, .refl _⟩, ⟨_, rfl, .of (by rw [wrap_id (by omega) (by omega)]; rfl)⟩, trivial⟩ ⟨.gL (hin _ ?_), trivial⟩ rfl rfl (Nat.zero_le _)
      rw [shF, if_neg (by omega)]
      rfl
  · obtain rfl : i = m := by omega
    refine sat_freeze 0 rfl ?_
    exact sat_ret tabOk Tryz.func100 rfl trivial rfl

theorem ofB_t {f : Nat → Bool} {i : Nat} (h : f i = true) : ofB f (i + 1) = ofB f i ||| 2 ^ i := by
  have hlt : ofB f i < 2 ^ i := ofB_lt _ _
  have := Nat.two_pow_add_eq_or_of_lt hlt 1
  rw [Nat.mul_one] at this
  rw [Nat.or_comm, ← this, Nat.add_comm (2 ^ i), ofB, if_pos h]
theorem ofB_f {f : Nat → Bool} {i : Nat} (h : f i = false) : ofB f (i + 1) = ofB f i := by
  rw [ofB, if_neg (by simp [h]), Nat.add_zero]
theorem lw_top {X i : Nat} (hX : X < 2 ^ i) : lw X (i / 64) < 2 ^ (i % 64) := by
  rw [lw]
  refine Nat.lt_of_le_of_lt (Nat.mod_le _ _) ?_
  rw [Nat.div_lt_iff_lt_mul (Nat.two_pow_pos _), ← Nat.pow_add]
  rwa [show i % 64 + 64 * (i / 64) = i by omega]
theorem add_top {X n i : Nat} (hi : i / 64 < n) (hX : X < 2 ^ i) : (lmb n X).set (i / 64) ((lmb n X).getD (i / 64) 0 + 2 ^ (i % 64)) = lmb n (X ||| 2 ^ i) := by
  rw [← setB_lmb hi, setB]
  congr 1
  have h := lw_top hX
  have := Nat.two_pow_add_eq_or_of_lt h 1
  rw [Nat.mul_one] at this
  rw [lmb_get hi, Nat.or_comm, ← this, Nat.add_comm]
theorem Of_call (n : Nat) (f : Nat → Bool) (hb : n ≤ 1000000) : ACall Tryz.prog 36 [.d (eBs (bl n f))] [] (fun r o => r = .d (vN n (ofB f n))) := by
  refine acall_enter Tryz.func36 rfl rfl (Nat.le_of_ble_eq_true rfl) fun C hC hCl => ?_
  have e0 : IntKind.i64.wrap ((IntKind.i64.wrap ((n : Int) + 63)).tdiv 64) = ((limbsN n : Nat) : Int) := by
    rw [wrap_id (n := (n : Int) + 63) (by omega) (by omega)]
    have : ((n : Int) + 63).tdiv 64 = ((limbsN n : Nat) : Int) := by
      rw [show (n : Int) + 63 = ((n + 63 : Nat) : Int) by omega]
      rfl
    rw [this, wrap_id (by unfold limbsN; omega) (by unfold limbsN; omega)]
  have hn : limbsN n ≤ 1000000 := by unfold limbsN; omega
  refine sat_stop tabOk Tryz.func36 rfl ?_ ?_
  · simp only [List.length_map, bl_len, andP, e0]
    exact ⟨⟨by omega, by omega, by omega⟩, by decide, trivial⟩
  refine sat_while (α := Nat) (fun i => [(0, .d (eBs (bl n f))), (2, .ptr 0 0), (3, .ptr 2 0), (4, vI .i64 i)]) (fun i => [some zV, some (gUs (lmb (limbsN n) (ofB f i))), some (cV n 1)]) (fun i => i ≤ n) (fun i => n - i) 0 (Nat.zero_le _) ?_ ?_
  · refine fun h => sat_le h hC hCl ⟨⟨_, rfl, .refl _⟩, ⟨_, rfl, .refl _⟩, ⟨_, rfl, .refl _⟩, ⟨_, rfl, .refl _⟩, trivial⟩ ⟨.refl _, .gL ?_, .of ?_, trivial⟩ rfl rfl (Nat.zero_le _)
    · simp only [List.length_map, bl_len, e0, Int.toNat_natCast]
      show _ = (lmb (limbsN n) 0).map eU
      rw [← zero_lmb, List.map_replicate]
      rfl
    · simp only [List.length_map, bl_len]
      rfl
  rintro i hi ih
  refine sat_branch tabOk Tryz.func36 rfl trivial (fun hb => ?_) (fun hb => ?_) <;> simp only [decide_eq_true_eq, decide_eq_false_iff_not, List.length_map, bl_len] at hb
  · have hbd : ((0 : Int) ≤ (i : Nat) ∧ ((i : Nat) : Int) < (n : Int)) ∧ True := ⟨⟨by omega, by omega⟩, trivial⟩
    have ef : ((bl n f).getD ((i : Nat) : Int).toNat false) = f i := bl_get (f := f) (show i < n by omega)
    have hm : i % 64 < 64 := Nat.mod_lt _ (by decide)
    have hil : i / 64 < limbsN n := limbs_at (by omega)
    have e1 : IntKind.i64.wrap ((i : Int).tdiv 64) = ((i / 64 : Nat) : Int) := by rw [show (i : Int).tdiv 64 = ((i / 64 : Nat) : Int) from rfl, wrap_id (by omega) (by omega)]
    refine sat_branch tabOk Tryz.func36 rfl (by simpa [bl_len] using hbd) (fun h1 => ?_) (fun h1 => ?_) <;> rw [ef] at h1
    · refine sat_drawT 14 tabOk Tryz.func36 rfl rfl trivial (by kernel_rfl) ?_
      refine ds_call tabOk rfl ?_ (power_call (i % 64) hm) (callFunc_run Tryz.func37 rfl rfl) (by rintro r o rfl; rfl) (.refl _) rfl rfl ⟨_, rfl⟩ ?_
      · simp only [e1, Int.toNat_natCast, List.length_map, lmb_len]
        exact ⟨by decide, hil, ⟨by omega, by omega⟩, by decide, by decide, trivial⟩
      refine ds_done tabOk rfl trivial ?_
      refine sat_stop tabOk Tryz.func36 rfl ?_ ?_
      · simp only [e1, Int.toNat_natCast, List.length_map, lmb_len, andP]
        exact ⟨hil, ⟨by omega, by omega⟩, trivial⟩
      refine sat_le (ih (i + 1) (by omega) (by omega)) hC hCl ⟨⟨_, rfl, .refl _⟩, ⟨_, rfl, .refl _⟩, ⟨_, rfl, .refl _⟩, ⟨_, rfl, .of (by rw [wrap_id (by omega) (by omega)]; rfl)⟩, trivial⟩ ⟨.refl _, .gL ?_, .refl _, trivial⟩ rfl rfl (Nat.zero_le _)
      rw [ofB_t h1, ← add_top hil (ofB_lt f i), List.map_set]
      simp only [e1, Int.toNat_natCast]
      congr 1
      show D.v (.int .u64 (IntKind.u64.wrap _)) = D.v (.int .u64 _)
      have hlw := lw_top (ofB_lt f i)
      have hp := pow64 hm
      have hp2 : 2 ^ (i % 64) * 2 ≤ 2 ^ 64 := by rw [← Nat.pow_succ]; exact Nat.pow_le_pow_right (by decide) (by omega)
      rw [← Int.natCast_add, wrapU_id]
      rw [lmb_get hil]
      omega
    · refine sat_stop tabOk Tryz.func36 rfl trivial ?_
      exact sat_le (ih (i + 1) (by omega) (by omega)) hC hCl ⟨⟨_, rfl, .refl _⟩, ⟨_, rfl, .refl _⟩, ⟨_, rfl, .refl _⟩, ⟨_, rfl, .of (by rw [wrap_id (by omega) (by omega)]; rfl)⟩, trivial⟩ ⟨.refl _, .of (by rw [ofB_f h1]), .refl _, trivial⟩ rfl rfl (Nat.zero_le _)
  · obtain rfl : i = n := by omega
    refine sat_freeze 1 rfl ?_
    exact sat_ret tabOk Tryz.func36 rfl trivial rfl
end Go.Proofs.YtclamogkchdkgaaGreatDoor
namespace Go.Proofs.YtclamogkchdkgaaGreatDoor
open Go Ab
set_option maxRecDepth 100000
set_option linter.unusedVariables false
set_option linter.unusedSimpArgs false

theorem Small_call (w : Int) (l : List Nat) : ACall Tryz.prog 11 [.d (eV w l)] [] (fun r o => r = vB (decide (l.length ≤ 4))) := by
  refine acall_enter Tryz.func11 rfl rfl (Nat.le_of_ble_eq_true rfl) fun C hC hCl => ?_
  refine sat_ret tabOk Tryz.func11 rfl trivial ?_
  show vB (decide (((l.map eU).length : Int) ≤ 4)) = _
  rw [List.length_map, show decide ((l.length : Int) ≤ 4) = decide (l.length ≤ 4) from decide_eq_decide.2 (by omega)]

theorem rRight_call (w : Int) (l : List Nat) (hl : lims l) (hlen : l.length ≤ maxLen) : ACall Tryz.prog 14 [.d (eV w l)] [] (fun r o => r = vB (rightV w l)) := by
  refine acall_enter Tryz.func14 rfl rfl (Nat.le_of_ble_eq_true rfl) fun C hC hCl => ?_
  refine sat_branch tabOk Tryz.func14 rfl trivial (fun h => ?_) (fun h => ?_)
  · have h : decide (w < 1) = true := h
    refine sat_branch tabOk Tryz.func14 rfl trivial (fun _ => ?_) (fun h => by cases h)
    refine sat_branch tabOk Tryz.func14 rfl trivial (fun _ => ?_) (fun h => by cases h)
    refine sat_ret tabOk Tryz.func14 rfl trivial ?_
    simp at h
    simp [rightV, show ¬ 1 ≤ w by omega]
    rfl
  have h : decide (w < 1) = false := h
  simp at h
  refine sat_branch tabOk Tryz.func14 rfl trivial (fun h2 => ?_) (fun h2 => ?_)
  · have h2 : decide (w > 128) = true := h2
    refine sat_branch tabOk Tryz.func14 rfl trivial (fun _ => ?_) (fun h => by cases h)
    refine sat_ret tabOk Tryz.func14 rfl trivial ?_
    simp at h2
    simp [rightV, show ¬ w ≤ 128 by omega]
    rfl
  have h2 : decide (w > 128) = false := h2
  simp at h2
  obtain ⟨n, rfl⟩ : ∃ n : Nat, w = n := ⟨w.toNat, by omega⟩
  have e0 : IntKind.i64.wrap ((IntKind.i64.wrap ((n : Int) + 63)).tdiv 64) = ((limbsN n : Nat) : Int) := by
    rw [wrap_id (n := (n : Int) + 63) (by omega) (by omega)]
    have : ((n : Int) + 63).tdiv 64 = ((limbsN n : Nat) : Int) := by
      rw [show (n : Int) + 63 = ((n + 63 : Nat) : Int) by omega]
      rfl
    rw [this, wrap_id (by unfold limbsN; omega) (by unfold limbsN; omega)]
  refine sat_branch tabOk Tryz.func14 rfl ?_ (fun h3 => ?_) (fun h3 => ?_)
  · exact ⟨by decide, trivial⟩
  · have h3 : (((l.map eU).length : Int) != IntKind.i64.wrap ((IntKind.i64.wrap ((n : Int) + 63)).tdiv 64)) = true := h3
    rw [e0, List.length_map] at h3
    refine sat_ret tabOk Tryz.func14 rfl trivial ?_
    simp at h3
    simp [rightV, show ¬ l.length = limbsN n by omega]
    rfl
  · have h3 : (((l.map eU).length : Int) != IntKind.i64.wrap ((IntKind.i64.wrap ((n : Int) + 63)).tdiv 64)) = false := h3
    rw [e0, List.length_map] at h3
    have h3 : l.length = limbsN n := by simp at h3; omega
    have hln : 0 < limbsN n ∧ limbsN n ≤ 2 := by unfold limbsN; omega
    have hm : n % 64 < 64 := Nat.mod_lt _ (by omega)
    have e2 : IntKind.i64.wrap ((l.length : Int) - 1) = ((l.length - 1 : Nat) : Int) := by rw [wrap_id (by omega) (by omega)]; omega
    refine sat_drawT 17 tabOk Tryz.func14 rfl rfl trivial (by kernel_rfl) ?_
    refine ds_branch tabOk rfl ?_ (fun h4 => ?_) (fun h4 => ?_)
    · exact ⟨by decide, trivial⟩
    · have h4 : (((n : Int).tmod 64) == 0) = true := h4
      refine ds_done tabOk rfl trivial ?_
      refine sat_ret tabOk Tryz.func14 rfl trivial ?_
      rw [show ((64 : Int)) = ((64 : Nat) : Int) from rfl, tmodN] at h4
      simp at h4
      simp [rightV, h3, show n % 64 = 0 by omega, show (1 : Int) ≤ n by omega, show (n : Int) ≤ 128 by omega]
      rfl
    · have h4 : (((n : Int).tmod 64) == 0) = false := h4
      rw [show ((64 : Int)) = ((64 : Nat) : Int) from rfl, tmodN] at h4
      simp at h4
      refine ds_call tabOk rfl ?_ (power_call (n % 64) hm) (callFunc_run Tryz.func37 rfl rfl) (by rintro r o rfl; rfl) (.refl _) rfl rfl ⟨_, rfl⟩ ?_
      · simp only [e2, List.length_map]
        exact ⟨by decide, ⟨by omega, by omega⟩, trivial⟩
      refine ds_done tabOk rfl trivial ?_
      refine sat_ret tabOk Tryz.func14 rfl trivial ?_
      have hd : decide ((((l.getD (IntKind.i64.wrap (((l.map eU).length : Int) - 1)).toNat 0 : Nat)) : Int) < ((2 ^ (n % 64) : Nat) : Int)) = rightV n l := by
        rw [List.length_map, e2, Int.toNat_natCast]
        simp only [rightV, Int.toNat_natCast]
        rw [decide_eq_true (show (1 : Int) ≤ n by omega), decide_eq_true (show (n : Int) ≤ 128 by omega), decide_eq_true h3, decide_eq_false (show ¬ n % 64 = 0 by omega)]
        simp only [Bool.true_and, Bool.false_or]
        refine decide_eq_decide.2 ?_
        rw [Nat.div_eq_zero_iff_lt (Nat.two_pow_pos _)]
        omega
      rw [← hd]
      rfl
theorem rSame_call (w v : Int) (l k : List Nat) (hlen : l.length ≤ 1000000) : ACall Tryz.prog 16 [.d (eV w l), .d (eV v k)] [] (fun r o => r = vB (sameV w l v k)) := by
  refine acall_enter Tryz.func16 rfl rfl (Nat.le_of_ble_eq_true rfl) fun C hC hCl => ?_
  refine sat_branch tabOk Tryz.func16 rfl trivial (fun h => ?_) (fun h => ?_)
  · have h : (w != v) = true := h
    refine sat_branch tabOk Tryz.func16 rfl trivial (fun _ => ?_) (fun h => by cases h)
    refine sat_ret tabOk Tryz.func16 rfl trivial ?_
    simp at h
    simp [sameV, h]
    rfl
  have h : (w != v) = false := h
  refine sat_branch tabOk Tryz.func16 rfl trivial (fun h2 => ?_) (fun h2 => ?_)
  · have h2 : (((l.map eU).length : Int) != ((k.map eU).length : Int)) = true := h2
    refine sat_ret tabOk Tryz.func16 rfl trivial ?_
    simp at h2
    have : l ≠ k := fun e => h2 (by rw [e])
    simp [sameV, this]
    rfl
  have h2 : (((l.map eU).length : Int) != ((k.map eU).length : Int)) = false := h2
  simp at h h2
  subst h
  refine sat_stop tabOk Tryz.func16 rfl trivial ?_
  refine sat_while (α := Nat) (fun i => [(2, .ptr 0 0), (3, .ptr 1 0), (5, vI .i64 i)]) (fun i => [some (bV w l), some (bV w k)]) (fun i => i ≤ l.length ∧ l.take i = k.take i) (fun i => l.length - i) 0 ⟨Nat.zero_le _, rfl⟩ ?_ ?_
  · exact fun h => sat_le h hC hCl ⟨⟨_, rfl, .refl _⟩, ⟨_, rfl, .refl _⟩, ⟨_, rfl, .refl _⟩, trivial⟩ ⟨.refl _, .refl _, trivial⟩ rfl rfl (Nat.zero_le _)
  rintro i ⟨hi, ht⟩ ih
  refine sat_branch tabOk Tryz.func16 rfl trivial (fun hb => ?_) (fun hb => ?_) <;> simp only [decide_eq_true_eq, decide_eq_false_iff_not, List.length_map] at hb
  · have hlt : i < l.length := by omega
    have el : l.getD i 0 = l[i] := by simp [hlt]
    have ek : k.getD i 0 = k[i] := by simp [show i < k.length by omega]
    refine sat_drawT 10 tabOk Tryz.func16 rfl rfl trivial (by kernel_rfl) ?_
    refine ds_done tabOk rfl ?_ ?_
    · simp only [List.length_map]
      exact ⟨⟨by omega, by omega⟩, ⟨by omega, by omega⟩, trivial⟩
    refine sat_branch tabOk Tryz.func16 rfl trivial (fun h3 => ?_) (fun h3 => ?_)
    · have h3 : ((((l.getD i 0 : Nat)) : Int) != ((k.getD i 0 : Nat) : Int)) = true := h3
      simp only [bne_iff_ne, ne_eq] at h3
      refine sat_ret tabOk Tryz.func16 rfl trivial ?_
      have : l ≠ k := fun e => h3 (by rw [e])
      simp [sameV, this]
      rfl
    · have h3 : ((((l.getD i 0 : Nat)) : Int) != ((k.getD i 0 : Nat) : Int)) = false := h3
      simp only [bne_eq_false_iff_eq] at h3
      refine sat_stop tabOk Tryz.func16 rfl trivial ?_
      refine sat_le (ih (i + 1) ⟨by omega, ?_⟩ (by omega)) hC hCl ⟨⟨_, rfl, .refl _⟩, ⟨_, rfl, .refl _⟩, ⟨_, rfl, .of (by rw [wrap_id (by omega) (by omega)]; rfl)⟩, trivial⟩ ⟨.refl _, .refl _, trivial⟩ rfl rfl (Nat.zero_le _)
      rw [List.take_add_one, List.take_add_one, ht]
      have : l.getD i 0 = k.getD i 0 := by omega
      rw [el, ek] at this
      simp [hlt, show i < k.length by omega, this]
  · have : l = k := by
      rw [List.take_of_length_le (by omega), List.take_of_length_le (by omega)] at ht
      exact ht
    refine sat_ret tabOk Tryz.func16 rfl trivial ?_
    simp [sameV, this]
    rfl

def txI (w x i : Nat) : List UInt8 := (txt w x).drop (w - i)
theorem txI_succ {w x i : Nat} (h : i < w) : txI w x (i + 1) = digU (x.testBit i) :: txI w x i := by
  rw [txI, List.drop_eq_getElem_cons (by rw [txt_len]; omega), show w - (i + 1) + 1 = w - i by omega]
  congr 1
  simp [txt, show w - 1 - (w - (i + 1)) = i by omega]
theorem rText_call (w x : Nat) (hb : w ≤ 1000000) : ACall Tryz.prog 20 [.d (vN w x)] [] (fun r o => r = vSL (txt w x)) := by
  refine acall_enter Tryz.func20 rfl rfl (Nat.le_of_ble_eq_true rfl) fun C hC hCl => ?_
  refine sat_stop tabOk Tryz.func20 rfl trivial ?_
  refine sat_while (α := Nat) (fun i => [(1, .ptr 0 0), (3, vSL (txI w x i)), (4, vI .i64 i)]) (fun i => [some (bN w x)]) (fun i => i ≤ w) (fun i => w - i) 0 (Nat.zero_le _) ?_ ?_
  · refine fun h => sat_le h hC hCl ⟨⟨_, rfl, .refl _⟩, ⟨_, rfl, .of ?_⟩, ⟨_, rfl, .refl _⟩, trivial⟩ ⟨.refl _, trivial⟩ rfl rfl (Nat.zero_le _)
    rw [txI, List.drop_of_length_le (by rw [txt_len]; omega)]
  rintro i hi ih
  refine sat_branch tabOk Tryz.func20 rfl trivial (fun hb => ?_) (fun hb => ?_) <;> simp only [decide_eq_true_eq, decide_eq_false_iff_not] at hb
  · have hlen : (txI w x i).length = i := by rw [txI, List.length_drop, txt_len]; omega
    refine sat_call tabOk Tryz.func20 rfl trivial (rBit_call w x i (by omega)) (.refl _) rfl ⟨_, rfl⟩ (by rintro r o rfl; rfl) ?_
    rintro r o rfl
    rw [bitI'_nat (by omega)]
    refine sat_branch tabOk Tryz.func20 rfl trivial (fun h => ?_) (fun h => ?_)
    all_goals refine sat_stop tabOk Tryz.func20 rfl ?_ ?_
    · rw [show (⟨#[49]⟩ : ByteArray) = ⟨([49] : List UInt8).toArray⟩ from rfl, size_list, size_list, hlen]
      exact ⟨show 1 + i ≤ _ by omega, trivial⟩
    · refine sat_le (ih (i + 1) (by omega) (by omega)) hC hCl ⟨⟨_, rfl, .refl _⟩, ⟨_, rfl, .of ?_⟩, ⟨_, rfl, .of (by rw [wrap_id (by omega) (by omega)]; rfl)⟩, trivial⟩ ⟨.refl _, trivial⟩ rfl rfl (Nat.zero_le _)
      rw [txI_succ (by omega), h]
      exact congrArg vS (cat_list [49] (txI w x i))
    · rw [show (⟨#[48]⟩ : ByteArray) = ⟨([48] : List UInt8).toArray⟩ from rfl, size_list, size_list, hlen]
      exact ⟨show 1 + i ≤ _ by omega, trivial⟩
    · refine sat_le (ih (i + 1) (by omega) (by omega)) hC hCl ⟨⟨_, rfl, .refl _⟩, ⟨_, rfl, .of ?_⟩, ⟨_, rfl, .of (by rw [wrap_id (by omega) (by omega)]; rfl)⟩, trivial⟩ ⟨.refl _, trivial⟩ rfl rfl (Nat.zero_le _)
      rw [txI_succ (by omega), h]
      exact congrArg vS (cat_list [48] (txI w x i))
  · obtain rfl : i = w := by omega
    refine sat_ret tabOk Tryz.func20 rfl trivial ?_
    rw [txI, Nat.sub_self, List.drop_zero]
    rfl

theorem all_drop {l : List UInt8} {k : Nat} (hk : k < l.length) (h : ∀ c ∈ l.drop (l.length - k), is01 c = true) (hc : is01 (l.getD (l.length - 1 - k) 0) = true) : ∀ c ∈ l.drop (l.length - (k + 1)), is01 c = true := by
  have e : l.drop (l.length - (k + 1)) = l.getD (l.length - 1 - k) 0 :: l.drop (l.length - k) := by
    rw [List.drop_eq_getElem_cons (by omega), show l.length - (k + 1) + 1 = l.length - k by omega]
    simp [show l.length - 1 - k < l.length by omega, show l.length - (k + 1) = l.length - 1 - k by omega]
  rw [e]
  intro c hc'
  rcases List.mem_cons.1 hc' with rfl | hc'
  · exact hc
  · exact h c hc'
theorem rMake_call (l : List UInt8) (hl : l.length ≤ 1000000000) : ACall Tryz.prog 13 [vSL l] [] (fun r o => r = mkR l) := by
  refine acall_enter Tryz.func13 rfl rfl (Nat.le_of_ble_eq_true rfl) fun C hC hCl => ?_
  refine sat_branch tabOk Tryz.func13 rfl trivial (fun h => ?_) (fun h => ?_)
  · rw [size_list] at h
    refine sat_branch tabOk Tryz.func13 rfl trivial (fun _ => ?_) (fun h => by cases h)
    refine sat_ret tabOk Tryz.func13 rfl trivial ?_
    simp at h
    rw [mkR, if_neg (by simp [mkok]; omega)]
    rfl
  rw [size_list] at h
  refine sat_branch tabOk Tryz.func13 rfl trivial (fun h2 => ?_) (fun h2 => ?_)
  · rw [size_list] at h2
    refine sat_ret tabOk Tryz.func13 rfl trivial ?_
    simp at h2
    rw [mkR, if_neg (by simp [mkok]; omega)]
    rfl
  rw [size_list] at h2
  have hlen : 1 ≤ l.length ∧ l.length ≤ 128 := by simp at h h2; omega
  have hsz : (⟨l.toArray⟩ : ByteArray).size = l.length := size_list l
  refine sat_stop tabOk Tryz.func13 rfl trivial ?_
  refine sat_own (s := 1) (e := 4) (t := 4) (.inl rfl) (fun i => eB (([] : List Bool).getD i false)) ?_
  refine sat_while (α := Nat) (fun k => [(0, vSL l), (2, .ptr 0 0), (4, .gs 1), (5, vI .i64 ((l.length : Int) - 1 - k))]) (fun k => [some zV, some (gBs (bl k fun i => (l.getD (l.length - 1 - i) 0).toNat == 49))]) (fun k => k ≤ l.length ∧ ∀ c ∈ l.drop (l.length - k), is01 c = true) (fun k => l.length - k) 0 ⟨Nat.zero_le _, by simp⟩ ?_ ?_
  · refine fun h => sat_le h hC hCl ⟨⟨_, rfl, .refl _⟩, ⟨_, rfl, .refl _⟩, ⟨_, rfl, .refl _⟩, ⟨_, rfl, .of ?_⟩, trivial⟩ ⟨.refl _, .refl _, trivial⟩ rfl rfl (Nat.zero_le _)
    show vI .i64 (IntKind.i64.wrap (((⟨l.toArray⟩ : ByteArray).size : Int) - 1)) = _
    rw [hsz, wrap_id (by omega) (by omega)]
    simp
  rintro k ⟨hk, ha⟩ ih
  refine sat_branch tabOk Tryz.func13 rfl trivial (fun hb => ?_) (fun hb => ?_) <;> simp only [decide_eq_true_eq, decide_eq_false_iff_not] at hb
  · have en : ((l.length : Int) - 1 - k).toNat = l.length - 1 - k := by omega
    have hbt : bt ⟨l.toArray⟩ ((l.length : Int) - 1 - k).toNat = ((l.getD (l.length - 1 - k) 0).toNat : Int) := by rw [bt_list, en]
    have hin : (0 ≤ (l.length : Int) - 1 - k ∧ (l.length : Int) - 1 - k < ((⟨l.toArray⟩ : ByteArray).size : Int)) ∧ True := by rw [hsz]; exact ⟨⟨by omega, by omega⟩, trivial⟩
    have hmem : l.getD (l.length - 1 - k) 0 ∈ l := by simp [show l.length - 1 - k < l.length by omega]
    have go : is01 (l.getD (l.length - 1 - k) 0) = true → k + 1 ≤ l.length ∧ ∀ c ∈ l.drop (l.length - (k + 1)), is01 c = true := fun hc => ⟨by omega, all_drop (by omega) ha hc⟩
    have ew : IntKind.i64.wrap ((l.length : Int) - 1 - k - 1) = (l.length : Int) - 1 - ((k + 1 : Nat) : Int) := by rw [wrap_id (by omega) (by omega)]; omega
    refine sat_branch tabOk Tryz.func13 rfl hin (fun h3 => ?_) (fun h3 => ?_)
    · have h3 : (bt ⟨l.toArray⟩ ((l.length : Int) - 1 - k).toNat != 48) = true := h3
      rw [hbt] at h3
      refine sat_branch tabOk Tryz.func13 rfl hin (fun h4 => ?_) (fun h4 => ?_)
      · have h4 : (bt ⟨l.toArray⟩ ((l.length : Int) - 1 - k).toNat != 49) = true := h4
        rw [hbt] at h4
        refine sat_ret tabOk Tryz.func13 rfl trivial ?_
        rw [mkR, if_neg]
        · rfl
        · intro hok
          simp only [mkok, Bool.and_eq_true, List.all_eq_true] at hok
          have := hok.2 _ hmem
          simp only [is01, Bool.or_eq_true, beq_iff_eq] at this
          simp only [bne_iff_ne, ne_eq] at h3 h4
          omega
      · have h4 : (bt ⟨l.toArray⟩ ((l.length : Int) - 1 - k).toNat != 49) = false := h4
        rw [hbt] at h4
        have h5 : (l.getD (l.length - 1 - k) 0).toNat = 49 := by simp only [bne_eq_false_iff_eq] at h4; omega
        refine sat_stop tabOk Tryz.func13 rfl ?_ ?_
        · simp only [List.length_map, bl_len, andP]
          exact ⟨show (k + 1) * 1 ≤ 140737488355328 by omega, hin⟩
        refine sat_le (ih (k + 1) (go (by rw [is01, h5]; rfl)) (by omega)) hC hCl ⟨⟨_, rfl, .refl _⟩, ⟨_, rfl, .refl _⟩, ⟨_, rfl, .refl _⟩, ⟨_, rfl, .of (by rw [← ew])⟩, trivial⟩ ⟨.refl _, .gL ?_, trivial⟩ rfl rfl (Nat.zero_le _)
        show _ ++ [D.v (.bool (bt ⟨l.toArray⟩ ((l.length : Int) - 1 - k).toNat == 49))] = _
        rw [bl_succ, List.map_append, hbt, h5]
        rfl
    · have h3 : (bt ⟨l.toArray⟩ ((l.length : Int) - 1 - k).toNat != 48) = false := h3
      rw [hbt] at h3
      have h5 : (l.getD (l.length - 1 - k) 0).toNat = 48 := by simp only [bne_eq_false_iff_eq] at h3; omega
      refine sat_branch tabOk Tryz.func13 rfl trivial (fun h => by cases h) (fun _ => ?_)
      refine sat_stop tabOk Tryz.func13 rfl ?_ ?_
      · simp only [List.length_map, bl_len, andP]
        exact ⟨show (k + 1) * 1 ≤ 140737488355328 by omega, hin⟩
      refine sat_le (ih (k + 1) (go (by rw [is01, h5]; rfl)) (by omega)) hC hCl ⟨⟨_, rfl, .refl _⟩, ⟨_, rfl, .refl _⟩, ⟨_, rfl, .refl _⟩, ⟨_, rfl, .of (by rw [← ew])⟩, trivial⟩ ⟨.refl _, .gL ?_, trivial⟩ rfl rfl (Nat.zero_le _)
      show _ ++ [D.v (.bool (bt ⟨l.toArray⟩ ((l.length : Int) - 1 - k).toNat == 49))] = _
      rw [bl_succ, List.map_append, hbt, h5]
      rfl
  · obtain rfl : k = l.length := by omega
    refine sat_freeze 1 rfl ?_
    refine sat_call tabOk Tryz.func13 rfl trivial (Of_call l.length _ (by omega)) (.refl _) rfl ⟨_, rfl⟩ (by rintro r o rfl; rfl) ?_
    rintro r o rfl
    refine sat_ret tabOk Tryz.func13 rfl trivial ?_
    rw [mkR, if_pos]
    · rfl
    · simp only [mkok, Bool.and_eq_true, decide_eq_true_eq, List.all_eq_true]
      refine ⟨hlen, ?_⟩
      rw [Nat.sub_self, List.drop_zero] at ha
      exact ha
end Go.Proofs.YtclamogkchdkgaaGreatDoor
namespace Go.Proofs.YtclamogkchdkgaaGreatDoor
open Go Ab
set_option maxRecDepth 100000
set_option linter.unusedVariables false
set_option linter.unusedSimpArgs false

/-! ### shown: what the papers show -/
theorem strT {a b : List UInt8} (h : a = b) : ((⟨a.toArray⟩ : ByteArray).toList == (⟨b.toArray⟩ : ByteArray).toList) = true := by rw [strE, h]; simp
theorem strF {a b : List UInt8} (h : a = b) (h2 : ((⟨a.toArray⟩ : ByteArray).toList == (⟨b.toArray⟩ : ByteArray).toList) = false) : False := by rw [strT h] at h2; cases h2
theorem Make_at (l : List UInt8) (w x : Nat) (hl : l.length ≤ 1000000000) (h : mkR l = tupOf [.d (vN w x), vI .i64 0]) : ACall Tryz.prog 12 [vSL l] [] (fun r o => r = tupOf [.d (vN w x), vI .i64 0]) := (Make_call l hl).mono fun r o hr => hr.trans h
theorem Repeat1_call (l : List UInt8) : ACall Tryz.prog 53 [vSL l, vI .i64 1] [] (fun r o => r = vSL l) := by
  refine acall_enter Tryz.func53 rfl rfl (Nat.le_of_ble_eq_true rfl) fun C hC hCl => ?_
  refine sat_branch tabOk Tryz.func53 rfl trivial (fun h => by cases h) (fun _ => ?_)
  refine sat_branch tabOk Tryz.func53 rfl trivial (fun _ => ?_) (fun h => by cases h)
  exact sat_ret tabOk Tryz.func53 rfl trivial rfl
theorem Repeat0_call (l : List UInt8) : ACall Tryz.prog 53 [vSL l, vI .i64 0] [] (fun r o => r = vSL []) := by
  refine acall_enter Tryz.func53 rfl rfl (Nat.le_of_ble_eq_true rfl) fun C hC hCl => ?_
  refine sat_branch tabOk Tryz.func53 rfl trivial (fun _ => ?_) (fun h => by cases h)
  exact sat_ret tabOk Tryz.func53 rfl trivial rfl

theorem shown_call : ACall Tryz.prog 10 [] [] (fun r o => r = vB true) := by
  refine acall_enter Tryz.func10 rfl rfl (Nat.le_of_ble_eq_true rfl) fun C hC hCl => ?_
  refine sat_call tabOk Tryz.func10 rfl trivial (Make_at [49, 49] 2 3 (by decide) (by kernel_rfl)) (.refl _) rfl ⟨_, rfl⟩ (by rintro r o rfl; rfl) ?_
  rintro r o rfl
  refine sat_call tabOk Tryz.func10 rfl trivial (Make_at [48, 49] 2 1 (by decide) (by kernel_rfl)) (.refl _) rfl ⟨_, rfl⟩ (by rintro r o rfl; rfl) ?_
  rintro r o rfl
  refine sat_call tabOk Tryz.func10 rfl trivial (Bin_fn sAdd _ 2 3 1 2 0 (by decide) rfl (add_call 2 3 1 (by decide) (by decide))) (.refl _) rfl ⟨_, rfl⟩ (by rintro r o rfl; rfl) ?_
  rintro r o rfl
  refine sat_call tabOk Tryz.func10 rfl trivial (Make_at [49, 48, 48] 3 4 (by decide) (by kernel_rfl)) (.refl _) rfl ⟨_, rfl⟩ (by rintro r o rfl; rfl) ?_
  rintro r o rfl
  refine sat_call tabOk Tryz.func10 rfl trivial (Make_at [48, 48, 49] 3 1 (by decide) (by kernel_rfl)) (.refl _) rfl ⟨_, rfl⟩ (by rintro r o rfl; rfl) ?_
  rintro r o rfl
  refine sat_call tabOk Tryz.func10 rfl trivial (Bin_fn sSra _ 3 4 1 3 6 (by decide) rfl (sra_call 3 4 1 (by decide) (by decide) (by decide))) (.refl _) rfl ⟨_, rfl⟩ (by rintro r o rfl; rfl) ?_
  rintro r o rfl
  refine sat_call tabOk Tryz.func10 rfl trivial (Un_fn sNot _ 2 3 2 0 rfl (turnedN_call 2 3 (by decide) (by decide) (by decide))) (.refl _) rfl ⟨_, rfl⟩ (by rintro r o rfl; rfl) ?_
  rintro r o rfl
  refine sat_call tabOk Tryz.func10 rfl trivial (Slice_ok 3 4 1 2 (by decide) (by decide) (by decide)) (.refl _) rfl ⟨_, rfl⟩ (by rintro r o rfl; rfl) ?_
  rintro r o rfl
  refine sat_call tabOk Tryz.func10 rfl trivial (Ext_ok 3 4 1 true (by decide) (by decide) (by decide) (Repeat1_call _)) (.refl _) rfl ⟨_, rfl⟩ (by rintro r o rfl; rfl) ?_
  rintro r o rfl
  refine sat_call tabOk Tryz.func10 rfl trivial (Make_at [49] 1 1 (by decide) (by kernel_rfl)) (.refl _) rfl ⟨_, rfl⟩ (by rintro r o rfl; rfl) ?_
  rintro r o rfl
  refine sat_call tabOk Tryz.func10 rfl trivial (Ite_ok 1 2 3 1 (by decide)) (.refl _) rfl ⟨_, rfl⟩ (by rintro r o rfl; rfl) ?_
  rintro r o rfl
  refine sat_branch tabOk Tryz.func10 rfl trivial (fun _ => ?_) (fun h => absurd h (by decide))
  refine sat_branch tabOk Tryz.func10 rfl trivial (fun _ => ?_) (fun h => absurd h (by decide))
  refine sat_branch tabOk Tryz.func10 rfl trivial (fun _ => ?_) (fun h => absurd h (by decide))
  refine sat_branch tabOk Tryz.func10 rfl trivial (fun _ => ?_) (fun h => absurd h (by decide))
  refine sat_branch tabOk Tryz.func10 rfl trivial (fun _ => ?_) (fun h => absurd h (by decide))
  refine sat_branch tabOk Tryz.func10 rfl trivial (fun _ => ?_) (fun h => absurd h (by decide))
  refine sat_branch tabOk Tryz.func10 rfl trivial (fun _ => ?_) (fun h => absurd h (by decide))
  refine sat_branch tabOk Tryz.func10 rfl trivial (fun _ => ?_) (fun h => absurd h (by decide))
  refine sat_branch tabOk Tryz.func10 rfl trivial (fun _ => ?_) (fun h => absurd h (by decide))
  refine sat_branch tabOk Tryz.func10 rfl trivial (fun _ => ?_) (fun h => absurd h (by decide))
  refine sat_branch tabOk Tryz.func10 rfl trivial (fun _ => ?_) (fun h => absurd h (by decide))
  refine sat_call tabOk Tryz.func10 rfl trivial (TextN_call 2 0 (by decide) (by decide)) (.refl _) rfl ⟨_, rfl⟩ (by rintro r o rfl; rfl) ?_
  rintro r o rfl
  refine sat_branch tabOk Tryz.func10 rfl trivial (fun _ => ?_) (fun h => absurd h (fun h => strF (a := txt 2 0) (b := [48, 48]) (by decide) h))
  refine sat_call tabOk Tryz.func10 rfl trivial (TextN_call 2 0 (by decide) (by decide)) (.refl _) rfl ⟨_, rfl⟩ (by rintro r o rfl; rfl) ?_
  rintro r o rfl
  refine sat_branch tabOk Tryz.func10 rfl trivial (fun _ => ?_) (fun h => absurd h (fun h => strF (a := txt 2 0) (b := [48, 48]) (by decide) h))
  refine sat_call tabOk Tryz.func10 rfl trivial (TextN_call 3 6 (by decide) (by decide)) (.refl _) rfl ⟨_, rfl⟩ (by rintro r o rfl; rfl) ?_
  rintro r o rfl
  refine sat_branch tabOk Tryz.func10 rfl trivial (fun _ => ?_) (fun h => absurd h (fun h => strF (a := txt 3 6) (b := [49, 49, 48]) (by decide) h))
  refine sat_call tabOk Tryz.func10 rfl trivial (TextN_call 2 (slN 4 1 2) (by decide) (by decide)) (.refl _) rfl ⟨_, rfl⟩ (by rintro r o rfl; rfl) ?_
  rintro r o rfl
  refine sat_branch tabOk Tryz.func10 rfl trivial (fun _ => ?_) (fun h => absurd h (fun h => strF (a := txt 2 (slN 4 1 2)) (b := [49, 48]) (by decide) h))
  refine sat_call tabOk Tryz.func10 rfl trivial (TextN_call 4 (exN 3 4 1 (true && (4 : Nat).testBit (3 - 1))) (by decide) (by decide)) (.refl _) rfl ⟨_, rfl⟩ (by rintro r o rfl; rfl) ?_
  rintro r o rfl
  refine sat_branch tabOk Tryz.func10 rfl trivial (fun _ => ?_) (fun h => absurd h (fun h => strF (a := txt 4 (exN 3 4 1 (true && (4 : Nat).testBit (3 - 1)))) (b := [49, 49, 48, 48]) (by decide) h))
  refine sat_call tabOk Tryz.func10 rfl trivial (TextN_call 2 (if 1 = 1 then 3 else 1) (by decide) (by decide)) (.refl _) rfl ⟨_, rfl⟩ (by rintro r o rfl; rfl) ?_
  rintro r o rfl
  refine sat_branch tabOk Tryz.func10 rfl trivial (fun _ => ?_) (fun h => absurd h (fun h => strF (a := txt 2 (if 1 = 1 then 3 else 1)) (b := [49, 49]) (by decide) h))
  refine sat_call tabOk Tryz.func10 rfl trivial (Right_call ((2 : Nat) : Int) (lmb (limbsN 2) 3) (lmb_lims _ _) (by decide)) (.refl _) rfl ⟨_, rfl⟩ (by rintro r o rfl; rfl) ?_
  rintro r o rfl
  rw [right_of_lmb (n := 2) (x := 3) (by decide) (by decide) (by decide)]
  refine sat_branch tabOk Tryz.func10 rfl trivial (fun _ => ?_) (fun h => by cases h)
  refine sat_call tabOk Tryz.func10 rfl trivial (BitN_call 2 3 1 (by decide)) (.refl _) rfl ⟨_, rfl⟩ (by rintro r o rfl; rfl) ?_
  rintro r o rfl
  rw [show bitI' 2 3 1 = true by decide]
  refine sat_branch tabOk Tryz.func10 rfl trivial (fun _ => ?_) (fun h => by cases h)
  refine sat_call tabOk Tryz.func10 rfl trivial (SameN_call 2 3 2 3 (by decide) (by decide)) (.refl _) rfl ⟨_, rfl⟩ (by rintro r o rfl; rfl) ?_
  rintro r o rfl
  exact sat_ret tabOk Tryz.func10 rfl trivial rfl
end Go.Proofs.YtclamogkchdkgaaGreatDoor
namespace Go.Proofs.YtclamogkchdkgaaGreatDoor
open Go Ab
set_option maxRecDepth 100000
set_option linter.unusedVariables false
set_option linter.unusedSimpArgs false

theorem z24_le : VLe (.d z24) (.d (eV 0 [])) := .dag ⟨.refl _, fun _ _ _ h => by cases h with | v _ => exact .nil (Nat.zero_le _), trivial⟩
theorem mkR_form (l : List UInt8) : ∃ (w' : Int) (q : D) (l' : List Nat) (f : Int), mkR l = tupOf [.d (.ag [eI w', q]), vI .i64 f] ∧ VLe (.d (.ag [eI w', q])) (.d (eV w' l')) ∧ l'.length ≤ 1000 := by
  by_cases h : mkok l = true
  · refine ⟨l.length, eUs (lmb (limbsN l.length) (mkN l)), lmb (limbsN l.length) (mkN l), 0, by rw [mkR, if_pos h], .refl _, ?_⟩
    simp only [mkok, Bool.and_eq_true, decide_eq_true_eq] at h
    rw [lmb_len]
    unfold limbsN
    omega
  · exact ⟨0, .v (.slice none 0 0), [], 2, by rw [mkR, if_neg h], z24_le, by simp⟩
theorem sameV_self (w : Int) (l : List Nat) : sameV w l w l = true := by simp [sameV]

theorem rSameN_call (w x v y : Nat) (hx : x < 2 ^ w) (hy : y < 2 ^ v) (hw : w ≤ 100000) : ACall Tryz.prog 16 [.d (vN w x), .d (vN v y)] [] (fun r o => r = vB (decide (w = v) && decide (x = y))) := by
  have := rSame_call w v (lmb (limbsN w) x) (lmb (limbsN v) y) (by rw [lmb_len]; unfold limbsN; omega)
  have e : sameV w (lmb (limbsN w) x) v (lmb (limbsN v) y) = (decide (w = v) && decide (x = y)) := by
    unfold sameV
    by_cases h : w = v
    · subst h
      by_cases h2 : x = y
      · subst h2; simp
      · have : lmb (limbsN w) x ≠ lmb (limbsN w) y := fun h3 => h2 (lmb_inj (lt_limbs hx) (lt_limbs hy) h3)
        simp [this, h2]
    · have : (w : Int) ≠ v := by omega
      simp [h, this]
  rwa [e] at this

theorem VecTells_law (w v i : Int) (l k : List Nat) (s : List UInt8) (hl : lims l) (hk : lims k) (hll : l.length ≤ maxLen) (hkl : k.length ≤ maxLen) : ACall Tryz.prog 3 [.d (.ag [eI w, eUs l, eI v, eUs k, eI i, .v (.string ⟨s.toArray⟩)])] [] (fun r o => r = vB true) := by
  refine acall_enter Tryz.func3 rfl rfl (Nat.le_of_ble_eq_true rfl) fun C hC hCl => ?_
  refine sat_call tabOk Tryz.func3 rfl trivial shown_call (.refl _) rfl ⟨_, rfl⟩ (by rintro r o rfl; rfl) ?_
  rintro r o rfl
  refine sat_call tabOk Tryz.func3 rfl trivial (Small_call w l) (.refl _) rfl ⟨_, rfl⟩ (by rintro r o rfl; rfl) ?_
  rintro r o rfl
  refine sat_branch tabOk Tryz.func3 rfl trivial (fun h1 => ?_) (fun h1 => ?_)
  · refine sat_branch tabOk Tryz.func3 rfl trivial (fun _ => ?_) (fun h => by cases h)
    refine sat_branch tabOk Tryz.func3 rfl trivial (fun _ => ?_) (fun h => by cases h)
    exact sat_ret tabOk Tryz.func3 rfl trivial rfl
  refine sat_call tabOk Tryz.func3 rfl trivial (Small_call v k) (.refl _) rfl ⟨_, rfl⟩ (by rintro r o rfl; rfl) ?_
  rintro r o rfl
  refine sat_branch tabOk Tryz.func3 rfl trivial (fun h2 => ?_) (fun h2 => ?_)
  · refine sat_branch tabOk Tryz.func3 rfl trivial (fun _ => ?_) (fun h => by cases h)
    exact sat_ret tabOk Tryz.func3 rfl trivial rfl
  refine sat_branch tabOk Tryz.func3 rfl trivial (fun h3 => ?_) (fun h3 => ?_)
  · exact sat_ret tabOk Tryz.func3 rfl trivial rfl
  rw [size_list] at h3
  have hs : s.length ≤ 300 := by simp at h3; omega
  obtain ⟨w', q, l', f, hm, hle, hlen⟩ := mkR_form s
  refine sat_call tabOk Tryz.func3 rfl trivial (Make_call s (by omega)) (.refl _) rfl ⟨_, rfl⟩ (by rintro r o rfl; rw [hm]; rfl) ?_
  rintro r o rfl
  rw [hm]
  refine sat_call tabOk Tryz.func3 rfl trivial (rMake_call s (by omega)) (.refl _) rfl ⟨_, rfl⟩ (by rintro r o rfl; rw [hm]; rfl) ?_
  rintro r o rfl
  rw [hm]
  refine sat_call tabOk Tryz.func3 rfl trivial (rRight_call w l hl hll) (.refl _) rfl ⟨_, rfl⟩ (by rintro r o rfl; rfl) ?_
  rintro r o rfl
  refine sat_call tabOk Tryz.func3 rfl trivial (Right_call w l hl hll) (.refl _) rfl ⟨_, rfl⟩ (by rintro r o rfl; rfl) ?_
  rintro r o rfl
  refine sat_branch tabOk Tryz.func3 rfl trivial (fun h => by simp at h) (fun _ => ?_)
  refine sat_call tabOk Tryz.func3 rfl trivial (rSame_call w' w' l' l' (by omega)) ⟨hle, hle, trivial⟩ rfl ⟨_, rfl⟩ (by rintro r o rfl; rfl) ?_
  rintro r o rfl
  rw [sameV_self]
  refine sat_branch tabOk Tryz.func3 rfl trivial (fun h => by cases h) (fun _ => ?_)
  refine sat_branch tabOk Tryz.func3 rfl trivial (fun h => by simp at h) (fun _ => ?_)
  refine sat_branch tabOk Tryz.func3 rfl trivial (fun h4 => ?_) (fun h4 => ?_)
  · refine sat_branch tabOk Tryz.func3 rfl trivial (fun _ => ?_) (fun h => by cases h)
    exact sat_ret tabOk Tryz.func3 rfl trivial rfl
  refine sat_call tabOk Tryz.func3 rfl trivial (rRight_call v k hk hkl) (.refl _) rfl ⟨_, rfl⟩ (by rintro r o rfl; rfl) ?_
  rintro r o rfl
  refine sat_branch tabOk Tryz.func3 rfl trivial (fun h5 => ?_) (fun h5 => ?_)
  · exact sat_ret tabOk Tryz.func3 rfl trivial rfl
  have r1 : rightV w l = true := by cases h : rightV w l with | true => rfl | false => rw [h] at h4; cases h4
  have r2 : rightV v k = true := by cases h : rightV v k with | true => rfl | false => rw [h] at h5; cases h5
  obtain ⟨n, x, rfl, n1, n2, hx, rfl⟩ := right_lmb hl r1
  obtain ⟨m, y, rfl, m1, m2, hy, rfl⟩ := right_lmb hk r2
  refine sat_drawT 23 tabOk Tryz.func3 rfl rfl trivial (by kernel_rfl) ?_
  refine ds_branch tabOk rfl trivial (fun _ => ?_) (fun h => by cases h)
  refine ds_call tabOk rfl trivial (BitN_call n x i (by omega)) (callFunc_run Tryz.func17 rfl rfl) (by rintro r o rfl; rfl) (.refl _) rfl rfl ⟨_, rfl⟩ ?_
  refine ds_call tabOk rfl trivial (rBit_call n x i (by omega)) (callFunc_run Tryz.func18 rfl rfl) (by rintro r o rfl; rfl) (.refl _) rfl rfl ⟨_, rfl⟩ ?_
  refine ds_branch tabOk rfl trivial (fun _ => ?_) (fun h => by simp at h)
  refine ds_call tabOk rfl trivial (TextN_call n x (by omega) (by omega)) (callFunc_run Tryz.func19 rfl rfl) (by rintro r o rfl; rfl) (.refl _) rfl rfl ⟨_, rfl⟩ ?_
  refine ds_call tabOk rfl trivial (rText_call n x (by omega)) (callFunc_run Tryz.func20 rfl rfl) (by rintro r o rfl; rfl) (.refl _) rfl rfl ⟨_, rfl⟩ ?_
  refine ds_branch tabOk rfl trivial (fun _ => ?_) (fun h => by simp at h)
  refine ds_call tabOk rfl trivial (SameN_call n x m y hx hy) (callFunc_run Tryz.func21 rfl rfl) (by rintro r o rfl; rfl) (.refl _) rfl rfl ⟨_, rfl⟩ ?_
  refine ds_done tabOk rfl trivial ?_
  refine sat_call tabOk Tryz.func3 rfl trivial (rSameN_call n x m y hx hy (by omega)) (.refl _) rfl ⟨_, rfl⟩ (by rintro r o rfl; rfl) ?_
  rintro r o rfl
  refine sat_ret tabOk Tryz.func3 rfl trivial ?_
  show vB ((decide (n = m) && decide (x = y)) == (decide (n = m) && decide (x = y))) = _
  simp
end Go.Proofs.YtclamogkchdkgaaGreatDoor
