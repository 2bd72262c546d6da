/- A part of the proof: S1, S2, V9, V10, Ab51, V11, V12, W0, W1, W2, W3. -/
import Derived.Test.YtcenfhcemmlaeaaGreatDoorP10
import Derived.Laws.Strings
set_option linter.unusedVariables false
set_option linter.unusedSimpArgs false
namespace Go.Proofs.YtcenfhcemmlaeaaGreatDoor
open Go Ab
set_option maxRecDepth 100000
set_option linter.unusedVariables false
set_option linter.unusedSimpArgs false

/-! ### strings.Trim, of noughts and ones -/
def set01 : List AV := (List.range 256).map fun i => vB (i == 48 || i == 49)
def is01 (c : UInt8) : Bool := c.toNat == 48 || c.toNat == 49
theorem set01_at {i : Nat} (h : i < 256) : nth set01 i = some (vB (i == 48 || i == 49)) := by
  rw [nth_eq, set01, List.getElem?_map, List.getElem?_range h]
  rfl
@[reducible] def sO : AObj := .cells 142 set01
@[reducible] def vSL (l : List UInt8) : AV := vS ⟨l.toArray⟩

theorem contains_call (c : UInt8) : ACall Tryz.prog 99 [.ptr 0 0, vI .u8 (c.toNat : Int)] [some sO] (fun r o => r = vB (is01 c) ∧ o = [some sO]) := by
  refine acall_enter Tryz.func99 rfl rfl (Nat.le_of_ble_eq_true rfl) fun C hC hCl hDs => ?_
  have hc : c.toNat < 256 := c.toNat_lt
  refine sat_steps 9 tabOk Tryz.func99 rfl trivial ?_
  refine sat_pure (.ptr 0 (0 + c.toNat * 1)) tabOk rfl rfl (by exact pIndexAddr_arr (T := tab) (t := 142) (e := 4) (objs := [some sO]) (j := 0) (off := 0) (i := c.toNat) (ki := .u8) (by rfl) (by rfl) (by rfl) hc) rfl ?_
  refine sat_pure (vB (is01 c)) tabOk rfl rfl (by exact pLoad_arr (T := tab) (t := 4) (objs := [some sO]) (j := 0) (off := 0 + c.toNat * 1) (by rfl) (by rfl) (by rfl) (by rw [Nat.zero_add, Nat.mul_one]; exact set01_at hc)) rfl ?_
  exact sat_retL tabOk Tryz.func99 rfl trivial hC hCl (.refl _) (o2 := [some sO]) ⟨.refl _, trivial⟩ rfl rfl (Nat.le_refl _) ⟨rfl, rfl⟩

theorem bt_list (l : List UInt8) (i : Nat) : bt ⟨l.toArray⟩ i = ((l.getD i 0).toNat : Int) := by
  simp [bt]
theorem ext_list (l : List UInt8) (a b : Nat) : (⟨l.toArray⟩ : ByteArray).extract a b = ⟨((l.take b).drop a).toArray⟩ := by
  apply ByteArray.ext
  rw [ByteArray.data_extract]
  apply Array.ext'
  simp [List.drop_take]
theorem size_list (l : List UInt8) : (⟨l.toArray⟩ : ByteArray).size = l.length := by simp [ByteArray.size]
@[reducible] def trE (l t : List UInt8) : Prop := t = [] ↔ ∀ c ∈ l, is01 c = true
theorem trimR_call (l : List UInt8) (hl : l.length ≤ 1000000000) : ACall Tryz.prog 90 [vSL l, .ptr 0 0] [some sO] (fun r o => ∃ t, r = vSL t ∧ t.length ≤ l.length ∧ (trE l t ∧ trE t t) ∧ o = [some sO]) := by
  refine acall_enter Tryz.func90 rfl rfl (Nat.le_of_ble_eq_true rfl) fun C hC hCl hDs => ?_
  refine sat_stop tabOk Tryz.func90 rfl trivial ?_
  refine sat_while (α := Nat) (fun k => [(0, vSL (l.take k)), (1, .ptr 0 0)]) (fun k => [some sO]) (fun k => k ≤ l.length ∧ ∀ c ∈ l.drop k, is01 c = true) (fun k => k) l.length ⟨Nat.le_refl _, by simp⟩ ?_ ?_
  · refine fun h => sat_le h hC hCl ⟨⟨_, rfl, .of ?_⟩, ⟨_, rfl, .refl _⟩, trivial⟩ ⟨.refl _, trivial⟩ rfl rfl (Nat.le_refl _)
    rw [List.take_length]
  rintro k ⟨hk, hd⟩ ih
  have hsz : (⟨(l.take k).toArray⟩ : ByteArray).size = k := by rw [size_list, List.length_take]; omega
  refine sat_branch tabOk Tryz.func90 rfl trivial (fun hb => ?_) (fun hb => ?_) <;> rw [hsz] at hb <;> simp only [decide_eq_true_eq, decide_eq_false_iff_not] at hb
  · have e1 : IntKind.i64.wrap ((k : Int) - 1) = ((k - 1 : Nat) : Int) := by rw [wrap_id (by omega) (by omega)]; omega
    have ht : (l.take k).take (k - 1) = l.take (k - 1) := by rw [List.take_take, Nat.min_eq_left (by omega)]
    have hdk : l.drop (k - 1) = l.getD (k - 1) 0 :: l.drop k := by
      rw [List.drop_eq_getElem_cons (by omega)]
      simp [show k - 1 < l.length by omega, show k - 1 + 1 = k by omega]
    have hm : l.getD (k - 1) 0 ∈ l := by
      have : k - 1 < l.length := by omega
      simp [this]
    refine sat_callG [0] tabOk Tryz.func90 rfl ?_ (contains_call (l.getD (k - 1) 0)) ⟨⟨_, rfl, .refl _⟩, trivial⟩ ⟨.refl _, .of ?_, trivial⟩ rfl rfl rfl ⟨_, rfl⟩ ?_
    · simp only [hsz, e1, Int.toNat_natCast]
      refine ⟨⟨?_, ?_⟩, trivial⟩ <;> omega
    · show vI .u8 (bt ⟨(l.take k).toArray⟩ (IntKind.i64.wrap (((⟨(l.take k).toArray⟩ : ByteArray).size : Int) - 1)).toNat) = vI .u8 _
      simp only [hsz, e1, Int.toNat_natCast, bt_list]
      rw [show (l.take k).getD (k - 1) 0 = l.getD (k - 1) 0 by simp [List.getD_eq_getElem?_getD, List.getElem?_take, show k - 1 < k by omega]]
    rintro r o ⟨rfl, rfl⟩
    refine sat_branch tabOk Tryz.func90 rfl trivial (fun h => ?_) (fun h => ?_)
    · refine sat_retL tabOk Tryz.func90 rfl trivial hC hCl (.refl _) (o2 := [some sO]) ⟨.refl _, trivial⟩ rfl rfl (Nat.le_refl _) ⟨l.take k, rfl, ?_, ?_, rfl⟩
      · rw [List.length_take]; omega
      · have h : is01 (l.getD (k - 1) 0) = false := by cases e : is01 (l.getD (k - 1) 0) with | true => rw [e] at h; cases h | false => rfl
        have hmt : l.getD (k - 1) 0 ∈ l.take k := by
          refine List.mem_iff_getElem?.2 ⟨k - 1, ?_⟩
          simp [List.getElem?_take, show k - 1 < k by omega, show k - 1 < l.length by omega]
        have hne : l.take k ≠ [] := fun e => by rw [e] at hmt; cases hmt
        exact ⟨⟨fun e => absurd e hne, fun e => by rw [e _ hm] at h; cases h⟩, ⟨fun e => absurd e hne, fun e => by rw [e _ hmt] at h; cases h⟩⟩
    · refine sat_stop tabOk Tryz.func90 rfl ?_ ?_
      · simp only [hsz, e1, Int.toNat_natCast]
        refine ⟨⟨?_, ?_, ?_⟩, trivial⟩ <;> omega
      refine sat_le (ih (k - 1) ⟨by omega, ?_⟩ (by omega)) hC hCl ⟨⟨_, rfl, .of ?_⟩, ⟨_, rfl, .refl _⟩, trivial⟩ ⟨.refl _, trivial⟩ rfl rfl (Nat.le_refl _)
      · rw [hdk]
        intro c hc
        rcases List.mem_cons.1 hc with rfl | hc
        · simpa using h
        · exact hd c hc
      · show vS _ = vS _
        simp only [hsz, e1, Int.toNat_natCast]
        rw [ext_list, ht]; rfl
  · obtain rfl : k = 0 := by omega
    exact sat_retL tabOk Tryz.func90 rfl trivial hC hCl (.refl _) (o2 := [some sO]) ⟨.refl _, trivial⟩ rfl rfl (Nat.le_refl _) ⟨[], rfl, Nat.zero_le _, ⟨by simpa [trE] using hd, by simp [trE]⟩, rfl⟩
theorem trimL_call (l : List UInt8) (hl : l.length ≤ 1000000000) : ACall Tryz.prog 89 [vSL l, .ptr 0 0] [some sO] (fun r o => ∃ t, r = vSL t ∧ t.length ≤ l.length ∧ trE l t ∧ o = [some sO]) := by
  refine acall_enter Tryz.func89 rfl rfl (Nat.le_of_ble_eq_true rfl) fun C hC hCl hDs => ?_
  refine sat_stop tabOk Tryz.func89 rfl trivial ?_
  refine sat_while (α := Nat) (fun k => [(0, vSL (l.drop k)), (1, .ptr 0 0)]) (fun k => [some sO]) (fun k => k ≤ l.length ∧ ∀ c ∈ l.take k, is01 c = true) (fun k => l.length - k) 0 ⟨Nat.zero_le _, by simp⟩ ?_ ?_
  · exact fun h => sat_le h hC hCl ⟨⟨_, rfl, .refl _⟩, ⟨_, rfl, .refl _⟩, trivial⟩ ⟨.refl _, trivial⟩ rfl rfl (Nat.le_refl _)
  rintro k ⟨hk, hd⟩ ih
  have hsz : (⟨(l.drop k).toArray⟩ : ByteArray).size = l.length - k := by rw [size_list, List.length_drop]
  refine sat_branch tabOk Tryz.func89 rfl trivial (fun hb => ?_) (fun hb => ?_) <;> rw [hsz] at hb <;> simp only [decide_eq_true_eq, decide_eq_false_iff_not] at hb
  · have hdk : l.take (k + 1) = l.take k ++ [l.getD k 0] := by
      rw [List.take_add_one]
      simp [show k < l.length by omega]
    have hm : l.getD k 0 ∈ l := by
      have : k < l.length := by omega
      simp [this]
    refine sat_callG [0] tabOk Tryz.func89 rfl ?_ (contains_call (l.getD k 0)) ⟨⟨_, rfl, .refl _⟩, trivial⟩ ⟨.refl _, .of ?_, trivial⟩ rfl rfl rfl ⟨_, rfl⟩ ?_
    · simp only [hsz]
      refine ⟨⟨?_, ?_⟩, trivial⟩ <;> omega
    · show vI .u8 (bt ⟨(l.drop k).toArray⟩ (0 : Int).toNat) = vI .u8 _
      rw [bt_list]
      rw [show (l.drop k).getD (0 : Int).toNat 0 = l.getD k 0 by simp [List.getD_eq_getElem?_getD]]
    rintro r o ⟨rfl, rfl⟩
    refine sat_branch tabOk Tryz.func89 rfl trivial (fun h => ?_) (fun h => ?_)
    · refine sat_retL tabOk Tryz.func89 rfl trivial hC hCl (.refl _) (o2 := [some sO]) ⟨.refl _, trivial⟩ rfl rfl (Nat.le_refl _) ⟨l.drop k, rfl, ?_, ?_, rfl⟩
      · rw [List.length_drop]; omega
      · have h : is01 (l.getD k 0) = false := by cases e : is01 (l.getD k 0) with | true => rw [e] at h; cases h | false => rfl
        constructor
        · intro e
          rw [e] at hsz
          simp [size_list] at hsz
          omega
        · intro e
          rw [e _ hm] at h
          cases h
    · refine sat_stop tabOk Tryz.func89 rfl ?_ ?_
      · simp only [hsz]
        refine ⟨⟨?_, ?_, ?_⟩, trivial⟩ <;> omega
      refine sat_le (ih (k + 1) ⟨by omega, ?_⟩ (by omega)) hC hCl ⟨⟨_, rfl, .of ?_⟩, ⟨_, rfl, .refl _⟩, trivial⟩ ⟨.refl _, trivial⟩ rfl rfl (Nat.le_refl _)
      · rw [hdk]
        intro c hc
        rcases List.mem_append.1 hc with hc | hc
        · exact hd c hc
        · rw [List.mem_singleton.1 hc]
          simpa using h
      · show vS _ = vS _
        simp only [hsz]
        rw [ext_list, List.take_of_length_le (by rw [List.length_drop]; omega), List.drop_drop]
        rfl
  · obtain rfl : k = l.length := by omega
    exact sat_retL tabOk Tryz.func89 rfl trivial hC hCl (.refl _) (o2 := [some sO]) ⟨.refl _, trivial⟩ rfl rfl (Nat.le_refl _) ⟨[], by rw [List.drop_length]; rfl, Nat.zero_le _, by simpa [trE] using hd, rfl⟩
def mk01 : Nat → List AV
  | 0 => List.replicate 256 (vB false)
  | 1 => (List.replicate 256 (vB false)).set 48 (vB true)
  | _ => set01
@[reducible] def mkI (i : Nat) : Env := [(0, vS ⟨#[48, 49]⟩), (2, .ptr 0 0), (4, vI .i64 i)]
@[reducible] def mkO (i : Nat) : List (Option AObj) := [some (.cells 142 (mk01 i))]
theorem make01_call : ACall Tryz.prog 88 [vS ⟨#[48, 49]⟩] [] (fun r o => r = tupOf [mkAg set01, vB true] ∧ o = []) := by
  refine acall_enter Tryz.func88 rfl rfl (Nat.le_of_ble_eq_true rfl) fun C hC hCl hDs => ?_
  refine sat_stop tabOk Tryz.func88 rfl trivial ?_
  refine sat_loop1 (sat_le (env' := mkI 0) (objs' := mkO 0) ?_ hC hCl ⟨⟨_, rfl, .refl _⟩, ⟨_, rfl, .refl _⟩, ⟨_, rfl, .refl _⟩, trivial⟩ ⟨.of (by kernel_rfl), trivial⟩ rfl rfl (Nat.zero_le _))
  refine sat_branch tabOk Tryz.func88 rfl trivial (fun _ => ?_) (fun h => by cases h)
  refine sat_branch tabOk Tryz.func88 rfl ⟨⟨by decide, by decide⟩, trivial⟩ (fun h => by cases h) (fun _ => ?_)
  refine sat_stop tabOk Tryz.func88 rfl trivial ?_
  refine sat_in1 (sat_le (env' := mkI 1) (objs' := mkO 1) ?_ hC hCl ⟨⟨_, rfl, .refl _⟩, ⟨_, rfl, .refl _⟩, ⟨_, rfl, .of (by rw [wrap_id (by omega) (by omega)]; rfl)⟩, trivial⟩ ⟨.of (by kernel_rfl), trivial⟩ rfl rfl (Nat.zero_le _))
  refine sat_branch tabOk Tryz.func88 rfl trivial (fun _ => ?_) (fun h => by cases h)
  refine sat_branch tabOk Tryz.func88 rfl ⟨⟨by decide, by decide⟩, trivial⟩ (fun h => by cases h) (fun _ => ?_)
  refine sat_stop tabOk Tryz.func88 rfl trivial ?_
  refine sat_in1 (sat_le (env' := mkI 2) (objs' := mkO 2) ?_ hC hCl ⟨⟨_, rfl, .refl _⟩, ⟨_, rfl, .refl _⟩, ⟨_, rfl, .of (by rw [wrap_id (by omega) (by omega)]; rfl)⟩, trivial⟩ ⟨.of (by kernel_rfl), trivial⟩ rfl rfl (Nat.zero_le _))
  refine sat_branch tabOk Tryz.func88 rfl trivial (fun h => by cases h) (fun _ => ?_)
  exact sat_retL tabOk Tryz.func88 rfl trivial hC hCl (r2 := tupOf [mkAg set01, vB true]) (.of (by kernel_rfl)) (o2 := []) trivial rfl (by kernel_rfl) (Nat.zero_le _) ⟨rfl, rfl⟩
theorem eqE_list (l : List UInt8) : ((⟨l.toArray⟩ : ByteArray).toList == (⟨#[]⟩ : ByteArray).toList) = l.isEmpty := by
  rw [ByteArray.toList_mk, show (⟨#[]⟩ : ByteArray) = ⟨([] : List UInt8).toArray⟩ from rfl, ByteArray.toList_mk]
  cases l <;> rfl
theorem Trim01_call (l : List UInt8) (hl : l.length ≤ 1000000000) : ACall Tryz.prog 65 [vSL l, vS ⟨#[48, 49]⟩] [] (fun r o => ∃ t, r = vSL t ∧ trE l t) := by
  refine acall_enter Tryz.func65 rfl rfl (Nat.le_of_ble_eq_true rfl) fun C hC hCl hDs => ?_
  refine sat_branch tabOk Tryz.func65 rfl trivial (fun h => ?_) (fun h => ?_) <;> rw [eqE_list] at h
  · cases l with | cons a l => simp at h | nil =>
    refine sat_branch tabOk Tryz.func65 rfl trivial (fun _ => ?_) (fun h => by cases h)
    exact sat_ret tabOk Tryz.func65 rfl trivial ⟨[], rfl, by simp [trE]⟩
  refine sat_branch tabOk Tryz.func65 rfl trivial (fun h => ?_) (fun _ => ?_)
  · rw [show (⟨#[48, 49]⟩ : ByteArray) = ⟨([48, 49] : List UInt8).toArray⟩ from rfl, eqE_list] at h
    cases h
  refine sat_branch tabOk Tryz.func65 rfl trivial (fun h => absurd h (by decide)) (fun _ => ?_)
  refine sat_branch tabOk Tryz.func65 rfl trivial (fun h => absurd h (by decide)) (fun _ => ?_)
  refine sat_callG [] tabOk Tryz.func65 rfl trivial make01_call trivial (.refl _) rfl rfl rfl ⟨_, rfl⟩ ?_
  rintro r o ⟨rfl, rfl⟩
  refine sat_branch tabOk Tryz.func65 rfl trivial (fun _ => ?_) (fun h => by cases h)
  refine sat_callG [0] tabOk Tryz.func65 rfl trivial (trimR_call l hl) ⟨⟨_, rfl, .of (by kernel_rfl)⟩, trivial⟩ (.refl _) rfl rfl rfl ⟨_, rfl⟩ ?_
  rintro r o ⟨t, rfl, ht1, ⟨ht2, ht3⟩, rfl⟩
  refine sat_callG [0] tabOk Tryz.func65 rfl trivial (trimL_call t (by omega)) ⟨⟨_, rfl, .refl _⟩, trivial⟩ (.refl _) rfl rfl rfl ⟨_, rfl⟩ ?_
  rintro r o ⟨u, rfl, hu1, hu2, rfl⟩
  refine sat_retL tabOk Tryz.func65 rfl trivial hC hCl (.refl _) (o2 := []) trivial rfl rfl (Nat.zero_le _) ⟨u, rfl, ?_⟩
  exact ⟨fun e => ht2.1 (ht3.2 (hu2.1 e)), fun e => hu2.2 (ht3.1 (ht2.2 e))⟩
end Go.Proofs.YtcenfhcemmlaeaaGreatDoor
namespace Go.Proofs.YtcenfhcemmlaeaaGreatDoor
open Go Ab
set_option maxRecDepth 100000
set_option linter.unusedVariables false
set_option linter.unusedSimpArgs false

/-! ### Make -/
@[reducible] def vN (w x : Nat) : D := eV w (lmb (limbsN w) x)
@[reducible] def z24 : D := .ag [eI 0, .v (.slice none 0 0)]
/-- A string's number: its last byte is bit 0. -/
def mkN (l : List UInt8) : Nat := ofB (fun i => (l.getD (l.length - 1 - i) 0).toNat == 49) l.length
def mkok (l : List UInt8) : Bool := decide (1 ≤ l.length) && decide (l.length ≤ 128) && l.all is01
def mkR (l : List UInt8) : AV := if mkok l then tupOf [.d (vN l.length (mkN l)), vI .i64 0] else tupOf [.d z24, vI .i64 2]
def mkB (l : List UInt8) (i : Nat) : Nat := ofB (fun i => (l.getD (l.length - 1 - i) 0).toNat == 49) i
theorem mkB_t (l : List UInt8) (i : Nat) (h : (l.getD (l.length - 1 - i) 0).toNat = 49) : mkB l (i + 1) = mkB l i ||| 2 ^ i := by
  have hlt : mkB l i < 2 ^ i := ofB_lt _ _
  have := Nat.two_pow_add_eq_or_of_lt hlt 1
  rw [Nat.mul_one] at this
  rw [Nat.or_comm, ← this, Nat.add_comm (2 ^ i)]
  show ofB _ _ + _ = _
  rw [if_pos (show ((l.getD (l.length - 1 - i) 0).toNat == 49) = true by rw [h]; rfl)]
  rfl
theorem mkB_f (l : List UInt8) (i : Nat) (h : ¬ (l.getD (l.length - 1 - i) 0).toNat = 49) : mkB l (i + 1) = mkB l i := by
  show ofB _ _ + _ = _
  rw [if_neg (by simpa using h), Nat.add_zero]
  rfl

theorem Make_call (l : List UInt8) (hl : l.length ≤ 1000000000) : ACall Tryz.prog 46 [vSL l] [] (fun r o => r = mkR l) := by
  refine acall_enter Tryz.func46 rfl rfl (Nat.le_of_ble_eq_true rfl) fun C hC hCl hDs => ?_
  refine sat_branch tabOk Tryz.func46 rfl trivial (fun h => ?_) (fun h => ?_)
  · rw [eqE_list] at h
    cases l with | cons a l => simp at h | nil =>
    refine sat_branch tabOk Tryz.func46 rfl trivial (fun _ => ?_) (fun h => by cases h)
    refine sat_branch tabOk Tryz.func46 rfl trivial (fun _ => ?_) (fun h => by cases h)
    exact sat_ret tabOk Tryz.func46 rfl trivial rfl
  · rw [eqE_list] at h
    refine sat_branch tabOk Tryz.func46 rfl trivial (fun h2 => ?_) (fun h2 => ?_)
    · refine sat_branch tabOk Tryz.func46 rfl trivial (fun _ => ?_) (fun h => by cases h)
      refine sat_ret tabOk Tryz.func46 rfl trivial ?_
      rw [size_list, decide_eq_true_eq] at h2
      rw [mkR, if_neg (by simp only [mkok, Bool.and_eq_true, decide_eq_true_eq]; omega)]
      rfl
    · refine sat_call tabOk Tryz.func46 rfl trivial (Trim01_call l hl) (.refl _) rfl ⟨_, rfl⟩ (by rintro r o ⟨t, rfl, -⟩; rfl) ?_
      rintro r o ⟨t, rfl, ht⟩
      refine sat_branch tabOk Tryz.func46 rfl trivial (fun h3 => ?_) (fun h3 => ?_)
      · refine sat_ret tabOk Tryz.func46 rfl trivial ?_
        rw [mkR, if_neg]
        · rfl
        · intro hk
          simp only [mkok, Bool.and_eq_true, decide_eq_true_eq, List.all_eq_true] at hk
          rw [ht.2 hk.2] at h3
          rw [eqE_list] at h3
          cases h3
      refine sat_callG [] tabOk Tryz.func46 rfl trivial (none_call l.length (by rw [size_list, decide_eq_false_iff_not] at h2; omega)) trivial (.refl _) rfl rfl rfl ⟨_, rfl⟩ ?_
      rintro r o ⟨rfl, rfl⟩
      refine sat_stop tabOk Tryz.func46 rfl trivial ?_
      have hsz : (⟨l.toArray⟩ : ByteArray).size = l.length := size_list l
      rw [hsz] at h2
      have hlen : 1 ≤ l.length ∧ l.length ≤ 128 := by
        cases l with | nil => simp at h | cons a l => simp only [decide_eq_false_iff_not] at h2; exact ⟨by simp, by omega⟩
      have hall : ∀ c ∈ l, is01 c = true := ht.1 (by
        rw [eqE_list] at h3
        cases t with | nil => rfl | cons a t => simp at h3)
      have hok : mkok l = true := by
        simp only [mkok, Bool.and_eq_true, decide_eq_true_eq, List.all_eq_true]
        exact ⟨hlen, hall⟩
      refine sat_while (α := Nat) (fun i => [(0, vSL l), (2, .ptr 0 0), (4, .ptr 3 0), (23, vI .i64 (l.length : Int)), (24, vI .i64 i)]) (fun i => [some zV, none, some (gUs (lmb (limbsN l.length) (mkB l i))), some (cV l.length 2)]) (fun i => i ≤ l.length) (fun i => l.length - i) 0 (Nat.zero_le _) ?_ ?_
      · refine fun h => sat_le h hC hCl ⟨⟨_, rfl, .refl _⟩, ⟨_, rfl, .refl _⟩, ⟨_, rfl, .refl _⟩, ⟨_, rfl, .of ?_⟩, ⟨_, rfl, .refl _⟩, trivial⟩ ⟨.refl _, .of (by rw [zero_lmb]; rfl), .refl _, trivial⟩ rfl rfl (Nat.zero_le _)
        show vI .i64 (((⟨l.toArray⟩ : ByteArray).size : Nat) : Int) = _
        rw [hsz]
      rintro i hi ih
      refine sat_branch tabOk Tryz.func46 rfl trivial (fun hb => ?_) (fun hb => ?_) <;> simp only [decide_eq_true_eq, decide_eq_false_iff_not] at hb
      · have e1 : IntKind.i64.wrap (IntKind.i64.wrap ((l.length : Int) - 1) - i) = ((l.length - 1 - i : Nat) : Int) := by
          rw [wrap_id (n := (l.length : Int) - 1) (by omega) (by omega), wrap_id (by omega) (by omega)]; omega
        refine sat_branch tabOk Tryz.func46 rfl ?_ (fun hb2 => ?_) (fun hb2 => ?_)
        · simp only [hsz, e1, Int.toNat_natCast]
          exact ⟨⟨by omega, by omega⟩, trivial⟩
        · have hb2 : (bt ⟨l.toArray⟩ (IntKind.i64.wrap (IntKind.i64.wrap (((⟨l.toArray⟩ : ByteArray).size : Int) - 1) - i)).toNat == 49) = true := hb2
          rw [hsz, e1, Int.toNat_natCast, bt_list] at hb2
          refine sat_callG [3, 2] tabOk Tryz.func46 rfl trivial (set_call l.length i (lmb (limbsN l.length) (mkB l i)) (lmb_lims _ _) (by rw [lmb_len]; exact limbs_at (by omega)) (by omega)) ⟨⟨_, rfl, .refl _⟩, ⟨_, rfl, .refl _⟩, trivial⟩ (.refl _) rfl rfl rfl ⟨_, rfl⟩ ?_
          rintro r o ⟨rfl, rfl⟩
          refine sat_stop tabOk Tryz.func46 rfl trivial ?_
          refine sat_le (ih (i + 1) (by omega) (by omega)) hC hCl ⟨⟨_, rfl, .refl _⟩, ⟨_, rfl, .refl _⟩, ⟨_, rfl, .refl _⟩, ⟨_, rfl, .refl _⟩, ⟨_, rfl, .of (by rw [wrap_id (by omega) (by omega)]; rfl)⟩, trivial⟩ ⟨.refl _, .of ?_, .refl _, trivial⟩ rfl rfl (Nat.zero_le _)
          rw [mkB_t l i (by have := eq_of_beq hb2; omega), setB_lmb (limbs_at (by omega))]; rfl
        · have hb2 : (bt ⟨l.toArray⟩ (IntKind.i64.wrap (IntKind.i64.wrap (((⟨l.toArray⟩ : ByteArray).size : Int) - 1) - i)).toNat == 49) = false := hb2
          rw [hsz, e1, Int.toNat_natCast, bt_list] at hb2
          refine sat_stop tabOk Tryz.func46 rfl trivial ?_
          refine sat_le (ih (i + 1) (by omega) (by omega)) hC hCl ⟨⟨_, rfl, .refl _⟩, ⟨_, rfl, .refl _⟩, ⟨_, rfl, .refl _⟩, ⟨_, rfl, .refl _⟩, ⟨_, rfl, .of (by rw [wrap_id (by omega) (by omega)]; rfl)⟩, trivial⟩ ⟨.refl _, .of ?_, .refl _, trivial⟩ rfl rfl (Nat.zero_le _)
          rw [mkB_f l i (fun e => by rw [e] at hb2; cases hb2)]
      · obtain rfl : i = l.length := by omega
        refine sat_freeze 2 rfl ?_
        refine sat_ret tabOk Tryz.func46 rfl trivial ?_
        rw [mkR, if_pos hok]
        rfl
end Go.Proofs.YtcenfhcemmlaeaaGreatDoor
namespace Go.Proofs.YtcenfhcemmlaeaaGreatDoor
open Go Ab
set_option maxRecDepth 100000
set_option linter.unusedVariables false
set_option linter.unusedSimpArgs false

/-! ### The functions told of numbers -/
def bitI' (w x : Nat) (i : Int) : Bool := decide (0 ≤ i) && decide (i < w) && x.testBit i.toNat
theorem bitV_lmb (w x : Nat) (i : Int) : bitV w (lmb (limbsN w) x) i = bitI' w x i := by
  simp only [bitV, bitI']
  by_cases h : 0 ≤ i ∧ i < w
  · rw [bitN_lmb (limbs_at (by omega))]
  · by_cases h1 : 0 ≤ i
    · simp [h1, show ¬ i < w by omega]
    · simp [h1]
theorem bitI'_nat {w x i : Nat} (h : i < w) : bitI' w x (i : Int) = x.testBit i := by
  simp [bitI', show (i : Int) < w by omega]
theorem BitN_call (w x : Nat) (i : Int) (hb : w ≤ 1000000) : ACall Tryz.prog 64 [.d (vN w x), vI .i64 i] [] (fun r o => r = vB (bitI' w x i)) := by
  have := Bit_call w (lmb (limbsN w) x) i (lmb_lims _ _) (by rw [lmb_len]; exact Nat.le_refl _) hb
  rwa [bitV_lmb] at this
theorem turnedN_call (w x : Nat) (hx : x < 2 ^ w) (hw : 0 < w) (hwb : w ≤ 1000000) : ACall Tryz.prog 157 [.d (vN w x)] [] (fun r o => r = .d (vN w (2 ^ w - (x + 1)))) := by
  have := turned_call w (lmb (limbsN w) x) (lmb_lims _ _) (lmb_len _ _) hw hwb
  rwa [not_lmb (lt_limbs hx), cut_lmb, notw hx] at this
theorem sumN_call (w x y c : Nat) (hw : 0 < w) (hwb : w ≤ 1000000) (hc : c ≤ 1) : ACall Tryz.prog 159 [.d (vN w x), .d (vN w y), vU c] [] (fun r o => r = .d (vN w ((x + y + c) % 2 ^ w))) := by
  have := sum_call w w (lmb (limbsN w) x) (lmb (limbsN w) y) c (lmb_lims _ _) (lmb_lims _ _) (lmb_len _ _) (lmb_len _ _) hw hwb hc
  rwa [sumR_lmb] at this
theorem modand {w x y : Nat} (hx : x < 2 ^ w) : (x &&& y) % 2 ^ w = x &&& y := Nat.mod_eq_of_lt (Nat.lt_of_le_of_lt Nat.and_le_left hx)
theorem andN_call (w x y : Nat) (hx : x < 2 ^ w) (hw : 0 < w) (hwb : w ≤ 1000000) : ACall Tryz.prog 180 [.d (vN w x), .d (vN w y)] [] (fun r o => r = .d (vN w (x &&& y))) := by
  have := and_call w w (lmb (limbsN w) x) (lmb (limbsN w) y) (lmb_lims _ _) (lmb_lims _ _) (lmb_len _ _) (lmb_len _ _) hw hwb
  rwa [and_lmb, cut_lmb, modand hx] at this
theorem orN_call (w x y : Nat) (hx : x < 2 ^ w) (hy : y < 2 ^ w) (hw : 0 < w) (hwb : w ≤ 1000000) : ACall Tryz.prog 182 [.d (vN w x), .d (vN w y)] [] (fun r o => r = .d (vN w (x ||| y))) := by
  have := or_call w w (lmb (limbsN w) x) (lmb (limbsN w) y) (lmb_lims _ _) (lmb_lims _ _) (lmb_len _ _) (lmb_len _ _) hw hwb
  rwa [or_lmb, cut_lmb, Nat.mod_eq_of_lt (Nat.or_lt_two_pow hx hy)] at this
theorem xorN_call (w x y : Nat) (hx : x < 2 ^ w) (hy : y < 2 ^ w) (hw : 0 < w) (hwb : w ≤ 1000000) : ACall Tryz.prog 184 [.d (vN w x), .d (vN w y)] [] (fun r o => r = .d (vN w (x ^^^ y))) := by
  have := xor_call w w (lmb (limbsN w) x) (lmb (limbsN w) y) (lmb_lims _ _) (lmb_lims _ _) (lmb_len _ _) (lmb_len _ _) hw hwb
  rwa [xor_lmb, cut_lmb, Nat.mod_eq_of_lt (Nat.xor_lt_two_pow hx hy)] at this
theorem upmod {w x n : Nat} (hn : n ≤ w) : x % 2 ^ (w - n) * 2 ^ n = x * 2 ^ n % 2 ^ w := by
  rw [← Nat.mul_mod_mul_right, ← Nat.pow_add, Nat.sub_add_cancel hn]
theorem upN_call (w n x : Nat) (hw : w ≤ 100000) (hn : n ≤ w) : ACall Tryz.prog 178 [.d (vN w x), vI .i64 n] [] (fun r o => r = .d (vN w (x * 2 ^ n % 2 ^ w))) := by
  have := up_call w n (lmb (limbsN w) x) (lmb_lims _ _) (lmb_len _ _) hw (by omega)
  rwa [upI_lmb _ (Nat.le_refl _), upmod hn] at this
theorem flagN_call (b : Bool) : ACall Tryz.prog 163 [vB b] [] (fun r o => r = .d (vN 1 (if b then 1 else 0))) := by
  have := flag_call b
  rwa [show ([if b then 1 else 0] : List Nat) = lmb (limbsN 1) (if b then 1 else 0) by cases b <;> decide] at this

@[reducible] def bN (w x : Nat) : AObj := bV w (lmb (limbsN w) x)

/-! ### product -/
def prI (w x y i : Nat) : Nat := x * (y % 2 ^ i) % 2 ^ w
theorem mod_succ (y i : Nat) : y % 2 ^ (i + 1) = y % 2 ^ i + if y.testBit i then 2 ^ i else 0 := by
  rw [Nat.pow_succ, Nat.mod_mul, Nat.testBit_eq_decide_div_mod_eq]
  rcases Nat.mod_two_eq_zero_or_one (y / 2 ^ i) with h | h <;> simp [h]
theorem prI_t {w x y i : Nat} (h : y.testBit i = true) : prI w x y (i + 1) = (prI w x y i + x * 2 ^ i % 2 ^ w + 0) % 2 ^ w := by
  rw [prI, mod_succ, if_pos h, Nat.mul_add, Nat.add_mod]
  rfl
theorem prI_f {w x y i : Nat} (h : y.testBit i = false) : prI w x y (i + 1) = prI w x y i := by
  rw [prI, mod_succ, if_neg (by simp [h])]
  rfl
theorem productN_call (w x y : Nat) (hy : y < 2 ^ w) (hw : 0 < w) (hwb : w ≤ 100000) : ACall Tryz.prog 188 [.d (vN w x), .d (vN w y)] [] (fun r o => r = .d (vN w (x * y % 2 ^ w))) := by
  refine acall_enter Tryz.func188 rfl rfl (Nat.le_of_ble_eq_true rfl) fun C hC hCl hDs => ?_
  refine sat_callG [] tabOk Tryz.func188 rfl trivial (none_call w (by omega)) trivial (.refl _) rfl rfl rfl ⟨_, rfl⟩ ?_
  rintro r o ⟨rfl, rfl⟩
  refine sat_freeze 4 rfl ?_
  refine sat_stop tabOk Tryz.func188 rfl trivial ?_
  refine sat_while (α := Nat) (fun i => [(2, .ptr 0 0), (3, .ptr 1 0), (4, .ptr 2 0), (5, .ptr 5 0), (11, vI .i64 (w : Int)), (12, vI .i64 i)]) (fun i => [some (bN w x), some (bN w y), some zV, none, none, some (bN w (prI w x y i))]) (fun i => i ≤ w) (fun i => w - i) 0 (Nat.zero_le _) ?_ ?_
  · refine fun h => sat_le h hC hCl ⟨⟨_, rfl, .refl _⟩, ⟨_, rfl, .refl _⟩, ⟨_, rfl, .refl _⟩, ⟨_, rfl, .refl _⟩, ⟨_, rfl, .refl _⟩, ⟨_, rfl, .refl _⟩, trivial⟩ ⟨.refl _, .refl _, .refl _, .of ?_, trivial⟩ rfl rfl (Nat.zero_le _)
    rw [zero_lmb]
    simp only [prI, Nat.pow_zero, Nat.mod_one, Nat.mul_zero, Nat.zero_mod]
    rfl
  rintro i hi ih
  refine sat_branch tabOk Tryz.func188 rfl trivial (fun hb => ?_) (fun hb => ?_) <;> simp only [decide_eq_true_eq, decide_eq_false_iff_not] at hb
  · refine sat_call tabOk Tryz.func188 rfl trivial (BitN_call w y i (by omega)) (.refl _) rfl ⟨_, rfl⟩ (by rintro r o rfl; rfl) ?_
    rintro r o rfl
    rw [bitI'_nat (by omega)]
    refine sat_branch tabOk Tryz.func188 rfl trivial (fun hb2 => ?_) (fun hb2 => ?_)
    · refine sat_drawT 4 tabOk Tryz.func188 rfl rfl trivial (by kernel_rfl) ?_
      refine ds_call tabOk rfl trivial (upN_call w i x (by omega) (by omega)) (callFunc_run Tryz.func178 rfl rfl) (by rintro r o rfl; rfl) (.refl _) rfl rfl ⟨_, rfl⟩ ?_
      refine ds_done tabOk rfl trivial ?_
      refine sat_call tabOk Tryz.func188 rfl trivial (sumN_call w (prI w x y i) (x * 2 ^ i % 2 ^ w) 0 hw (by omega) (by omega)) (.refl _) rfl ⟨_, rfl⟩ (by rintro r o rfl; rfl) ?_
      rintro r o rfl
      refine sat_stop tabOk Tryz.func188 rfl trivial ?_
      rw [← prI_t hb2]
      exact sat_le (ih (i + 1) (by omega) (by omega)) hC hCl ⟨⟨_, rfl, .refl _⟩, ⟨_, rfl, .refl _⟩, ⟨_, rfl, .refl _⟩, ⟨_, rfl, .refl _⟩, ⟨_, rfl, .refl _⟩, ⟨_, rfl, .of (by rw [wrap_id (by omega) (by omega)]; rfl)⟩, trivial⟩ ⟨.refl _, .refl _, .refl _, .refl _, trivial⟩ rfl rfl (Nat.zero_le _)
    · refine sat_stop tabOk Tryz.func188 rfl trivial ?_
      refine sat_le (ih (i + 1) (by omega) (by omega)) hC hCl ⟨⟨_, rfl, .refl _⟩, ⟨_, rfl, .refl _⟩, ⟨_, rfl, .refl _⟩, ⟨_, rfl, .refl _⟩, ⟨_, rfl, .refl _⟩, ⟨_, rfl, .of (by rw [wrap_id (by omega) (by omega)]; rfl)⟩, trivial⟩ ⟨.refl _, .refl _, .refl _, .of (by rw [prI_f hb2]), trivial⟩ rfl rfl (Nat.zero_le _)
  · obtain rfl : i = w := by omega
    refine sat_ret tabOk Tryz.func188 rfl trivial ?_
    rw [prI, Nat.mod_eq_of_lt hy]
    rfl
end Go.Proofs.YtcenfhcemmlaeaaGreatDoor
namespace Go.Proofs.YtcenfhcemmlaeaaGreatDoor
open Go Ab
set_option maxRecDepth 100000
set_option linter.unusedVariables false
set_option linter.unusedSimpArgs false

/-! ### down, places -/
theorem lw1_pos {w y : Nat} (hw : w ≤ 128) (hy : y < 2 ^ w) (h : limbsN w = 2) : (0 < lw y 1) = ¬ y < 2 ^ 64 := by
  have h2 : y < 2 ^ 128 := Nat.lt_of_lt_of_le hy (Nat.pow_le_pow_right (by decide) hw)
  rw [lw]
  apply propext
  constructor
  · intro h hc
    rw [Nat.div_eq_of_lt hc] at h
    exact absurd h (by decide)
  · intro h
    rw [Nat.mod_eq_of_lt (Nat.div_lt_of_lt_mul (by omega))]
    exact Nat.div_pos (by omega) (by decide)
theorem placesN_call (w y : Nat) (hw : 0 < w) (hwb : w ≤ 128) (hy : y < 2 ^ w) : ACall Tryz.prog 193 [.d (vN w y)] [] (fun r o => r = vI .i64 ((min y w : Nat) : Int)) := by
  refine acall_enter Tryz.func193 rfl rfl (Nat.le_of_ble_eq_true rfl) fun C hC hCl hDs => ?_
  have hn : limbsN w = (w + 63) / 64 := rfl
  have h2 : y < 2 ^ 128 := Nat.lt_of_lt_of_le hy (Nat.pow_le_pow_right (by decide) hwb)
  have hll : (lmb (limbsN w) y).length = limbsN w := lmb_len _ _
  have h0 : (lmb (limbsN w) y).getD 0 0 = y % 2 ^ 64 := by rw [lmb_get (by omega), lw]; simp
  refine sat_drawT 19 tabOk Tryz.func193 rfl rfl trivial (by kernel_rfl) ?_
  refine ds_branch tabOk rfl trivial (fun h => ?_) (fun h => ?_) <;> simp only [List.length_map, hll, decide_eq_true_eq, decide_eq_false_iff_not] at h
  · have hl2 : limbsN w = 2 := by omega
    have h1 : (lmb (limbsN w) y).getD 1 0 = lw y 1 := by rw [lmb_get (by omega)]
    have hp := lw1_pos hwb hy hl2
    refine ds_branch tabOk rfl ?_ (fun h3 => ?_) (fun h3 => ?_)
    · simp only [List.length_map, hll]
      exact ⟨⟨by omega, by omega⟩, trivial⟩
    · have h3 : decide (((lmb (limbsN w) y).getD 1 0 : Int) > 0) = true := h3
      rw [h1, decide_eq_true_eq] at h3
      have h4 : ¬ y < 2 ^ 64 := hp ▸ (show 0 < lw y 1 by omega)
      refine ds_done tabOk rfl trivial ?_
      refine sat_branch tabOk Tryz.func193 rfl trivial (fun _ => ?_) (fun h => by cases h)
      refine sat_ret tabOk Tryz.func193 rfl trivial ?_
      rw [Nat.min_eq_right (show w ≤ y by omega)]
      rfl
    · have h3 : decide (((lmb (limbsN w) y).getD 1 0 : Int) > 0) = false := h3
      rw [h1, decide_eq_false_iff_not] at h3
      have h4 : y < 2 ^ 64 := Decidable.of_not_not fun hc => by
        have : 0 < lw y 1 := by rw [hp]; exact hc
        omega
      refine ds_done tabOk rfl ?_ ?_
      · simp only [List.length_map, hll]
        exact ⟨⟨by omega, by omega⟩, trivial⟩
      have ew : IntKind.u64.wrap (w : Int) = (w : Int) := wrapU_id (by omega)
      refine sat_branch tabOk Tryz.func193 rfl trivial (fun h5 => ?_) (fun h5 => ?_)
      · have h5 : decide (((lmb (limbsN w) y).getD 0 0 : Int) ≥ IntKind.u64.wrap (w : Int)) = true := h5
        rw [h0, ew, Nat.mod_eq_of_lt h4, decide_eq_true_eq] at h5
        refine sat_ret tabOk Tryz.func193 rfl trivial ?_
        rw [Nat.min_eq_right (show w ≤ y by omega)]
        rfl
      · have h5 : decide (((lmb (limbsN w) y).getD 0 0 : Int) ≥ IntKind.u64.wrap (w : Int)) = false := h5
        rw [h0, ew, Nat.mod_eq_of_lt h4, decide_eq_false_iff_not] at h5
        refine sat_ret tabOk Tryz.func193 rfl ?_ ?_
        · simp only [List.length_map, hll]
          exact ⟨⟨by omega, by omega⟩, trivial⟩
        · show vI .i64 (IntKind.i64.wrap (((lmb (limbsN w) y).getD 0 0 : Nat) : Int)) = _
          rw [h0, Nat.mod_eq_of_lt h4, wrap_id (by omega) (by omega), Nat.min_eq_left (by omega)]
  · have h4 : y < 2 ^ 64 := Nat.lt_of_lt_of_le hy (Nat.pow_le_pow_right (by decide) (by omega))
    refine ds_branch tabOk rfl trivial (fun h => by cases h) (fun _ => ?_)
    refine ds_done tabOk rfl ?_ ?_
    · simp only [List.length_map, hll]
      exact ⟨⟨by omega, by omega⟩, trivial⟩
    have ew : IntKind.u64.wrap (w : Int) = (w : Int) := wrapU_id (by omega)
    refine sat_branch tabOk Tryz.func193 rfl trivial (fun h5 => ?_) (fun h5 => ?_)
    · have h5 : decide (((lmb (limbsN w) y).getD 0 0 : Int) ≥ IntKind.u64.wrap (w : Int)) = true := h5
      rw [h0, ew, Nat.mod_eq_of_lt h4, decide_eq_true_eq] at h5
      refine sat_ret tabOk Tryz.func193 rfl trivial ?_
      rw [Nat.min_eq_right (show w ≤ y by omega)]
      rfl
    · have h5 : decide (((lmb (limbsN w) y).getD 0 0 : Int) ≥ IntKind.u64.wrap (w : Int)) = false := h5
      rw [h0, ew, Nat.mod_eq_of_lt h4, decide_eq_false_iff_not] at h5
      refine sat_ret tabOk Tryz.func193 rfl ?_ ?_
      · simp only [List.length_map, hll]
        exact ⟨⟨by omega, by omega⟩, trivial⟩
      · show vI .i64 (IntKind.i64.wrap (((lmb (limbsN w) y).getD 0 0 : Nat) : Int)) = _
        rw [h0, Nat.mod_eq_of_lt h4, wrap_id (by omega) (by omega), Nat.min_eq_left (by omega)]

/-- What 'down' answers: each bit from n further up, else 'in'. -/
def dnN (w x n : Nat) (b : Bool) (i : Nat) : Nat := ofB (fun i => if i + n < w then x.testBit (i + n) else b) i
theorem dn_t {w x n i : Nat} {b : Bool} (h : (if i + n < w then x.testBit (i + n) else b) = true) : dnN w x n b (i + 1) = dnN w x n b i ||| 2 ^ i := by
  have hlt : dnN w x n b i < 2 ^ i := ofB_lt _ _
  have := Nat.two_pow_add_eq_or_of_lt hlt 1
  rw [Nat.mul_one] at this
  rw [Nat.or_comm, ← this, Nat.add_comm (2 ^ i)]
  show ofB _ _ + _ = _
  rw [if_pos h]
  rfl
theorem dn_f {w x n i : Nat} {b : Bool} (h : (if i + n < w then x.testBit (i + n) else b) = false) : dnN w x n b (i + 1) = dnN w x n b i := by
  show ofB _ _ + _ = _
  rw [if_neg (by simpa using h), Nat.add_zero]
  rfl
theorem downN_call (w x n : Nat) (b : Bool) (hw : 0 < w) (hwb : w ≤ 100000) (hn : n ≤ 100000) : ACall Tryz.prog 195 [.d (vN w x), vI .i64 n, vB b] [] (fun r o => r = .d (vN w (dnN w x n b w))) := by
  refine acall_enter Tryz.func195 rfl rfl (Nat.le_of_ble_eq_true rfl) fun C hC hCl hDs => ?_
  refine sat_callG [] tabOk Tryz.func195 rfl trivial (none_call w (by omega)) trivial (.refl _) rfl rfl rfl ⟨_, rfl⟩ ?_
  rintro r o ⟨rfl, rfl⟩
  refine sat_stop tabOk Tryz.func195 rfl trivial ?_
  refine sat_while (α := Nat) (fun i => [(1, vI .i64 n), (2, vB b), (3, .ptr 0 0), (6, .ptr 1 0), (7, .ptr 4 0), (13, vI .i64 (w : Int)), (14, vI .i64 i)]) (fun i => [some (bN w x), some zV, none, some (gUs (lmb (limbsN w) (dnN w x n b i))), some (cV w 3)]) (fun i => i ≤ w) (fun i => w - i) 0 (Nat.zero_le _) ?_ ?_
  · exact fun h => sat_le h hC hCl ⟨⟨_, rfl, .refl _⟩, ⟨_, rfl, .refl _⟩, ⟨_, rfl, .refl _⟩, ⟨_, rfl, .refl _⟩, ⟨_, rfl, .refl _⟩, ⟨_, rfl, .refl _⟩, ⟨_, rfl, .refl _⟩, trivial⟩ ⟨.refl _, .refl _, .of (by rw [zero_lmb]; rfl), .refl _, trivial⟩ rfl rfl (Nat.zero_le _)
  rintro i hi ih
  refine sat_branch tabOk Tryz.func195 rfl trivial (fun hb => ?_) (fun hb => ?_) <;> simp only [decide_eq_true_eq, decide_eq_false_iff_not] at hb
  · have e1 : IntKind.i64.wrap ((i : Int) + n) = ((i + n : Nat) : Int) := by rw [wrap_id (by omega) (by omega)]; omega
    refine sat_branch tabOk Tryz.func195 rfl trivial (fun h => ?_) (fun h => ?_)
    · have h : decide (IntKind.i64.wrap ((i : Int) + n) < (w : Int)) = true := h
      rw [e1, decide_eq_true_eq] at h
      refine sat_call tabOk Tryz.func195 rfl trivial (BitN_call w x ((i + n : Nat) : Int) (by omega)) ⟨.refl _, .of (by show vI .i64 (IntKind.i64.wrap ((i : Int) + n)) = _; rw [e1]), trivial⟩ rfl ⟨_, rfl⟩ (by rintro r o rfl; rfl) ?_
      rintro r o rfl
      rw [bitI'_nat (by omega)]
      refine sat_branch tabOk Tryz.func195 rfl trivial (fun h2 => ?_) (fun h2 => ?_)
      · have hx : (if i + n < w then x.testBit (i + n) else b) = true := by rw [if_pos (by omega)]; exact h2
        refine sat_branch tabOk Tryz.func195 rfl trivial (fun _ => ?_) (fun h => by cases h)
        refine sat_callG [4, 3] tabOk Tryz.func195 rfl trivial (set_call w i (lmb (limbsN w) (dnN w x n b i)) (lmb_lims _ _) (by rw [lmb_len]; exact limbs_at (by omega)) (by omega)) ⟨⟨_, rfl, .refl _⟩, ⟨_, rfl, .refl _⟩, trivial⟩ (.refl _) rfl rfl rfl ⟨_, rfl⟩ ?_
        rintro r o ⟨rfl, rfl⟩
        refine sat_stop tabOk Tryz.func195 rfl trivial ?_
        exact sat_le (ih (i + 1) (by omega) (by omega)) hC hCl ⟨⟨_, rfl, .refl _⟩, ⟨_, rfl, .refl _⟩, ⟨_, rfl, .refl _⟩, ⟨_, rfl, .refl _⟩, ⟨_, rfl, .refl _⟩, ⟨_, rfl, .refl _⟩, ⟨_, rfl, .of (by rw [wrap_id (by omega) (by omega)]; rfl)⟩, trivial⟩ ⟨.refl _, .refl _, .of (by rw [dn_t hx, setB_lmb (limbs_at (by omega))]; rfl), .refl _, trivial⟩ rfl rfl (Nat.zero_le _)
      · have hx : (if i + n < w then x.testBit (i + n) else b) = false := by rw [if_pos (by omega)]; exact h2
        refine sat_branch tabOk Tryz.func195 rfl trivial (fun h3 => ?_) (fun h3 => ?_)
        · have h3 : decide (IntKind.i64.wrap ((i : Int) + n) ≥ (w : Int)) = true := h3
          rw [e1, decide_eq_true_eq] at h3
          omega
        refine sat_branch tabOk Tryz.func195 rfl trivial (fun h => by cases h) (fun _ => ?_)
        refine sat_stop tabOk Tryz.func195 rfl trivial ?_
        exact sat_le (ih (i + 1) (by omega) (by omega)) hC hCl ⟨⟨_, rfl, .refl _⟩, ⟨_, rfl, .refl _⟩, ⟨_, rfl, .refl _⟩, ⟨_, rfl, .refl _⟩, ⟨_, rfl, .refl _⟩, ⟨_, rfl, .refl _⟩, ⟨_, rfl, .of (by rw [wrap_id (by omega) (by omega)]; rfl)⟩, trivial⟩ ⟨.refl _, .refl _, .of (by rw [dn_f hx]), .refl _, trivial⟩ rfl rfl (Nat.zero_le _)
    · have h : decide (IntKind.i64.wrap ((i : Int) + n) < (w : Int)) = false := h
      rw [e1, decide_eq_false_iff_not] at h
      refine sat_branch tabOk Tryz.func195 rfl trivial (fun h => by cases h) (fun _ => ?_)
      refine sat_branch tabOk Tryz.func195 rfl trivial (fun h2 => ?_) (fun h2 => ?_)
      · refine sat_branch tabOk Tryz.func195 rfl trivial (fun h3 => ?_) (fun h3 => ?_)
        · have hx : (if i + n < w then x.testBit (i + n) else b) = true := by rw [if_neg (by omega)]; exact h3
          refine sat_callG [4, 3] tabOk Tryz.func195 rfl trivial (set_call w i (lmb (limbsN w) (dnN w x n b i)) (lmb_lims _ _) (by rw [lmb_len]; exact limbs_at (by omega)) (by omega)) ⟨⟨_, rfl, .refl _⟩, ⟨_, rfl, .refl _⟩, trivial⟩ (.refl _) rfl rfl rfl ⟨_, rfl⟩ ?_
          rintro r o ⟨rfl, rfl⟩
          refine sat_stop tabOk Tryz.func195 rfl trivial ?_
          exact sat_le (ih (i + 1) (by omega) (by omega)) hC hCl ⟨⟨_, rfl, .refl _⟩, ⟨_, rfl, .refl _⟩, ⟨_, rfl, .refl _⟩, ⟨_, rfl, .refl _⟩, ⟨_, rfl, .refl _⟩, ⟨_, rfl, .refl _⟩, ⟨_, rfl, .of (by rw [wrap_id (by omega) (by omega)]; rfl)⟩, trivial⟩ ⟨.refl _, .refl _, .of (by rw [dn_t hx, setB_lmb (limbs_at (by omega))]; rfl), .refl _, trivial⟩ rfl rfl (Nat.zero_le _)
        · have hx : (if i + n < w then x.testBit (i + n) else b) = false := by rw [if_neg (by omega)]; exact h3
          refine sat_stop tabOk Tryz.func195 rfl trivial ?_
          exact sat_le (ih (i + 1) (by omega) (by omega)) hC hCl ⟨⟨_, rfl, .refl _⟩, ⟨_, rfl, .refl _⟩, ⟨_, rfl, .refl _⟩, ⟨_, rfl, .refl _⟩, ⟨_, rfl, .refl _⟩, ⟨_, rfl, .refl _⟩, ⟨_, rfl, .of (by rw [wrap_id (by omega) (by omega)]; rfl)⟩, trivial⟩ ⟨.refl _, .refl _, .of (by rw [dn_f hx]), .refl _, trivial⟩ rfl rfl (Nat.zero_le _)
      · have h2 : decide (IntKind.i64.wrap ((i : Int) + n) ≥ (w : Int)) = false := h2
        rw [e1, decide_eq_false_iff_not] at h2
        omega
  · obtain rfl : i = w := by omega
    refine sat_freeze 3 rfl ?_
    exact sat_ret tabOk Tryz.func195 rfl trivial rfl
end Go.Proofs.YtcenfhcemmlaeaaGreatDoor
set_option linter.unusedSimpArgs false
set_option linter.unusedVariables false
namespace Ab
open Go

section
variable {P : Program} {T : Tab} {f : FuncId} {fn : Func} {n : Nat} {C : Cx} {R : AV → List (Option AObj) → Prop} {todo todo' k : List Item} {env env' : Env} {objs objs' : List (Option AObj)}

theorem sat_insert {ops : Array Oper} {i : Nat} {r : List Nat} {k : List Item} {o : Oper} {t kt et : TypeId} {mo ko xo : Operand} {rm rk : TRow} {j : Nat} {es es' : List (Value × AV)} {key : Value} {x : AV} (hT : TabOk P T)
    (ho : ops[i]? = some o) (hw : wantE ops env o = .yes) (hop : o.op = .insert t mo ko xo) (hd : o.dst = none) (hm : opnd env mo = some (.mp j)) (hk : opnd env ko = some (.d (.v key))) (hx : opnd env xo = some x) (h1 : tlook T t = some rm) (h2 : rm.kd = .map kt et) (h3 : tlook T kt = some rk)
    (hobj : nth objs j = some (some (.map es))) (hkey : keyB rk.kd key = true) (hks : keysB rk.kd es = true) (hf : MPut key x es es')
    (h : ASat P f n C (.inRegion ops r :: k) env (setNth objs j (some (.map es'))) R) : ASat P f n C (.inRegion ops (i :: r) :: k) env objs R := by
  refine sat_op ⟨none, true, .und, none, setNth objs j (some (.map es'))⟩ ho hw (fun X π w tmps m he _ => ?_) trivial (by rw [hd]; rfl) h
  obtain ⟨w', e1, e2⟩ := update_do hT m h1 h2 h3 hobj hkey hks hf (opnd_rel (ds := []) he hm) (opnd_rel (ds := []) he hx)
  refine ⟨undef, w', π, ?_, e2, fun h => by cases h⟩
  unfold execOp
  simp only [hop]
  rw [look_ok (P := P) he hk]
  simp only [Sem.run_bind, e1, Result.andThen_ok, Sem.run_pure]
  rfl
end
end Ab
namespace Go.Proofs.YtcenfhcemmlaeaaGreatDoor
open Go Ab
set_option maxRecDepth 100000
set_option linter.unusedVariables false
set_option linter.unusedSimpArgs false

/-! ### The tables of functions -/
def strK (l : List UInt8) : Value := .string ⟨l.toArray⟩
theorem strK_ne {a b : List UInt8} (h : a ≠ b) : strK a ≠ strK b := by
  intro e
  injection e with e
  injection e with e
  injection e with e
  exact h e
/-- Put behind all others, under a new key. -/
theorem mput_new {k : List UInt8} {x : AV} : ∀ {es : List (List UInt8 × AV)}, (∀ p ∈ es, p.1 ≠ k) → MPut (strK k) x (es.map fun p => (strK p.1, p.2)) ((es ++ [(k, x)]).map fun p => (strK p.1, p.2))
  | [], _ => .nil
  | p :: r, h => .miss (strK_ne (h p (List.mem_cons_self))) (mput_new fun q hq => h q (List.mem_cons_of_mem _ hq))
def assocK (k : List UInt8) : List (List UInt8 × AV) → Option AV
  | [] => none
  | (k', x) :: r => if k' = k then some x else assocK k r
theorem mfind_assoc (k : List UInt8) (ρ : Nat → Nat) : ∀ es : List (List UInt8 × AV), MFind (strK k) (renEs ρ (es.map fun p => (strK p.1, p.2))) ((assocK k es).map (AV.ren ρ))
  | [] => .nil
  | (k', x) :: r => by
    simp only [assocK, List.map_cons, renEs]
    split
    · rename_i h
      subst h
      exact .hit
    · rename_i h
      exact .miss (strK_ne h) (mfind_assoc k ρ r)
@[reducible] def mpK (es : List (List UInt8 × AV)) : AObj := .map (es.map fun p => (strK p.1, p.2))
@[reducible] def cF (g : FuncId) : AObj := .cells 125 [fnV g]

def sNot : List UInt8 := [110, 111, 116]
def sInc : List UInt8 := [105, 110, 99]
def sDec : List UInt8 := [100, 101, 99]
def sNeg : List UInt8 := [110, 101, 103]
def sRedand : List UInt8 := [114, 101, 100, 97, 110, 100]
def sRedor : List UInt8 := [114, 101, 100, 111, 114]
def sRedxor : List UInt8 := [114, 101, 100, 120, 111, 114]
def unsE : List (List UInt8 × AV) := [(sNot, fnV 157), (sInc, .fn (.func 158) [.ptr 0 0]), (sDec, .fn (.func 160) [.ptr 0 0]), (sNeg, fnV 161), (sRedand, fnV 162), (sRedor, fnV 165), (sRedxor, fnV 166)]

theorem uns_call : ACall Tryz.prog 155 [] [] (fun r o => r = .mp 1 ∧ o = [some (cF 156), some (mpK unsE)]) := by
  refine acall_enter Tryz.func155 rfl rfl (Nat.le_of_ble_eq_true rfl) fun C hC hCl hDs => ?_
  refine sat_steps 12 tabOk Tryz.func155 rfl trivial ?_
  refine sat_insert (es' := (unsE.take 1).map fun p => (strK p.1, p.2)) tabOk rfl rfl rfl rfl rfl rfl rfl rfl rfl rfl rfl rfl (by kernel_rfl) ?_ ?_
  · exact mput_new (k := sNot) (es := unsE.take 0) (by intro p hp; revert p; decide)
  refine sat_le (env' := [(1, .ptr 0 0), (2, .mp 1)]) (objs' := [some (cF 156), some (mpK (unsE.take 1))]) ?_ hC hCl ⟨⟨_, rfl, .refl _⟩, ⟨_, rfl, .refl _⟩, trivial⟩ ⟨.refl _, .refl _, trivial⟩ rfl rfl (Nat.zero_le _)
  refine sat_steps 1 tabOk Tryz.func155 rfl trivial ?_
  refine sat_insert (es' := (unsE.take 2).map fun p => (strK p.1, p.2)) tabOk rfl rfl rfl rfl rfl rfl rfl rfl rfl rfl rfl rfl (by kernel_rfl) ?_ ?_
  · exact mput_new (k := sInc) (es := unsE.take 1) (by intro p hp; revert p; decide)
  refine sat_le (env' := [(1, .ptr 0 0), (2, .mp 1)]) (objs' := [some (cF 156), some (mpK (unsE.take 2))]) ?_ hC hCl ⟨⟨_, rfl, .refl _⟩, ⟨_, rfl, .refl _⟩, trivial⟩ ⟨.refl _, .refl _, trivial⟩ rfl rfl (Nat.zero_le _)
  refine sat_steps 1 tabOk Tryz.func155 rfl trivial ?_
  refine sat_insert (es' := (unsE.take 3).map fun p => (strK p.1, p.2)) tabOk rfl rfl rfl rfl rfl rfl rfl rfl rfl rfl rfl rfl (by kernel_rfl) ?_ ?_
  · exact mput_new (k := sDec) (es := unsE.take 2) (by intro p hp; revert p; decide)
  refine sat_le (env' := [(1, .ptr 0 0), (2, .mp 1)]) (objs' := [some (cF 156), some (mpK (unsE.take 3))]) ?_ hC hCl ⟨⟨_, rfl, .refl _⟩, ⟨_, rfl, .refl _⟩, trivial⟩ ⟨.refl _, .refl _, trivial⟩ rfl rfl (Nat.zero_le _)
  refine sat_insert (es' := (unsE.take 4).map fun p => (strK p.1, p.2)) tabOk rfl rfl rfl rfl rfl rfl rfl rfl rfl rfl rfl rfl (by kernel_rfl) ?_ ?_
  · exact mput_new (k := sNeg) (es := unsE.take 3) (by intro p hp; revert p; decide)
  refine sat_le (env' := [(1, .ptr 0 0), (2, .mp 1)]) (objs' := [some (cF 156), some (mpK (unsE.take 4))]) ?_ hC hCl ⟨⟨_, rfl, .refl _⟩, ⟨_, rfl, .refl _⟩, trivial⟩ ⟨.refl _, .refl _, trivial⟩ rfl rfl (Nat.zero_le _)
  refine sat_insert (es' := (unsE.take 5).map fun p => (strK p.1, p.2)) tabOk rfl rfl rfl rfl rfl rfl rfl rfl rfl rfl rfl rfl (by kernel_rfl) ?_ ?_
  · exact mput_new (k := sRedand) (es := unsE.take 4) (by intro p hp; revert p; decide)
  refine sat_le (env' := [(1, .ptr 0 0), (2, .mp 1)]) (objs' := [some (cF 156), some (mpK (unsE.take 5))]) ?_ hC hCl ⟨⟨_, rfl, .refl _⟩, ⟨_, rfl, .refl _⟩, trivial⟩ ⟨.refl _, .refl _, trivial⟩ rfl rfl (Nat.zero_le _)
  refine sat_insert (es' := (unsE.take 6).map fun p => (strK p.1, p.2)) tabOk rfl rfl rfl rfl rfl rfl rfl rfl rfl rfl rfl rfl (by kernel_rfl) ?_ ?_
  · exact mput_new (k := sRedor) (es := unsE.take 5) (by intro p hp; revert p; decide)
  refine sat_le (env' := [(1, .ptr 0 0), (2, .mp 1)]) (objs' := [some (cF 156), some (mpK (unsE.take 6))]) ?_ hC hCl ⟨⟨_, rfl, .refl _⟩, ⟨_, rfl, .refl _⟩, trivial⟩ ⟨.refl _, .refl _, trivial⟩ rfl rfl (Nat.zero_le _)
  refine sat_insert (es' := (unsE.take 7).map fun p => (strK p.1, p.2)) tabOk rfl rfl rfl rfl rfl rfl rfl rfl rfl rfl rfl rfl (by kernel_rfl) ?_ ?_
  · exact mput_new (k := sRedxor) (es := unsE.take 6) (by intro p hp; revert p; decide)
  refine sat_le (env' := [(1, .ptr 0 0), (2, .mp 1)]) (objs' := [some (cF 156), some (mpK (unsE.take 7))]) ?_ hC hCl ⟨⟨_, rfl, .refl _⟩, ⟨_, rfl, .refl _⟩, trivial⟩ ⟨.refl _, .refl _, trivial⟩ rfl rfl (Nat.zero_le _)
  exact sat_ret tabOk Tryz.func155 rfl trivial ⟨rfl, rfl⟩
end Go.Proofs.YtcenfhcemmlaeaaGreatDoor
namespace Go.Proofs.YtcenfhcemmlaeaaGreatDoor
open Go Ab
set_option maxRecDepth 100000
set_option linter.unusedVariables false
set_option linter.unusedSimpArgs false

def sAnd : List UInt8 := [97, 110, 100]
def sOr : List UInt8 := [111, 114]
def sXor : List UInt8 := [120, 111, 114]
def sAdd : List UInt8 := [97, 100, 100]
def sSub : List UInt8 := [115, 117, 98]
def sMul : List UInt8 := [109, 117, 108]
def sUdiv : List UInt8 := [117, 100, 105, 118]
def sUrem : List UInt8 := [117, 114, 101, 109]
def sSll : List UInt8 := [115, 108, 108]
def sSrl : List UInt8 := [115, 114, 108]
def sSra : List UInt8 := [115, 114, 97]
def sEq : List UInt8 := [101, 113]
def sUlt : List UInt8 := [117, 108, 116]
def sSlt : List UInt8 := [115, 108, 116]
def sConcat : List UInt8 := [99, 111, 110, 99, 97, 116]
def binsE : List (List UInt8 × AV) := [(sAnd, fnV 180), (sOr, fnV 182), (sXor, fnV 184), (sAdd, fnV 186), (sSub, fnV 187), (sMul, fnV 188), (sUdiv, fnV 189), (sUrem, fnV 191), (sSll, fnV 192), (sSrl, fnV 194), (sSra, fnV 196), (sEq, fnV 197), (sUlt, fnV 199), (sSlt, .fn (.func 201) [.ptr 1 0])]
@[reducible] def cV1 (g : FuncId) : AObj := .cells 206 [fnV g]
@[reducible] def cV2 (g : FuncId) : AObj := .cells 206 [.fn (.func g) [.ptr 0 0]]

theorem bins_call : ACall Tryz.prog 176 [] [] (fun r o => r = .mp 2 ∧ o = [some (cV1 177), some (cV2 179), some (mpK binsE)]) := by
  refine acall_enter Tryz.func176 rfl rfl (Nat.le_of_ble_eq_true rfl) fun C hC hCl hDs => ?_
  refine sat_steps 18 tabOk Tryz.func176 rfl trivial ?_
  refine sat_insert (es' := (binsE.take 1).map fun p => (strK p.1, p.2)) tabOk rfl rfl rfl rfl rfl rfl rfl rfl rfl rfl rfl rfl (by kernel_rfl) ?_ ?_
  · exact mput_new (k := sAnd) (es := binsE.take 0) (by intro p hp; revert p; decide)
  refine sat_le (env' := [(2, .ptr 1 0), (4, .mp 2)]) (objs' := [some (cV1 177), some (cV2 179), some (mpK (binsE.take 1))]) ?_ hC hCl ⟨⟨_, rfl, .refl _⟩, ⟨_, rfl, .refl _⟩, trivial⟩ ⟨.refl _, .refl _, .refl _, trivial⟩ rfl rfl (Nat.zero_le _)
  refine sat_insert (es' := (binsE.take 2).map fun p => (strK p.1, p.2)) tabOk rfl rfl rfl rfl rfl rfl rfl rfl rfl rfl rfl rfl (by kernel_rfl) ?_ ?_
  · exact mput_new (k := sOr) (es := binsE.take 1) (by intro p hp; revert p; decide)
  refine sat_le (env' := [(2, .ptr 1 0), (4, .mp 2)]) (objs' := [some (cV1 177), some (cV2 179), some (mpK (binsE.take 2))]) ?_ hC hCl ⟨⟨_, rfl, .refl _⟩, ⟨_, rfl, .refl _⟩, trivial⟩ ⟨.refl _, .refl _, .refl _, trivial⟩ rfl rfl (Nat.zero_le _)
  refine sat_insert (es' := (binsE.take 3).map fun p => (strK p.1, p.2)) tabOk rfl rfl rfl rfl rfl rfl rfl rfl rfl rfl rfl rfl (by kernel_rfl) ?_ ?_
  · exact mput_new (k := sXor) (es := binsE.take 2) (by intro p hp; revert p; decide)
  refine sat_le (env' := [(2, .ptr 1 0), (4, .mp 2)]) (objs' := [some (cV1 177), some (cV2 179), some (mpK (binsE.take 3))]) ?_ hC hCl ⟨⟨_, rfl, .refl _⟩, ⟨_, rfl, .refl _⟩, trivial⟩ ⟨.refl _, .refl _, .refl _, trivial⟩ rfl rfl (Nat.zero_le _)
  refine sat_insert (es' := (binsE.take 4).map fun p => (strK p.1, p.2)) tabOk rfl rfl rfl rfl rfl rfl rfl rfl rfl rfl rfl rfl (by kernel_rfl) ?_ ?_
  · exact mput_new (k := sAdd) (es := binsE.take 3) (by intro p hp; revert p; decide)
  refine sat_le (env' := [(2, .ptr 1 0), (4, .mp 2)]) (objs' := [some (cV1 177), some (cV2 179), some (mpK (binsE.take 4))]) ?_ hC hCl ⟨⟨_, rfl, .refl _⟩, ⟨_, rfl, .refl _⟩, trivial⟩ ⟨.refl _, .refl _, .refl _, trivial⟩ rfl rfl (Nat.zero_le _)
  refine sat_insert (es' := (binsE.take 5).map fun p => (strK p.1, p.2)) tabOk rfl rfl rfl rfl rfl rfl rfl rfl rfl rfl rfl rfl (by kernel_rfl) ?_ ?_
  · exact mput_new (k := sSub) (es := binsE.take 4) (by intro p hp; revert p; decide)
  refine sat_le (env' := [(2, .ptr 1 0), (4, .mp 2)]) (objs' := [some (cV1 177), some (cV2 179), some (mpK (binsE.take 5))]) ?_ hC hCl ⟨⟨_, rfl, .refl _⟩, ⟨_, rfl, .refl _⟩, trivial⟩ ⟨.refl _, .refl _, .refl _, trivial⟩ rfl rfl (Nat.zero_le _)
  refine sat_insert (es' := (binsE.take 6).map fun p => (strK p.1, p.2)) tabOk rfl rfl rfl rfl rfl rfl rfl rfl rfl rfl rfl rfl (by kernel_rfl) ?_ ?_
  · exact mput_new (k := sMul) (es := binsE.take 5) (by intro p hp; revert p; decide)
  refine sat_le (env' := [(2, .ptr 1 0), (4, .mp 2)]) (objs' := [some (cV1 177), some (cV2 179), some (mpK (binsE.take 6))]) ?_ hC hCl ⟨⟨_, rfl, .refl _⟩, ⟨_, rfl, .refl _⟩, trivial⟩ ⟨.refl _, .refl _, .refl _, trivial⟩ rfl rfl (Nat.zero_le _)
  refine sat_insert (es' := (binsE.take 7).map fun p => (strK p.1, p.2)) tabOk rfl rfl rfl rfl rfl rfl rfl rfl rfl rfl rfl rfl (by kernel_rfl) ?_ ?_
  · exact mput_new (k := sUdiv) (es := binsE.take 6) (by intro p hp; revert p; decide)
  refine sat_le (env' := [(2, .ptr 1 0), (4, .mp 2)]) (objs' := [some (cV1 177), some (cV2 179), some (mpK (binsE.take 7))]) ?_ hC hCl ⟨⟨_, rfl, .refl _⟩, ⟨_, rfl, .refl _⟩, trivial⟩ ⟨.refl _, .refl _, .refl _, trivial⟩ rfl rfl (Nat.zero_le _)
  refine sat_insert (es' := (binsE.take 8).map fun p => (strK p.1, p.2)) tabOk rfl rfl rfl rfl rfl rfl rfl rfl rfl rfl rfl rfl (by kernel_rfl) ?_ ?_
  · exact mput_new (k := sUrem) (es := binsE.take 7) (by intro p hp; revert p; decide)
  refine sat_le (env' := [(2, .ptr 1 0), (4, .mp 2)]) (objs' := [some (cV1 177), some (cV2 179), some (mpK (binsE.take 8))]) ?_ hC hCl ⟨⟨_, rfl, .refl _⟩, ⟨_, rfl, .refl _⟩, trivial⟩ ⟨.refl _, .refl _, .refl _, trivial⟩ rfl rfl (Nat.zero_le _)
  refine sat_insert (es' := (binsE.take 9).map fun p => (strK p.1, p.2)) tabOk rfl rfl rfl rfl rfl rfl rfl rfl rfl rfl rfl rfl (by kernel_rfl) ?_ ?_
  · exact mput_new (k := sSll) (es := binsE.take 8) (by intro p hp; revert p; decide)
  refine sat_le (env' := [(2, .ptr 1 0), (4, .mp 2)]) (objs' := [some (cV1 177), some (cV2 179), some (mpK (binsE.take 9))]) ?_ hC hCl ⟨⟨_, rfl, .refl _⟩, ⟨_, rfl, .refl _⟩, trivial⟩ ⟨.refl _, .refl _, .refl _, trivial⟩ rfl rfl (Nat.zero_le _)
  refine sat_insert (es' := (binsE.take 10).map fun p => (strK p.1, p.2)) tabOk rfl rfl rfl rfl rfl rfl rfl rfl rfl rfl rfl rfl (by kernel_rfl) ?_ ?_
  · exact mput_new (k := sSrl) (es := binsE.take 9) (by intro p hp; revert p; decide)
  refine sat_le (env' := [(2, .ptr 1 0), (4, .mp 2)]) (objs' := [some (cV1 177), some (cV2 179), some (mpK (binsE.take 10))]) ?_ hC hCl ⟨⟨_, rfl, .refl _⟩, ⟨_, rfl, .refl _⟩, trivial⟩ ⟨.refl _, .refl _, .refl _, trivial⟩ rfl rfl (Nat.zero_le _)
  refine sat_insert (es' := (binsE.take 11).map fun p => (strK p.1, p.2)) tabOk rfl rfl rfl rfl rfl rfl rfl rfl rfl rfl rfl rfl (by kernel_rfl) ?_ ?_
  · exact mput_new (k := sSra) (es := binsE.take 10) (by intro p hp; revert p; decide)
  refine sat_le (env' := [(2, .ptr 1 0), (4, .mp 2)]) (objs' := [some (cV1 177), some (cV2 179), some (mpK (binsE.take 11))]) ?_ hC hCl ⟨⟨_, rfl, .refl _⟩, ⟨_, rfl, .refl _⟩, trivial⟩ ⟨.refl _, .refl _, .refl _, trivial⟩ rfl rfl (Nat.zero_le _)
  refine sat_insert (es' := (binsE.take 12).map fun p => (strK p.1, p.2)) tabOk rfl rfl rfl rfl rfl rfl rfl rfl rfl rfl rfl rfl (by kernel_rfl) ?_ ?_
  · exact mput_new (k := sEq) (es := binsE.take 11) (by intro p hp; revert p; decide)
  refine sat_le (env' := [(2, .ptr 1 0), (4, .mp 2)]) (objs' := [some (cV1 177), some (cV2 179), some (mpK (binsE.take 12))]) ?_ hC hCl ⟨⟨_, rfl, .refl _⟩, ⟨_, rfl, .refl _⟩, trivial⟩ ⟨.refl _, .refl _, .refl _, trivial⟩ rfl rfl (Nat.zero_le _)
  refine sat_insert (es' := (binsE.take 13).map fun p => (strK p.1, p.2)) tabOk rfl rfl rfl rfl rfl rfl rfl rfl rfl rfl rfl rfl (by kernel_rfl) ?_ ?_
  · exact mput_new (k := sUlt) (es := binsE.take 12) (by intro p hp; revert p; decide)
  refine sat_le (env' := [(2, .ptr 1 0), (4, .mp 2)]) (objs' := [some (cV1 177), some (cV2 179), some (mpK (binsE.take 13))]) ?_ hC hCl ⟨⟨_, rfl, .refl _⟩, ⟨_, rfl, .refl _⟩, trivial⟩ ⟨.refl _, .refl _, .refl _, trivial⟩ rfl rfl (Nat.zero_le _)
  refine sat_steps 1 tabOk Tryz.func176 rfl trivial ?_
  refine sat_insert (es' := (binsE.take 14).map fun p => (strK p.1, p.2)) tabOk rfl rfl rfl rfl rfl rfl rfl rfl rfl rfl rfl rfl (by kernel_rfl) ?_ ?_
  · exact mput_new (k := sSlt) (es := binsE.take 13) (by intro p hp; revert p; decide)
  refine sat_le (env' := [(2, .ptr 1 0), (4, .mp 2)]) (objs' := [some (cV1 177), some (cV2 179), some (mpK (binsE.take 14))]) ?_ hC hCl ⟨⟨_, rfl, .refl _⟩, ⟨_, rfl, .refl _⟩, trivial⟩ ⟨.refl _, .refl _, .refl _, trivial⟩ rfl rfl (Nat.zero_le _)
  exact sat_ret tabOk Tryz.func176 rfl trivial ⟨rfl, rfl⟩

theorem keys_str (ρ : Nat → Nat) : ∀ es : List (List UInt8 × AV), keysB .str (renEs ρ (es.map fun p => (strK p.1, p.2))) = true
  | [] => rfl
  | p :: r => by
    show (match keyB .str (strK p.1) with | true => keysB .str _ | false => false) = true
    exact keys_str ρ r

/-! ### Un, Bin -/
theorem assoc_ren {op : List UInt8} {es : List (List UInt8 × AV)} {a : Option AV} (h : assocK op es = a) (ρ : Nat → Nat) : MFind (strK op) (renEs ρ (es.map fun p => (strK p.1, p.2))) (a.map (AV.ren ρ)) := h ▸ mfind_assoc op ρ es
theorem Un_fn (op : List UInt8) (g : FuncId) (w x w' x' : Nat) (hf : assocK op unsE = some (fnV g)) (hg : ACall Tryz.prog g [.d (vN w x)] [] (fun r o => r = .d (vN w' x'))) : ACall Tryz.prog 154 [vSL op, .d (vN w x)] [] (fun r o => r = tupOf [.d (vN w' x'), vI .i64 0]) := by
  refine acall_enter Tryz.func154 rfl rfl (Nat.le_of_ble_eq_true rfl) fun C hC hCl hDs => ?_
  refine sat_callG [] tabOk Tryz.func154 rfl trivial uns_call trivial (.refl _) rfl rfl rfl ⟨_, rfl⟩ ?_
  rintro r o ⟨rfl, rfl⟩
  refine sat_steps 1 tabOk Tryz.func154 rfl trivial ?_
  refine sat_lookup (a := some (fnV g)) (es := renEs (rho [] 2) (unsE.map fun p => (strK p.1, p.2))) (key := strK op) tabOk rfl rfl rfl rfl rfl rfl rfl rfl rfl rfl rfl (keys_str _ _) (assoc_ren hf _) rfl ?_
  refine sat_branch tabOk Tryz.func154 rfl trivial (fun h => by cases h) (fun _ => ?_)
  refine sat_call tabOk Tryz.func154 rfl trivial hg (.refl _) rfl ⟨_, rfl⟩ (by rintro r o rfl; rfl) ?_
  rintro r o rfl
  exact sat_ret tabOk Tryz.func154 rfl trivial rfl
theorem Un_cl (op : List UInt8) (g : FuncId) (w x w' x' : Nat) (hf : assocK op unsE = some (.fn (.func g) [.ptr 0 0])) (hg : ACall Tryz.prog g [.d (vN w x), .ptr 0 0] [some (cF 156)] (fun r o => r = .d (vN w' x') ∧ o = [some (cF 156)])) : ACall Tryz.prog 154 [vSL op, .d (vN w x)] [] (fun r o => r = tupOf [.d (vN w' x'), vI .i64 0]) := by
  refine acall_enter Tryz.func154 rfl rfl (Nat.le_of_ble_eq_true rfl) fun C hC hCl hDs => ?_
  refine sat_callG [] tabOk Tryz.func154 rfl trivial uns_call trivial (.refl _) rfl rfl rfl ⟨_, rfl⟩ ?_
  rintro r o ⟨rfl, rfl⟩
  refine sat_steps 1 tabOk Tryz.func154 rfl trivial ?_
  refine sat_lookup (a := some (.fn (.func g) [.ptr 2 0])) (es := renEs (rho [] 2) (unsE.map fun p => (strK p.1, p.2))) (key := strK op) tabOk rfl rfl rfl rfl rfl rfl rfl rfl rfl rfl rfl (keys_str _ _) (assoc_ren hf _) rfl ?_
  refine sat_branch tabOk Tryz.func154 rfl trivial (fun h => by cases h) (fun _ => ?_)
  refine sat_callG [2] tabOk Tryz.func154 rfl trivial hg ⟨⟨_, rfl, .refl _⟩, trivial⟩ (.refl _) rfl rfl rfl ⟨_, rfl⟩ ?_
  rintro r o ⟨rfl, rfl⟩
  exact sat_ret tabOk Tryz.func154 rfl trivial rfl
theorem Un_no (op : List UInt8) (w x : Nat) (hf : assocK op unsE = none) : ACall Tryz.prog 154 [vSL op, .d (vN w x)] [] (fun r o => r = tupOf [.d z24, vI .i64 1]) := by
  refine acall_enter Tryz.func154 rfl rfl (Nat.le_of_ble_eq_true rfl) fun C hC hCl hDs => ?_
  refine sat_callG [] tabOk Tryz.func154 rfl trivial uns_call trivial (.refl _) rfl rfl rfl ⟨_, rfl⟩ ?_
  rintro r o ⟨rfl, rfl⟩
  refine sat_steps 1 tabOk Tryz.func154 rfl trivial ?_
  refine sat_lookup (a := none) (es := renEs (rho [] 2) (unsE.map fun p => (strK p.1, p.2))) (key := strK op) tabOk rfl rfl rfl rfl rfl rfl rfl rfl rfl rfl rfl (keys_str _ _) (assoc_ren hf _) rfl ?_
  refine sat_branch tabOk Tryz.func154 rfl trivial (fun _ => ?_) (fun h => by cases h)
  exact sat_ret tabOk Tryz.func154 rfl trivial rfl
theorem strE (a b : List UInt8) : ((⟨a.toArray⟩ : ByteArray).toList == (⟨b.toArray⟩ : ByteArray).toList) = decide (a = b) := by
  rw [ByteArray.toList_mk, ByteArray.toList_mk]
  by_cases h : a = b <;> simp [h]
theorem Bin_fn (op : List UInt8) (g : FuncId) (w x y w' x' : Nat) (hc : op ≠ sConcat) (hf : assocK op binsE = some (fnV g)) (hg : ACall Tryz.prog g [.d (vN w x), .d (vN w y)] [] (fun r o => r = .d (vN w' x'))) : ACall Tryz.prog 174 [vSL op, .d (vN w x), .d (vN w y)] [] (fun r o => r = tupOf [.d (vN w' x'), vI .i64 0]) := by
  refine acall_enter Tryz.func174 rfl rfl (Nat.le_of_ble_eq_true rfl) fun C hC hCl hDs => ?_
  refine sat_branch tabOk Tryz.func174 rfl trivial (fun h => ?_) (fun h => ?_) <;> rw [show ((⟨#[99, 111, 110, 99, 97, 116]⟩ : ByteArray)) = ⟨sConcat.toArray⟩ from rfl, strE] at h
  · simp at h
    exact absurd h hc
  refine sat_callG [] tabOk Tryz.func174 rfl trivial bins_call trivial (.refl _) rfl rfl rfl ⟨_, rfl⟩ ?_
  rintro r o ⟨rfl, rfl⟩
  refine sat_steps 1 tabOk Tryz.func174 rfl trivial ?_
  refine sat_lookup (a := some (fnV g)) (es := renEs (rho [] 3) (binsE.map fun p => (strK p.1, p.2))) (key := strK op) tabOk rfl rfl rfl rfl rfl rfl rfl rfl rfl rfl rfl (keys_str _ _) (assoc_ren hf _) rfl ?_
  refine sat_branch tabOk Tryz.func174 rfl trivial (fun h => by cases h) (fun _ => ?_)
  refine sat_branch tabOk Tryz.func174 rfl trivial (fun h => ?_) (fun h => ?_)
  · have h : ((w : Int) != (w : Int)) = true := h
    simp at h
  refine sat_call tabOk Tryz.func174 rfl trivial hg (.refl _) rfl ⟨_, rfl⟩ (by rintro r o rfl; rfl) ?_
  rintro r o rfl
  exact sat_ret tabOk Tryz.func174 rfl trivial rfl
theorem Bin_cl (op : List UInt8) (g : FuncId) (w x y w' x' : Nat) (hc : op ≠ sConcat) (hf : assocK op binsE = some (.fn (.func g) [.ptr 1 0])) (hg : ACall Tryz.prog g [.d (vN w x), .d (vN w y), .ptr 1 0] [some (cV1 177), some (cV2 179)] (fun r o => r = .d (vN w' x') ∧ o = [some (cV1 177), some (cV2 179)])) : ACall Tryz.prog 174 [vSL op, .d (vN w x), .d (vN w y)] [] (fun r o => r = tupOf [.d (vN w' x'), vI .i64 0]) := by
  refine acall_enter Tryz.func174 rfl rfl (Nat.le_of_ble_eq_true rfl) fun C hC hCl hDs => ?_
  refine sat_branch tabOk Tryz.func174 rfl trivial (fun h => ?_) (fun h => ?_) <;> rw [show ((⟨#[99, 111, 110, 99, 97, 116]⟩ : ByteArray)) = ⟨sConcat.toArray⟩ from rfl, strE] at h
  · simp at h
    exact absurd h hc
  refine sat_callG [] tabOk Tryz.func174 rfl trivial bins_call trivial (.refl _) rfl rfl rfl ⟨_, rfl⟩ ?_
  rintro r o ⟨rfl, rfl⟩
  refine sat_steps 1 tabOk Tryz.func174 rfl trivial ?_
  refine sat_lookup (a := some (.fn (.func g) [.ptr 4 0])) (es := renEs (rho [] 3) (binsE.map fun p => (strK p.1, p.2))) (key := strK op) tabOk rfl rfl rfl rfl rfl rfl rfl rfl rfl rfl rfl (keys_str _ _) (assoc_ren hf _) rfl ?_
  refine sat_branch tabOk Tryz.func174 rfl trivial (fun h => by cases h) (fun _ => ?_)
  refine sat_branch tabOk Tryz.func174 rfl trivial (fun h => ?_) (fun h => ?_)
  · have h : ((w : Int) != (w : Int)) = true := h
    simp at h
  refine sat_callG [3, 4] tabOk Tryz.func174 rfl trivial hg ⟨⟨_, rfl, .refl _⟩, ⟨_, rfl, .refl _⟩, trivial⟩ (.refl _) rfl rfl rfl ⟨_, rfl⟩ ?_
  rintro r o ⟨rfl, rfl⟩
  exact sat_ret tabOk Tryz.func174 rfl trivial rfl
theorem Bin_no (op : List UInt8) (a b : D) (w v : Nat) (l k : List Nat) (hc : op ≠ sConcat) (hf : assocK op binsE = none) : ACall Tryz.prog 174 [vSL op, .d (eV w l), .d (eV v k)] [] (fun r o => r = tupOf [.d z24, vI .i64 1]) := by
  refine acall_enter Tryz.func174 rfl rfl (Nat.le_of_ble_eq_true rfl) fun C hC hCl hDs => ?_
  refine sat_branch tabOk Tryz.func174 rfl trivial (fun h => ?_) (fun h => ?_) <;> rw [show ((⟨#[99, 111, 110, 99, 97, 116]⟩ : ByteArray)) = ⟨sConcat.toArray⟩ from rfl, strE] at h
  · simp at h
    exact absurd h hc
  refine sat_callG [] tabOk Tryz.func174 rfl trivial bins_call trivial (.refl _) rfl rfl rfl ⟨_, rfl⟩ ?_
  rintro r o ⟨rfl, rfl⟩
  refine sat_steps 1 tabOk Tryz.func174 rfl trivial ?_
  refine sat_lookup (a := none) (es := renEs (rho [] 3) (binsE.map fun p => (strK p.1, p.2))) (key := strK op) tabOk rfl rfl rfl rfl rfl rfl rfl rfl rfl rfl rfl (keys_str _ _) (assoc_ren hf _) rfl ?_
  refine sat_branch tabOk Tryz.func174 rfl trivial (fun _ => ?_) (fun h => by cases h)
  exact sat_ret tabOk Tryz.func174 rfl trivial rfl
end Go.Proofs.YtcenfhcemmlaeaaGreatDoor
namespace Go.Proofs.YtcenfhcemmlaeaaGreatDoor
open Go Ab
set_option maxRecDepth 100000
set_option linter.unusedVariables false
set_option linter.unusedSimpArgs false

/-! ### Lines of models of words -/
structure Nd where
  op : List UInt8
  s : Int
  a : List Int
  n : List Int
  t : List UInt8
  deriving Inhabited
@[reducible] def dSL (l : List UInt8) : D := .v (.string ⟨l.toArray⟩)
def eNd (x : Nd) : D := .ag [dSL x.op, eI x.s, eIs x.a, eIs x.n, dSL x.t]
@[reducible] def eNds (l : List Nd) : D := eL 5 eNd default l
@[reducible] def eBt (l : List Nd) : D := .ag [eNds l]
@[reducible] def bNd (x : Nd) : AObj := .cells 67 [.d (dSL x.op), .d (eI x.s), .d (eIs x.a), .d (eIs x.n), .d (dSL x.t)]
@[reducible] def bBt (l : List Nd) : AObj := .cells 24 [.d (eNds l)]
theorem strB (a b : List UInt8) : ((⟨a.toArray⟩ : ByteArray).toList == (⟨b.toArray⟩ : ByteArray).toList) = decide (a = b) := strE a b
def kSort : List UInt8 := [115, 111, 114, 116]
def kConst : List UInt8 := [99, 111, 110, 115, 116]
def kInput : List UInt8 := [105, 110, 112, 117, 116]
def kState : List UInt8 := [115, 116, 97, 116, 101]
def kBad : List UInt8 := [98, 97, 100]
def kConstraint : List UInt8 := [99, 111, 110, 115, 116, 114, 97, 105, 110, 116]
def kNot : List UInt8 := [110, 111, 116]
def kInc : List UInt8 := [105, 110, 99]
def kDec : List UInt8 := [100, 101, 99]
def kNeg : List UInt8 := [110, 101, 103]
def kRedand : List UInt8 := [114, 101, 100, 97, 110, 100]
def kRedor : List UInt8 := [114, 101, 100, 111, 114]
def kRedxor : List UInt8 := [114, 101, 100, 120, 111, 114]
def kInit : List UInt8 := [105, 110, 105, 116]
def kNext : List UInt8 := [110, 101, 120, 116]
def kAnd : List UInt8 := [97, 110, 100]
def kOr : List UInt8 := [111, 114]
def kXor : List UInt8 := [120, 111, 114]
def kAdd : List UInt8 := [97, 100, 100]
def kSub : List UInt8 := [115, 117, 98]
def kMul : List UInt8 := [109, 117, 108]
def kUdiv : List UInt8 := [117, 100, 105, 118]
def kUrem : List UInt8 := [117, 114, 101, 109]
def kSll : List UInt8 := [115, 108, 108]
def kSrl : List UInt8 := [115, 114, 108]
def kSra : List UInt8 := [115, 114, 97]
def kEq : List UInt8 := [101, 113]
def kUlt : List UInt8 := [117, 108, 116]
def kSlt : List UInt8 := [115, 108, 116]
def kConcat : List UInt8 := [99, 111, 110, 99, 97, 116]
def kIte : List UInt8 := [105, 116, 101]
def kSlice : List UInt8 := [115, 108, 105, 99, 101]
def kUext : List UInt8 := [117, 101, 120, 116]
def kSext : List UInt8 := [115, 101, 120, 116]
/-- An op's form: what its line has. -/
def formR (op : List UInt8) : List UInt8 × Bool :=
  if op = kSort then ([119], true)
  else if op = kConst then ([115, 98], true)
  else if op = kInput then ([115, 109], true)
  else if op = kState then ([115, 109], true)
  else if op = kBad then ([97], true)
  else if op = kConstraint then ([97], true)
  else if op = kNot then ([115, 97], true)
  else if op = kInc then ([115, 97], true)
  else if op = kDec then ([115, 97], true)
  else if op = kNeg then ([115, 97], true)
  else if op = kRedand then ([115, 97], true)
  else if op = kRedor then ([115, 97], true)
  else if op = kRedxor then ([115, 97], true)
  else if op = kInit then ([115, 97, 97], true)
  else if op = kNext then ([115, 97, 97], true)
  else if op = kAnd then ([115, 97, 97], true)
  else if op = kOr then ([115, 97, 97], true)
  else if op = kXor then ([115, 97, 97], true)
  else if op = kAdd then ([115, 97, 97], true)
  else if op = kSub then ([115, 97, 97], true)
  else if op = kMul then ([115, 97, 97], true)
  else if op = kUdiv then ([115, 97, 97], true)
  else if op = kUrem then ([115, 97, 97], true)
  else if op = kSll then ([115, 97, 97], true)
  else if op = kSrl then ([115, 97, 97], true)
  else if op = kSra then ([115, 97, 97], true)
  else if op = kEq then ([115, 97, 97], true)
  else if op = kUlt then ([115, 97, 97], true)
  else if op = kSlt then ([115, 97, 97], true)
  else if op = kConcat then ([115, 97, 97], true)
  else if op = kIte then ([115, 97, 97, 97], true)
  else if op = kSlice then ([115, 97, 110, 110], true)
  else if op = kUext then ([115, 97, 110], true)
  else if op = kSext then ([115, 97, 110], true)
  else ([], false)
theorem Form_call (op : List UInt8) : ACall Tryz.prog 94 [vSL op] [] (fun r o => r = tupOf [vSL (formR op).1, vB (formR op).2]) := by
  refine acall_enter Tryz.func94 rfl rfl (Nat.le_of_ble_eq_true rfl) fun C hC hCl hDs => ?_
  unfold formR
  refine sat_branch tabOk Tryz.func94 rfl trivial (fun h => ?_) (fun h => ?_) <;> rw [show ((⟨#[115, 111, 114, 116]⟩ : ByteArray)) = ⟨kSort.toArray⟩ from rfl, strB] at h
  · have h0 : op = kSort := by simpa using h
    refine sat_ret tabOk Tryz.func94 rfl trivial ?_
    rw [if_pos h0]
    try rfl
  have h0 : ¬ op = kSort := by simpa using h
  clear h
  refine sat_branch tabOk Tryz.func94 rfl trivial (fun h => ?_) (fun h => ?_) <;> rw [show ((⟨#[99, 111, 110, 115, 116]⟩ : ByteArray)) = ⟨kConst.toArray⟩ from rfl, strB] at h
  · have h1 : op = kConst := by simpa using h
    refine sat_ret tabOk Tryz.func94 rfl trivial ?_
    rw [if_neg h0, if_pos h1]
    try rfl
  have h1 : ¬ op = kConst := by simpa using h
  clear h
  refine sat_branch tabOk Tryz.func94 rfl trivial (fun h => ?_) (fun h => ?_) <;> rw [show ((⟨#[105, 110, 112, 117, 116]⟩ : ByteArray)) = ⟨kInput.toArray⟩ from rfl, strB] at h
  · have h2 : op = kInput := by simpa using h
    refine sat_ret tabOk Tryz.func94 rfl trivial ?_
    rw [if_neg h0, if_neg h1, if_pos h2]
    try rfl
  have h2 : ¬ op = kInput := by simpa using h
  clear h
  refine sat_branch tabOk Tryz.func94 rfl trivial (fun h => ?_) (fun h => ?_) <;> rw [show ((⟨#[115, 116, 97, 116, 101]⟩ : ByteArray)) = ⟨kState.toArray⟩ from rfl, strB] at h
  · have h3 : op = kState := by simpa using h
    refine sat_ret tabOk Tryz.func94 rfl trivial ?_
    rw [if_neg h0, if_neg h1, if_neg h2, if_pos h3]
    try rfl
  have h3 : ¬ op = kState := by simpa using h
  clear h
  refine sat_branch tabOk Tryz.func94 rfl trivial (fun h => ?_) (fun h => ?_) <;> rw [show ((⟨#[98, 97, 100]⟩ : ByteArray)) = ⟨kBad.toArray⟩ from rfl, strB] at h
  · have h4 : op = kBad := by simpa using h
    refine sat_ret tabOk Tryz.func94 rfl trivial ?_
    rw [if_neg h0, if_neg h1, if_neg h2, if_neg h3, if_pos h4]
    try rfl
  have h4 : ¬ op = kBad := by simpa using h
  clear h
  refine sat_branch tabOk Tryz.func94 rfl trivial (fun h => ?_) (fun h => ?_) <;> rw [show ((⟨#[99, 111, 110, 115, 116, 114, 97, 105, 110, 116]⟩ : ByteArray)) = ⟨kConstraint.toArray⟩ from rfl, strB] at h
  · have h5 : op = kConstraint := by simpa using h
    refine sat_ret tabOk Tryz.func94 rfl trivial ?_
    rw [if_neg h0, if_neg h1, if_neg h2, if_neg h3, if_neg h4, if_pos h5]
    try rfl
  have h5 : ¬ op = kConstraint := by simpa using h
  clear h
  refine sat_branch tabOk Tryz.func94 rfl trivial (fun h => ?_) (fun h => ?_) <;> rw [show ((⟨#[110, 111, 116]⟩ : ByteArray)) = ⟨kNot.toArray⟩ from rfl, strB] at h
  · have h6 : op = kNot := by simpa using h
    refine sat_ret tabOk Tryz.func94 rfl trivial ?_
    rw [if_neg h0, if_neg h1, if_neg h2, if_neg h3, if_neg h4, if_neg h5, if_pos h6]
    try rfl
  have h6 : ¬ op = kNot := by simpa using h
  clear h
  refine sat_branch tabOk Tryz.func94 rfl trivial (fun h => ?_) (fun h => ?_) <;> rw [show ((⟨#[105, 110, 99]⟩ : ByteArray)) = ⟨kInc.toArray⟩ from rfl, strB] at h
  · have h7 : op = kInc := by simpa using h
    refine sat_ret tabOk Tryz.func94 rfl trivial ?_
    rw [if_neg h0, if_neg h1, if_neg h2, if_neg h3, if_neg h4, if_neg h5, if_neg h6, if_pos h7]
    try rfl
  have h7 : ¬ op = kInc := by simpa using h
  clear h
  refine sat_branch tabOk Tryz.func94 rfl trivial (fun h => ?_) (fun h => ?_) <;> rw [show ((⟨#[100, 101, 99]⟩ : ByteArray)) = ⟨kDec.toArray⟩ from rfl, strB] at h
  · have h8 : op = kDec := by simpa using h
    refine sat_ret tabOk Tryz.func94 rfl trivial ?_
    rw [if_neg h0, if_neg h1, if_neg h2, if_neg h3, if_neg h4, if_neg h5, if_neg h6, if_neg h7, if_pos h8]
    try rfl
  have h8 : ¬ op = kDec := by simpa using h
  clear h
  refine sat_branch tabOk Tryz.func94 rfl trivial (fun h => ?_) (fun h => ?_) <;> rw [show ((⟨#[110, 101, 103]⟩ : ByteArray)) = ⟨kNeg.toArray⟩ from rfl, strB] at h
  · have h9 : op = kNeg := by simpa using h
    refine sat_ret tabOk Tryz.func94 rfl trivial ?_
    rw [if_neg h0, if_neg h1, if_neg h2, if_neg h3, if_neg h4, if_neg h5, if_neg h6, if_neg h7, if_neg h8, if_pos h9]
    try rfl
  have h9 : ¬ op = kNeg := by simpa using h
  clear h
  refine sat_branch tabOk Tryz.func94 rfl trivial (fun h => ?_) (fun h => ?_) <;> rw [show ((⟨#[114, 101, 100, 97, 110, 100]⟩ : ByteArray)) = ⟨kRedand.toArray⟩ from rfl, strB] at h
  · have h10 : op = kRedand := by simpa using h
    refine sat_ret tabOk Tryz.func94 rfl trivial ?_
    rw [if_neg h0, if_neg h1, if_neg h2, if_neg h3, if_neg h4, if_neg h5, if_neg h6, if_neg h7, if_neg h8, if_neg h9, if_pos h10]
    try rfl
  have h10 : ¬ op = kRedand := by simpa using h
  clear h
  refine sat_branch tabOk Tryz.func94 rfl trivial (fun h => ?_) (fun h => ?_) <;> rw [show ((⟨#[114, 101, 100, 111, 114]⟩ : ByteArray)) = ⟨kRedor.toArray⟩ from rfl, strB] at h
  · have h11 : op = kRedor := by simpa using h
    refine sat_ret tabOk Tryz.func94 rfl trivial ?_
    rw [if_neg h0, if_neg h1, if_neg h2, if_neg h3, if_neg h4, if_neg h5, if_neg h6, if_neg h7, if_neg h8, if_neg h9, if_neg h10, if_pos h11]
    try rfl
  have h11 : ¬ op = kRedor := by simpa using h
  clear h
  refine sat_branch tabOk Tryz.func94 rfl trivial (fun h => ?_) (fun h => ?_) <;> rw [show ((⟨#[114, 101, 100, 120, 111, 114]⟩ : ByteArray)) = ⟨kRedxor.toArray⟩ from rfl, strB] at h
  · have h12 : op = kRedxor := by simpa using h
    refine sat_ret tabOk Tryz.func94 rfl trivial ?_
    rw [if_neg h0, if_neg h1, if_neg h2, if_neg h3, if_neg h4, if_neg h5, if_neg h6, if_neg h7, if_neg h8, if_neg h9, if_neg h10, if_neg h11, if_pos h12]
    try rfl
  have h12 : ¬ op = kRedxor := by simpa using h
  clear h
  refine sat_branch tabOk Tryz.func94 rfl trivial (fun h => ?_) (fun h => ?_) <;> rw [show ((⟨#[105, 110, 105, 116]⟩ : ByteArray)) = ⟨kInit.toArray⟩ from rfl, strB] at h
  · have h13 : op = kInit := by simpa using h
    refine sat_ret tabOk Tryz.func94 rfl trivial ?_
    rw [if_neg h0, if_neg h1, if_neg h2, if_neg h3, if_neg h4, if_neg h5, if_neg h6, if_neg h7, if_neg h8, if_neg h9, if_neg h10, if_neg h11, if_neg h12, if_pos h13]
    try rfl
  have h13 : ¬ op = kInit := by simpa using h
  clear h
  refine sat_branch tabOk Tryz.func94 rfl trivial (fun h => ?_) (fun h => ?_) <;> rw [show ((⟨#[110, 101, 120, 116]⟩ : ByteArray)) = ⟨kNext.toArray⟩ from rfl, strB] at h
  · have h14 : op = kNext := by simpa using h
    refine sat_ret tabOk Tryz.func94 rfl trivial ?_
    rw [if_neg h0, if_neg h1, if_neg h2, if_neg h3, if_neg h4, if_neg h5, if_neg h6, if_neg h7, if_neg h8, if_neg h9, if_neg h10, if_neg h11, if_neg h12, if_neg h13, if_pos h14]
    try rfl
  have h14 : ¬ op = kNext := by simpa using h
  clear h
  refine sat_branch tabOk Tryz.func94 rfl trivial (fun h => ?_) (fun h => ?_) <;> rw [show ((⟨#[97, 110, 100]⟩ : ByteArray)) = ⟨kAnd.toArray⟩ from rfl, strB] at h
  · have h15 : op = kAnd := by simpa using h
    refine sat_ret tabOk Tryz.func94 rfl trivial ?_
    rw [if_neg h0, if_neg h1, if_neg h2, if_neg h3, if_neg h4, if_neg h5, if_neg h6, if_neg h7, if_neg h8, if_neg h9, if_neg h10, if_neg h11, if_neg h12, if_neg h13, if_neg h14, if_pos h15]
    try rfl
  have h15 : ¬ op = kAnd := by simpa using h
  clear h
  refine sat_branch tabOk Tryz.func94 rfl trivial (fun h => ?_) (fun h => ?_) <;> rw [show ((⟨#[111, 114]⟩ : ByteArray)) = ⟨kOr.toArray⟩ from rfl, strB] at h
  · have h16 : op = kOr := by simpa using h
    refine sat_ret tabOk Tryz.func94 rfl trivial ?_
    rw [if_neg h0, if_neg h1, if_neg h2, if_neg h3, if_neg h4, if_neg h5, if_neg h6, if_neg h7, if_neg h8, if_neg h9, if_neg h10, if_neg h11, if_neg h12, if_neg h13, if_neg h14, if_neg h15, if_pos h16]
    try rfl
  have h16 : ¬ op = kOr := by simpa using h
  clear h
  refine sat_branch tabOk Tryz.func94 rfl trivial (fun h => ?_) (fun h => ?_) <;> rw [show ((⟨#[120, 111, 114]⟩ : ByteArray)) = ⟨kXor.toArray⟩ from rfl, strB] at h
  · have h17 : op = kXor := by simpa using h
    refine sat_ret tabOk Tryz.func94 rfl trivial ?_
    rw [if_neg h0, if_neg h1, if_neg h2, if_neg h3, if_neg h4, if_neg h5, if_neg h6, if_neg h7, if_neg h8, if_neg h9, if_neg h10, if_neg h11, if_neg h12, if_neg h13, if_neg h14, if_neg h15, if_neg h16, if_pos h17]
    try rfl
  have h17 : ¬ op = kXor := by simpa using h
  clear h
  refine sat_branch tabOk Tryz.func94 rfl trivial (fun h => ?_) (fun h => ?_) <;> rw [show ((⟨#[97, 100, 100]⟩ : ByteArray)) = ⟨kAdd.toArray⟩ from rfl, strB] at h
  · have h18 : op = kAdd := by simpa using h
    refine sat_ret tabOk Tryz.func94 rfl trivial ?_
    rw [if_neg h0, if_neg h1, if_neg h2, if_neg h3, if_neg h4, if_neg h5, if_neg h6, if_neg h7, if_neg h8, if_neg h9, if_neg h10, if_neg h11, if_neg h12, if_neg h13, if_neg h14, if_neg h15, if_neg h16, if_neg h17, if_pos h18]
    try rfl
  have h18 : ¬ op = kAdd := by simpa using h
  clear h
  refine sat_branch tabOk Tryz.func94 rfl trivial (fun h => ?_) (fun h => ?_) <;> rw [show ((⟨#[115, 117, 98]⟩ : ByteArray)) = ⟨kSub.toArray⟩ from rfl, strB] at h
  · have h19 : op = kSub := by simpa using h
    refine sat_ret tabOk Tryz.func94 rfl trivial ?_
    rw [if_neg h0, if_neg h1, if_neg h2, if_neg h3, if_neg h4, if_neg h5, if_neg h6, if_neg h7, if_neg h8, if_neg h9, if_neg h10, if_neg h11, if_neg h12, if_neg h13, if_neg h14, if_neg h15, if_neg h16, if_neg h17, if_neg h18, if_pos h19]
    try rfl
  have h19 : ¬ op = kSub := by simpa using h
  clear h
  refine sat_branch tabOk Tryz.func94 rfl trivial (fun h => ?_) (fun h => ?_) <;> rw [show ((⟨#[109, 117, 108]⟩ : ByteArray)) = ⟨kMul.toArray⟩ from rfl, strB] at h
  · have h20 : op = kMul := by simpa using h
    refine sat_ret tabOk Tryz.func94 rfl trivial ?_
    rw [if_neg h0, if_neg h1, if_neg h2, if_neg h3, if_neg h4, if_neg h5, if_neg h6, if_neg h7, if_neg h8, if_neg h9, if_neg h10, if_neg h11, if_neg h12, if_neg h13, if_neg h14, if_neg h15, if_neg h16, if_neg h17, if_neg h18, if_neg h19, if_pos h20]
    try rfl
  have h20 : ¬ op = kMul := by simpa using h
  clear h
  refine sat_branch tabOk Tryz.func94 rfl trivial (fun h => ?_) (fun h => ?_) <;> rw [show ((⟨#[117, 100, 105, 118]⟩ : ByteArray)) = ⟨kUdiv.toArray⟩ from rfl, strB] at h
  · have h21 : op = kUdiv := by simpa using h
    refine sat_ret tabOk Tryz.func94 rfl trivial ?_
    rw [if_neg h0, if_neg h1, if_neg h2, if_neg h3, if_neg h4, if_neg h5, if_neg h6, if_neg h7, if_neg h8, if_neg h9, if_neg h10, if_neg h11, if_neg h12, if_neg h13, if_neg h14, if_neg h15, if_neg h16, if_neg h17, if_neg h18, if_neg h19, if_neg h20, if_pos h21]
    try rfl
  have h21 : ¬ op = kUdiv := by simpa using h
  clear h
  refine sat_branch tabOk Tryz.func94 rfl trivial (fun h => ?_) (fun h => ?_) <;> rw [show ((⟨#[117, 114, 101, 109]⟩ : ByteArray)) = ⟨kUrem.toArray⟩ from rfl, strB] at h
  · have h22 : op = kUrem := by simpa using h
    refine sat_ret tabOk Tryz.func94 rfl trivial ?_
    rw [if_neg h0, if_neg h1, if_neg h2, if_neg h3, if_neg h4, if_neg h5, if_neg h6, if_neg h7, if_neg h8, if_neg h9, if_neg h10, if_neg h11, if_neg h12, if_neg h13, if_neg h14, if_neg h15, if_neg h16, if_neg h17, if_neg h18, if_neg h19, if_neg h20, if_neg h21, if_pos h22]
    try rfl
  have h22 : ¬ op = kUrem := by simpa using h
  clear h
  refine sat_branch tabOk Tryz.func94 rfl trivial (fun h => ?_) (fun h => ?_) <;> rw [show ((⟨#[115, 108, 108]⟩ : ByteArray)) = ⟨kSll.toArray⟩ from rfl, strB] at h
  · have h23 : op = kSll := by simpa using h
    refine sat_ret tabOk Tryz.func94 rfl trivial ?_
    rw [if_neg h0, if_neg h1, if_neg h2, if_neg h3, if_neg h4, if_neg h5, if_neg h6, if_neg h7, if_neg h8, if_neg h9, if_neg h10, if_neg h11, if_neg h12, if_neg h13, if_neg h14, if_neg h15, if_neg h16, if_neg h17, if_neg h18, if_neg h19, if_neg h20, if_neg h21, if_neg h22, if_pos h23]
    try rfl
  have h23 : ¬ op = kSll := by simpa using h
  clear h
  refine sat_branch tabOk Tryz.func94 rfl trivial (fun h => ?_) (fun h => ?_) <;> rw [show ((⟨#[115, 114, 108]⟩ : ByteArray)) = ⟨kSrl.toArray⟩ from rfl, strB] at h
  · have h24 : op = kSrl := by simpa using h
    refine sat_ret tabOk Tryz.func94 rfl trivial ?_
    rw [if_neg h0, if_neg h1, if_neg h2, if_neg h3, if_neg h4, if_neg h5, if_neg h6, if_neg h7, if_neg h8, if_neg h9, if_neg h10, if_neg h11, if_neg h12, if_neg h13, if_neg h14, if_neg h15, if_neg h16, if_neg h17, if_neg h18, if_neg h19, if_neg h20, if_neg h21, if_neg h22, if_neg h23, if_pos h24]
    try rfl
  have h24 : ¬ op = kSrl := by simpa using h
  clear h
  refine sat_branch tabOk Tryz.func94 rfl trivial (fun h => ?_) (fun h => ?_) <;> rw [show ((⟨#[115, 114, 97]⟩ : ByteArray)) = ⟨kSra.toArray⟩ from rfl, strB] at h
  · have h25 : op = kSra := by simpa using h
    refine sat_ret tabOk Tryz.func94 rfl trivial ?_
    rw [if_neg h0, if_neg h1, if_neg h2, if_neg h3, if_neg h4, if_neg h5, if_neg h6, if_neg h7, if_neg h8, if_neg h9, if_neg h10, if_neg h11, if_neg h12, if_neg h13, if_neg h14, if_neg h15, if_neg h16, if_neg h17, if_neg h18, if_neg h19, if_neg h20, if_neg h21, if_neg h22, if_neg h23, if_neg h24, if_pos h25]
    try rfl
  have h25 : ¬ op = kSra := by simpa using h
  clear h
  refine sat_branch tabOk Tryz.func94 rfl trivial (fun h => ?_) (fun h => ?_) <;> rw [show ((⟨#[101, 113]⟩ : ByteArray)) = ⟨kEq.toArray⟩ from rfl, strB] at h
  · have h26 : op = kEq := by simpa using h
    refine sat_ret tabOk Tryz.func94 rfl trivial ?_
    rw [if_neg h0, if_neg h1, if_neg h2, if_neg h3, if_neg h4, if_neg h5, if_neg h6, if_neg h7, if_neg h8, if_neg h9, if_neg h10, if_neg h11, if_neg h12, if_neg h13, if_neg h14, if_neg h15, if_neg h16, if_neg h17, if_neg h18, if_neg h19, if_neg h20, if_neg h21, if_neg h22, if_neg h23, if_neg h24, if_neg h25, if_pos h26]
    try rfl
  have h26 : ¬ op = kEq := by simpa using h
  clear h
  refine sat_branch tabOk Tryz.func94 rfl trivial (fun h => ?_) (fun h => ?_) <;> rw [show ((⟨#[117, 108, 116]⟩ : ByteArray)) = ⟨kUlt.toArray⟩ from rfl, strB] at h
  · have h27 : op = kUlt := by simpa using h
    refine sat_ret tabOk Tryz.func94 rfl trivial ?_
    rw [if_neg h0, if_neg h1, if_neg h2, if_neg h3, if_neg h4, if_neg h5, if_neg h6, if_neg h7, if_neg h8, if_neg h9, if_neg h10, if_neg h11, if_neg h12, if_neg h13, if_neg h14, if_neg h15, if_neg h16, if_neg h17, if_neg h18, if_neg h19, if_neg h20, if_neg h21, if_neg h22, if_neg h23, if_neg h24, if_neg h25, if_neg h26, if_pos h27]
    try rfl
  have h27 : ¬ op = kUlt := by simpa using h
  clear h
  refine sat_branch tabOk Tryz.func94 rfl trivial (fun h => ?_) (fun h => ?_) <;> rw [show ((⟨#[115, 108, 116]⟩ : ByteArray)) = ⟨kSlt.toArray⟩ from rfl, strB] at h
  · have h28 : op = kSlt := by simpa using h
    refine sat_ret tabOk Tryz.func94 rfl trivial ?_
    rw [if_neg h0, if_neg h1, if_neg h2, if_neg h3, if_neg h4, if_neg h5, if_neg h6, if_neg h7, if_neg h8, if_neg h9, if_neg h10, if_neg h11, if_neg h12, if_neg h13, if_neg h14, if_neg h15, if_neg h16, if_neg h17, if_neg h18, if_neg h19, if_neg h20, if_neg h21, if_neg h22, if_neg h23, if_neg h24, if_neg h25, if_neg h26, if_neg h27, if_pos h28]
    try rfl
  have h28 : ¬ op = kSlt := by simpa using h
  clear h
  refine sat_branch tabOk Tryz.func94 rfl trivial (fun h => ?_) (fun h => ?_) <;> rw [show ((⟨#[99, 111, 110, 99, 97, 116]⟩ : ByteArray)) = ⟨kConcat.toArray⟩ from rfl, strB] at h
  · have h29 : op = kConcat := by simpa using h
    refine sat_ret tabOk Tryz.func94 rfl trivial ?_
    rw [if_neg h0, if_neg h1, if_neg h2, if_neg h3, if_neg h4, if_neg h5, if_neg h6, if_neg h7, if_neg h8, if_neg h9, if_neg h10, if_neg h11, if_neg h12, if_neg h13, if_neg h14, if_neg h15, if_neg h16, if_neg h17, if_neg h18, if_neg h19, if_neg h20, if_neg h21, if_neg h22, if_neg h23, if_neg h24, if_neg h25, if_neg h26, if_neg h27, if_neg h28, if_pos h29]
    try rfl
  have h29 : ¬ op = kConcat := by simpa using h
  clear h
  refine sat_branch tabOk Tryz.func94 rfl trivial (fun h => ?_) (fun h => ?_) <;> rw [show ((⟨#[105, 116, 101]⟩ : ByteArray)) = ⟨kIte.toArray⟩ from rfl, strB] at h
  · have h30 : op = kIte := by simpa using h
    refine sat_ret tabOk Tryz.func94 rfl trivial ?_
    rw [if_neg h0, if_neg h1, if_neg h2, if_neg h3, if_neg h4, if_neg h5, if_neg h6, if_neg h7, if_neg h8, if_neg h9, if_neg h10, if_neg h11, if_neg h12, if_neg h13, if_neg h14, if_neg h15, if_neg h16, if_neg h17, if_neg h18, if_neg h19, if_neg h20, if_neg h21, if_neg h22, if_neg h23, if_neg h24, if_neg h25, if_neg h26, if_neg h27, if_neg h28, if_neg h29, if_pos h30]
    try rfl
  have h30 : ¬ op = kIte := by simpa using h
  clear h
  refine sat_branch tabOk Tryz.func94 rfl trivial (fun h => ?_) (fun h => ?_) <;> rw [show ((⟨#[115, 108, 105, 99, 101]⟩ : ByteArray)) = ⟨kSlice.toArray⟩ from rfl, strB] at h
  · have h31 : op = kSlice := by simpa using h
    refine sat_ret tabOk Tryz.func94 rfl trivial ?_
    rw [if_neg h0, if_neg h1, if_neg h2, if_neg h3, if_neg h4, if_neg h5, if_neg h6, if_neg h7, if_neg h8, if_neg h9, if_neg h10, if_neg h11, if_neg h12, if_neg h13, if_neg h14, if_neg h15, if_neg h16, if_neg h17, if_neg h18, if_neg h19, if_neg h20, if_neg h21, if_neg h22, if_neg h23, if_neg h24, if_neg h25, if_neg h26, if_neg h27, if_neg h28, if_neg h29, if_neg h30, if_pos h31]
    try rfl
  have h31 : ¬ op = kSlice := by simpa using h
  clear h
  refine sat_branch tabOk Tryz.func94 rfl trivial (fun h => ?_) (fun h => ?_) <;> rw [show ((⟨#[117, 101, 120, 116]⟩ : ByteArray)) = ⟨kUext.toArray⟩ from rfl, strB] at h
  · have h32 : op = kUext := by simpa using h
    refine sat_ret tabOk Tryz.func94 rfl trivial ?_
    rw [if_neg h0, if_neg h1, if_neg h2, if_neg h3, if_neg h4, if_neg h5, if_neg h6, if_neg h7, if_neg h8, if_neg h9, if_neg h10, if_neg h11, if_neg h12, if_neg h13, if_neg h14, if_neg h15, if_neg h16, if_neg h17, if_neg h18, if_neg h19, if_neg h20, if_neg h21, if_neg h22, if_neg h23, if_neg h24, if_neg h25, if_neg h26, if_neg h27, if_neg h28, if_neg h29, if_neg h30, if_neg h31, if_pos h32]
    try rfl
  have h32 : ¬ op = kUext := by simpa using h
  clear h
  refine sat_branch tabOk Tryz.func94 rfl trivial (fun h => ?_) (fun h => ?_) <;> rw [show ((⟨#[115, 101, 120, 116]⟩ : ByteArray)) = ⟨kSext.toArray⟩ from rfl, strB] at h
  · have h33 : op = kSext := by simpa using h
    refine sat_ret tabOk Tryz.func94 rfl trivial ?_
    rw [if_neg h0, if_neg h1, if_neg h2, if_neg h3, if_neg h4, if_neg h5, if_neg h6, if_neg h7, if_neg h8, if_neg h9, if_neg h10, if_neg h11, if_neg h12, if_neg h13, if_neg h14, if_neg h15, if_neg h16, if_neg h17, if_neg h18, if_neg h19, if_neg h20, if_neg h21, if_neg h22, if_neg h23, if_neg h24, if_neg h25, if_neg h26, if_neg h27, if_neg h28, if_neg h29, if_neg h30, if_neg h31, if_neg h32, if_pos h33]
    try rfl
  have h33 : ¬ op = kSext := by simpa using h
  clear h
  refine sat_ret tabOk Tryz.func94 rfl trivial ?_
  rw [if_neg h0, if_neg h1, if_neg h2, if_neg h3, if_neg h4, if_neg h5, if_neg h6, if_neg h7, if_neg h8, if_neg h9, if_neg h10, if_neg h11, if_neg h12, if_neg h13, if_neg h14, if_neg h15, if_neg h16, if_neg h17, if_neg h18, if_neg h19, if_neg h20, if_neg h21, if_neg h22, if_neg h23, if_neg h24, if_neg h25, if_neg h26, if_neg h27, if_neg h28, if_neg h29, if_neg h30, if_neg h31, if_neg h32, if_neg h33]
  try rfl
end Go.Proofs.YtcenfhcemmlaeaaGreatDoor
namespace Go.Proofs.YtcenfhcemmlaeaaGreatDoor
open Go Ab
set_option maxRecDepth 100000
set_option linter.unusedVariables false
set_option linter.unusedSimpArgs false

theorem take_one {α : Type} [Inhabited α] {l : List α} {i : Nat} (d : α) (h : i < l.length) : l.take (i + 1) = l.take i ++ [l.getD i d] := by
  rw [List.take_succ_eq_append_getElem h]
  simp [h]
theorem getD_mem {α : Type} {l : List α} {i : Nat} (d : α) (h : i < l.length) : l.getD i d ∈ l := by
  simp [List.getD_eq_getElem?_getD, h]

theorem cnt1 (x c : UInt8) : [x].count c = if x = c then 1 else 0 := by by_cases e : x = c <;> simp [e]
theorem has_call (form : List UInt8) (c : UInt8) (hl : form.length ≤ 1000000) : ACall Tryz.prog 96 [vSL form, vI .u8 (c.toNat : Int)] [] (fun r o => r = vI .i64 ((form.count c : Nat) : Int)) := by
  refine acall_enter Tryz.func96 rfl rfl (Nat.le_of_ble_eq_true rfl) fun C hC hCl hDs => ?_
  refine sat_stop tabOk Tryz.func96 rfl trivial ?_
  refine sat_while (α := Nat) (fun i => [(0, vSL form), (1, vI .u8 (c.toNat : Int)), (5, vI .i64 (((form.take i).count c : Nat) : Int)), (6, vI .i64 i)]) (fun i => []) (fun i => i ≤ form.length) (fun i => form.length - i) 0 (Nat.zero_le _) ?_ ?_
  · exact fun h => sat_le h hC hCl ⟨⟨_, rfl, .refl _⟩, ⟨_, rfl, .refl _⟩, ⟨_, rfl, .refl _⟩, ⟨_, rfl, .refl _⟩, trivial⟩ trivial rfl rfl (Nat.zero_le _)
  rintro i hi ih
  have hsz : (⟨form.toArray⟩ : ByteArray).size = form.length := size_list form
  refine sat_branch tabOk Tryz.func96 rfl trivial (fun hb => ?_) (fun hb => ?_) <;> simp only [hsz, decide_eq_true_eq, decide_eq_false_iff_not] at hb
  · have hlt : i < form.length := by omega
    have hc : (form.take i).count c ≤ form.length := Nat.le_trans List.count_le_length (by rw [List.length_take]; omega)
    have hs : (form.take (i + 1)).count c = (form.take i).count c + (if form.getD i 0 = c then 1 else 0) := by
      rw [take_one 0 hlt, List.count_append, cnt1]
    refine sat_branch tabOk Tryz.func96 rfl ?_ (fun hb2 => ?_) (fun hb2 => ?_)
    · simp only [hsz, Int.toNat_natCast]
      exact ⟨⟨by omega, by omega⟩, trivial⟩
    · have hb2 : (bt ⟨form.toArray⟩ ((i : Int)).toNat == (c.toNat : Int)) = true := hb2
      rw [Int.toNat_natCast, bt_list] at hb2
      have e : form.getD i 0 = c := by
        have : ((form.getD i 0).toNat : Int) = c.toNat := by simpa using hb2
        exact UInt8.toNat_inj.1 (by omega)
      rw [if_pos e] at hs
      refine sat_stop tabOk Tryz.func96 rfl trivial ?_
      refine sat_le (ih (i + 1) (by omega) (by omega)) hC hCl ⟨⟨_, rfl, .refl _⟩, ⟨_, rfl, .refl _⟩, ⟨_, rfl, .of ?_⟩, ⟨_, rfl, .of (by rw [wrap_id (by omega) (by omega)]; rfl)⟩, trivial⟩ trivial rfl rfl (Nat.zero_le _)
      show vI .i64 (IntKind.i64.wrap (((form.take i).count c : Nat) + 1)) = _
      rw [wrap_id (by omega) (by omega), hs]
      rfl
    · have hb2 : (bt ⟨form.toArray⟩ ((i : Int)).toNat == (c.toNat : Int)) = false := hb2
      rw [Int.toNat_natCast, bt_list] at hb2
      have e : ¬ form.getD i 0 = c := by
        rintro rfl
        simp at hb2
      rw [if_neg e] at hs
      refine sat_stop tabOk Tryz.func96 rfl trivial ?_
      refine sat_le (ih (i + 1) (by omega) (by omega)) hC hCl ⟨⟨_, rfl, .refl _⟩, ⟨_, rfl, .refl _⟩, ⟨_, rfl, .of ?_⟩, ⟨_, rfl, .of (by rw [wrap_id (by omega) (by omega)]; rfl)⟩, trivial⟩ trivial rfl rfl (Nat.zero_le _)
      rw [hs]
      rfl
  · obtain rfl : i = form.length := by omega
    refine sat_ret tabOk Tryz.func96 rfl trivial ?_
    rw [List.take_length]
    rfl

theorem within_call (l : List Int) (many least most : Int) (hl : l.length ≤ maxLen) : ACall Tryz.prog 97 [.d (eIs l), vI .i64 many, vI .i64 least, vI .i64 most] [] (fun r o => ∃ b, r = vB b ∧ (b = true → (l.length : Int) = many ∧ ∀ x ∈ l, least ≤ x ∧ x ≤ most)) := by
  refine acall_enter Tryz.func97 rfl rfl (Nat.le_of_ble_eq_true rfl) fun C hC hCl hDs => ?_
  have hl : l.length ≤ 9223372036854775807 := hl
  refine sat_stop tabOk Tryz.func97 rfl trivial ?_
  refine sat_while (α := Nat) (fun i => [(0, .d (eIs l)), (1, vI .i64 many), (2, vI .i64 least), (3, vI .i64 most), (9, vI .i64 i)]) (fun i => []) (fun i => i ≤ l.length ∧ ∀ j, j < i → least ≤ l.getD j 0 ∧ l.getD j 0 ≤ most) (fun i => l.length - i) 0 ⟨Nat.zero_le _, fun j hj => by omega⟩ ?_ ?_
  · exact fun h => sat_le h hC hCl ⟨⟨_, rfl, .refl _⟩, ⟨_, rfl, .refl _⟩, ⟨_, rfl, .refl _⟩, ⟨_, rfl, .refl _⟩, ⟨_, rfl, .refl _⟩, trivial⟩ trivial rfl rfl (Nat.zero_le _)
  rintro i ⟨hi, hall⟩ ih
  refine sat_branch tabOk Tryz.func97 rfl trivial (fun hb => ?_) (fun hb => ?_) <;> simp only [List.length_map, decide_eq_true_eq, decide_eq_false_iff_not] at hb
  · have hlt : i < l.length := by omega
    refine sat_branch tabOk Tryz.func97 rfl (by simp only [andP, and_true, true_and, Int.toNat_natCast, List.length_map, List.length_append, List.length_cons, List.length_nil, List.length_replicate]; omega) (fun h1 => ?_) (fun h1 => ?_)
    · refine sat_branch tabOk Tryz.func97 rfl trivial (fun _ => ?_) (fun h => by cases h)
      exact sat_ret tabOk Tryz.func97 rfl trivial ⟨false, rfl, by simp⟩
    refine sat_branch tabOk Tryz.func97 rfl (by simp only [andP, and_true, true_and, Int.toNat_natCast, List.length_map, List.length_append, List.length_cons, List.length_nil, List.length_replicate]; omega) (fun h2 => ?_) (fun h2 => ?_)
    · exact sat_ret tabOk Tryz.func97 rfl trivial ⟨false, rfl, by simp⟩
    have h1 : decide (l.getD i 0 < least) = false := h1
    have h2 : decide (l.getD i 0 > most) = false := h2
    rw [decide_eq_false_iff_not] at h1 h2
    refine sat_stop tabOk Tryz.func97 rfl trivial ?_
    refine sat_le (ih (i + 1) ⟨by omega, fun j hj => ?_⟩ (by omega)) hC hCl ⟨⟨_, rfl, .refl _⟩, ⟨_, rfl, .refl _⟩, ⟨_, rfl, .refl _⟩, ⟨_, rfl, .refl _⟩, ⟨_, rfl, .of (by rw [wrap_id (by omega) (by omega)]; rfl)⟩, trivial⟩ trivial rfl rfl (Nat.zero_le _)
    rcases Nat.lt_or_ge j i with h | h
    · exact hall j h
    · obtain rfl : j = i := by omega
      omega
  · obtain rfl : i = l.length := by omega
    refine sat_ret tabOk Tryz.func97 rfl trivial ⟨((l.map eI).length : Int) == many, rfl, fun h => ?_⟩
    rw [List.length_map] at h
    refine ⟨by simpa using h, fun x hx => ?_⟩
    obtain ⟨j, hj, rfl⟩ := List.getElem_of_mem hx
    have := hall j hj
    simpa [hj] using this

theorem bits13_call (l : List UInt8) (hl : l.length ≤ maxLen) : ACall Tryz.prog 103 [vSL l] [] (fun r o => ∃ b, r = vB b ∧ (b = true → mkok l = true)) := by
  refine acall_enter Tryz.func103 rfl rfl (Nat.le_of_ble_eq_true rfl) fun C hC hCl hDs => ?_
  have hl : l.length ≤ 9223372036854775807 := hl
  have hsz : (⟨l.toArray⟩ : ByteArray).size = l.length := size_list l
  refine sat_stop tabOk Tryz.func103 rfl trivial ?_
  refine sat_while (α := Nat) (fun i => [(0, vSL l), (3, vI .i64 i)]) (fun i => []) (fun i => i ≤ l.length ∧ ∀ j, j < i → is01 (l.getD j 0) = true) (fun i => l.length - i) 0 ⟨Nat.zero_le _, fun j hj => by omega⟩ ?_ ?_
  · exact fun h => sat_le h hC hCl ⟨⟨_, rfl, .refl _⟩, ⟨_, rfl, .refl _⟩, trivial⟩ trivial rfl rfl (Nat.zero_le _)
  rintro i ⟨hi, hall⟩ ih
  refine sat_branch tabOk Tryz.func103 rfl trivial (fun hb => ?_) (fun hb => ?_) <;> simp only [hsz, decide_eq_true_eq, decide_eq_false_iff_not] at hb
  · have hlt : i < l.length := by omega
    have hnd : ((0 : Int) ≤ (i : Int) ∧ (i : Int) < ((⟨l.toArray⟩ : ByteArray).size : Int)) := by rw [hsz]; omega
    refine sat_branch tabOk Tryz.func103 rfl ⟨hnd, trivial⟩ (fun h1 => ?_) (fun h1 => ?_)
    · refine sat_branch tabOk Tryz.func103 rfl ⟨hnd, trivial⟩ (fun h2 => ?_) (fun h2 => ?_)
      · exact sat_ret tabOk Tryz.func103 rfl trivial ⟨false, rfl, by simp⟩
      have h2 : (bt ⟨l.toArray⟩ ((i : Int)).toNat != 49) = false := h2
      rw [Int.toNat_natCast, bt_list] at h2
      refine sat_stop tabOk Tryz.func103 rfl trivial ?_
      refine sat_le (ih (i + 1) ⟨by omega, fun j hj => ?_⟩ (by omega)) hC hCl ⟨⟨_, rfl, .refl _⟩, ⟨_, rfl, .of (by rw [wrap_id (by omega) (by omega)]; rfl)⟩, trivial⟩ trivial rfl rfl (Nat.zero_le _)
      rcases Nat.lt_or_ge j i with h | h
      · exact hall j h
      · obtain rfl : j = i := by omega
        rw [bne_eq_false_iff_eq] at h2
        have : (l.getD j 0).toNat = 49 := by omega
        have : l.getD j 0 = 49 := UInt8.toNat_inj.1 this
        rw [this]; rfl
    · have h1 : (bt ⟨l.toArray⟩ ((i : Int)).toNat != 48) = false := h1
      rw [Int.toNat_natCast, bt_list] at h1
      refine sat_branch tabOk Tryz.func103 rfl trivial (fun h => by cases h) (fun _ => ?_)
      refine sat_stop tabOk Tryz.func103 rfl trivial ?_
      refine sat_le (ih (i + 1) ⟨by omega, fun j hj => ?_⟩ (by omega)) hC hCl ⟨⟨_, rfl, .refl _⟩, ⟨_, rfl, .of (by rw [wrap_id (by omega) (by omega)]; rfl)⟩, trivial⟩ trivial rfl rfl (Nat.zero_le _)
      rcases Nat.lt_or_ge j i with h | h
      · exact hall j h
      · obtain rfl : j = i := by omega
        rw [bne_eq_false_iff_eq] at h1
        have : (l.getD j 0).toNat = 48 := by omega
        have : l.getD j 0 = 48 := UInt8.toNat_inj.1 this
        rw [this]; rfl
  · obtain rfl : i = l.length := by omega
    have hall2 : ∀ c ∈ l, is01 c = true := fun c hc => by
      obtain ⟨j, hj, rfl⟩ := List.getElem_of_mem hc
      have := hall j hj
      simpa [hj] using this
    refine sat_branch tabOk Tryz.func103 rfl trivial (fun h1 => ?_) (fun h1 => ?_)
    · have h1 : decide (((⟨l.toArray⟩ : ByteArray).size : Int) ≥ 1) = true := h1
      refine sat_ret tabOk Tryz.func103 rfl trivial ⟨decide (((⟨l.toArray⟩ : ByteArray).size : Int) ≤ 128), rfl, fun h => ?_⟩
      rw [hsz] at h h1
      simp only [decide_eq_true_eq] at h h1
      simp only [mkok, Bool.and_eq_true, decide_eq_true_eq, List.all_eq_true]
      exact ⟨⟨by omega, by omega⟩, hall2⟩
    · exact sat_ret tabOk Tryz.func103 rfl trivial ⟨false, rfl, by simp⟩
end Go.Proofs.YtcenfhcemmlaeaaGreatDoor
namespace Go.Proofs.YtcenfhcemmlaeaaGreatDoor
open Go Ab
set_option maxRecDepth 100000
set_option linter.unusedVariables false
set_option linter.unusedSimpArgs false
set_option maxHeartbeats 1000000

/-! ### Names (only that it ends, in a place) -/
theorem Long_call (l : List UInt8) (at_ : Nat) (hl : l.length ≤ maxLen) (hat : at_ < l.length) : ACall Tryz.prog 108 [vSL l, vI .i64 (at_ : Int)] [] (fun r o => ∃ n : Nat, r = vI .i64 (n : Int) ∧ n ≤ 4 ∧ at_ + n ≤ l.length) := by
  refine acall_enter Tryz.func108 rfl rfl (Nat.le_of_ble_eq_true rfl) fun C hC hCl hDs => ?_
  have hl : l.length ≤ 9223372036854775807 := hl
  have hsz : (⟨l.toArray⟩ : ByteArray).size = l.length := size_list l
  have hv0 := UInt8.toNat_lt (l.getD at_ 0)
  have ew : IntKind.i64.wrap (((l.getD at_ 0).toNat : Nat) : Int) = (((l.getD at_ 0).toNat : Nat) : Int) := wrap_id (by omega) (by omega)
  refine sat_branch tabOk Tryz.func108 rfl ⟨⟨by omega, by rw [hsz]; omega⟩, trivial⟩ (fun h1 => ?_) (fun h1 => ?_)
  · have h1 : decide (IntKind.i64.wrap (bt ⟨l.toArray⟩ ((at_ : Int)).toNat) >= 240) = true := h1
    rw [Int.toNat_natCast, bt_list, ew, decide_eq_true_eq] at h1
    refine sat_branch tabOk Tryz.func108 rfl trivial (fun h2 => ?_) (fun h2 => ?_)
    · have h2 : decide (IntKind.i64.wrap (bt ⟨l.toArray⟩ ((at_ : Int)).toNat) < 248) = true := h2
      rw [Int.toNat_natCast, bt_list, ew, decide_eq_true_eq] at h2
      refine sat_stop tabOk Tryz.func108 rfl trivial ?_
      obtain ⟨c, hc, hcb⟩ : ∃ c : Nat, (l.getD at_ 0).toNat - 240 = c ∧ c < 300 := ⟨_, rfl, by omega⟩
      refine sat_while (α := Nat × Nat) (fun p => [(0, vSL l), (1, vI .i64 (at_ : Int)), (5, vI .i64 4), (6, vI .i64 (p.2 : Int)), (7, vI .i64 65536), (8, vI .i64 (p.1 : Int))]) (fun p => []) (fun p => 1 ≤ p.1 ∧ p.1 ≤ 4 ∧ at_ + p.1 ≤ l.length ∧ p.2 < 300 * 64 ^ (p.1 - 1)) (fun p => 4 - p.1) (1, c) ⟨Nat.le_refl _, Nat.le_of_ble_eq_true rfl, hat, by simpa using hcb⟩ ?_ ?_
      · refine fun h => sat_le h hC hCl ⟨⟨_, rfl, .refl _⟩, ⟨_, rfl, .refl _⟩, ⟨_, rfl, .refl _⟩, ⟨_, rfl, .of ?_⟩, ⟨_, rfl, .refl _⟩, ⟨_, rfl, .refl _⟩, trivial⟩ trivial rfl rfl (Nat.zero_le _)
        show vI .i64 (IntKind.i64.wrap (IntKind.i64.wrap (bt ⟨l.toArray⟩ ((at_ : Int)).toNat) - 240)) = _
        rw [Int.toNat_natCast, bt_list, ew, wrap_id (by omega) (by omega)]
        show vI .i64 _ = vI .i64 _
        rw [show (((l.getD at_ 0).toNat : Nat) : Int) - 240 = (c : Int) by omega]
      rintro ⟨i, c⟩ ⟨hi1, hi2, hil, hcb⟩ ih
      simp only at hi1 hi2 hil hcb
      have hpw : 64 ^ (i - 1) ≤ 64 ^ 3 := Nat.pow_le_pow_right (by decide) (by omega)
      have ewi : IntKind.i64.wrap (((⟨l.toArray⟩ : ByteArray).size : Int) - at_) = ((l.length - at_ : Nat) : Int) := by rw [hsz, wrap_id (by omega) (by omega)]; omega
      have eai : IntKind.i64.wrap ((at_ : Int) + i) = ((at_ + i : Nat) : Int) := by rw [wrap_id (by omega) (by omega)]; omega
      refine sat_branch tabOk Tryz.func108 rfl trivial (fun hb => ?_) (fun hb => ?_) <;> simp only [decide_eq_true_eq, decide_eq_false_iff_not] at hb
      · refine sat_branch tabOk Tryz.func108 rfl trivial (fun g1 => ?_) (fun g1 => ?_)
        · refine sat_branch tabOk Tryz.func108 rfl trivial (fun _ => ?_) (fun h => by cases h)
          refine sat_branch tabOk Tryz.func108 rfl trivial (fun _ => ?_) (fun h => by cases h)
          exact sat_ret tabOk Tryz.func108 rfl trivial ⟨0, rfl, by omega, by omega⟩
        have g1 : decide ((i : Int) ≥ IntKind.i64.wrap (((⟨l.toArray⟩ : ByteArray).size : Int) - at_)) = false := g1
        rw [ewi, decide_eq_false_iff_not] at g1
        have hlt : at_ + i < l.length := by omega
        have hnd : ((0 : Int) ≤ IntKind.i64.wrap ((at_ : Int) + i) ∧ IntKind.i64.wrap ((at_ : Int) + i) < ((⟨l.toArray⟩ : ByteArray).size : Int)) := by rw [eai, hsz]; omega
        have hv := UInt8.toNat_lt (l.getD (at_ + i) 0)
        refine sat_branch tabOk Tryz.func108 rfl ⟨hnd, trivial⟩ (fun g2 => ?_) (fun g2 => ?_)
        · refine sat_branch tabOk Tryz.func108 rfl trivial (fun _ => ?_) (fun h => by cases h)
          exact sat_ret tabOk Tryz.func108 rfl trivial ⟨0, rfl, by omega, by omega⟩
        have g2 : decide (bt ⟨l.toArray⟩ (IntKind.i64.wrap ((at_ : Int) + i)).toNat < 128) = false := g2
        rw [eai, Int.toNat_natCast, bt_list, decide_eq_false_iff_not] at g2
        refine sat_branch tabOk Tryz.func108 rfl ⟨hnd, trivial⟩ (fun g3 => ?_) (fun g3 => ?_)
        · exact sat_ret tabOk Tryz.func108 rfl trivial ⟨0, rfl, by omega, by omega⟩
        have g3 : decide (bt ⟨l.toArray⟩ (IntKind.i64.wrap ((at_ : Int) + i)).toNat > 191) = false := g3
        rw [eai, Int.toNat_natCast, bt_list, decide_eq_false_iff_not] at g3
        refine sat_stop tabOk Tryz.func108 rfl ⟨hnd, trivial⟩ ?_
        have hc4 : c < 300 * 64 ^ 3 := Nat.lt_of_lt_of_le hcb (Nat.mul_le_mul_left _ hpw)
        have hstep : c * 64 + (l.getD (at_ + i) 0).toNat - 128 < 300 * 64 ^ (i + 1 - 1) := by
          rw [show i + 1 - 1 = (i - 1) + 1 by omega, Nat.pow_succ]
          generalize 64 ^ (i - 1) = q at *
          omega
        refine sat_le (ih (i + 1, c * 64 + (l.getD (at_ + i) 0).toNat - 128) ⟨by simp only; omega, by simp only; omega, by simp only; omega, hstep⟩ (by simp only; omega)) hC hCl ⟨⟨_, rfl, .refl _⟩, ⟨_, rfl, .refl _⟩, ⟨_, rfl, .refl _⟩, ⟨_, rfl, .of ?_⟩, ⟨_, rfl, .refl _⟩, ⟨_, rfl, .of (by rw [wrap_id (by omega) (by omega)]; rfl)⟩, trivial⟩ trivial rfl rfl (Nat.zero_le _)
        show vI .i64 (IntKind.i64.wrap (IntKind.i64.wrap (IntKind.i64.wrap ((c : Int) * 64) + IntKind.i64.wrap (bt ⟨l.toArray⟩ (IntKind.i64.wrap ((at_ : Int) + i)).toNat)) - 128)) = _
        have e1 : IntKind.i64.wrap ((c : Int) * 64) = (c : Int) * 64 := wrap_id (by omega) (by omega)
        have e2 : IntKind.i64.wrap (((l.getD (at_ + i) 0).toNat : Nat) : Int) = (((l.getD (at_ + i) 0).toNat : Nat) : Int) := wrap_id (by omega) (by omega)
        have e3 : IntKind.i64.wrap ((c : Int) * 64 + (((l.getD (at_ + i) 0).toNat : Nat) : Int)) = (c : Int) * 64 + (((l.getD (at_ + i) 0).toNat : Nat) : Int) := wrap_id (by omega) (by omega)
        rw [eai, Int.toNat_natCast, bt_list, e2, e1, e3, wrap_id (by omega) (by omega)]
        show vI .i64 _ = vI .i64 _
        congr 4
        omega
      · obtain rfl : i = 4 := by omega
        refine sat_branch tabOk Tryz.func108 rfl trivial (fun g1 => ?_) (fun g1 => ?_)
        · refine sat_branch tabOk Tryz.func108 rfl trivial (fun _ => ?_) (fun h => by cases h)
          refine sat_branch tabOk Tryz.func108 rfl trivial (fun _ => ?_) (fun h => by cases h)
          exact sat_ret tabOk Tryz.func108 rfl trivial ⟨0, rfl, by omega, by omega⟩
        refine sat_branch tabOk Tryz.func108 rfl trivial (fun g2 => ?_) (fun g2 => ?_)
        · refine sat_branch tabOk Tryz.func108 rfl trivial (fun _ => ?_) (fun h => by cases h)
          exact sat_ret tabOk Tryz.func108 rfl trivial ⟨0, rfl, by omega, by omega⟩
        refine sat_branch tabOk Tryz.func108 rfl trivial (fun g3 => ?_) (fun g3 => ?_)
        · refine sat_branch tabOk Tryz.func108 rfl trivial (fun g4 => ?_) (fun g4 => ?_)
          · exact sat_ret tabOk Tryz.func108 rfl trivial ⟨0, rfl, by omega, by omega⟩
          · exact sat_ret tabOk Tryz.func108 rfl trivial ⟨4, rfl, by omega, by omega⟩
        · refine sat_branch tabOk Tryz.func108 rfl trivial (fun h => by cases h) (fun _ => ?_)
          exact sat_ret tabOk Tryz.func108 rfl trivial ⟨4, rfl, by omega, by omega⟩
    · have h2 : decide (IntKind.i64.wrap (bt ⟨l.toArray⟩ ((at_ : Int)).toNat) < 248) = false := h2
      rw [Int.toNat_natCast, bt_list, ew, decide_eq_false_iff_not] at h2
      refine sat_branch tabOk Tryz.func108 rfl trivial (fun h3 => ?_) (fun h3 => ?_)
      · have h3 : decide (IntKind.i64.wrap (bt ⟨l.toArray⟩ ((at_ : Int)).toNat) >= 224) = true := h3
        rw [Int.toNat_natCast, bt_list, ew, decide_eq_true_eq] at h3
        refine sat_branch tabOk Tryz.func108 rfl trivial (fun h4 => ?_) (fun h4 => ?_)
        · have h4 : decide (IntKind.i64.wrap (bt ⟨l.toArray⟩ ((at_ : Int)).toNat) < 240) = true := h4
          rw [Int.toNat_natCast, bt_list, ew, decide_eq_true_eq] at h4
          omega
        · have h4 : decide (IntKind.i64.wrap (bt ⟨l.toArray⟩ ((at_ : Int)).toNat) < 240) = false := h4
          rw [Int.toNat_natCast, bt_list, ew, decide_eq_false_iff_not] at h4
          refine sat_branch tabOk Tryz.func108 rfl trivial (fun h5 => ?_) (fun h5 => ?_)
          · have h5 : decide (IntKind.i64.wrap (bt ⟨l.toArray⟩ ((at_ : Int)).toNat) >= 192) = true := h5
            rw [Int.toNat_natCast, bt_list, ew, decide_eq_true_eq] at h5
            refine sat_branch tabOk Tryz.func108 rfl trivial (fun h6 => ?_) (fun h6 => ?_)
            · have h6 : decide (IntKind.i64.wrap (bt ⟨l.toArray⟩ ((at_ : Int)).toNat) < 224) = true := h6
              rw [Int.toNat_natCast, bt_list, ew, decide_eq_true_eq] at h6
              omega
            · have h6 : decide (IntKind.i64.wrap (bt ⟨l.toArray⟩ ((at_ : Int)).toNat) < 224) = false := h6
              rw [Int.toNat_natCast, bt_list, ew, decide_eq_false_iff_not] at h6
              refine sat_branch tabOk Tryz.func108 rfl trivial (fun h7 => ?_) (fun h7 => ?_)
              · exact sat_ret tabOk Tryz.func108 rfl trivial ⟨0, rfl, by omega, by omega⟩
              · have h7 : decide (IntKind.i64.wrap (bt ⟨l.toArray⟩ ((at_ : Int)).toNat) >= 128) = false := h7
                rw [Int.toNat_natCast, bt_list, ew, decide_eq_false_iff_not] at h7
                omega
          · have h5 : decide (IntKind.i64.wrap (bt ⟨l.toArray⟩ ((at_ : Int)).toNat) >= 192) = false := h5
            rw [Int.toNat_natCast, bt_list, ew, decide_eq_false_iff_not] at h5
            omega
      · have h3 : decide (IntKind.i64.wrap (bt ⟨l.toArray⟩ ((at_ : Int)).toNat) >= 224) = false := h3
        rw [Int.toNat_natCast, bt_list, ew, decide_eq_false_iff_not] at h3
        omega
  · have h1 : decide (IntKind.i64.wrap (bt ⟨l.toArray⟩ ((at_ : Int)).toNat) >= 240) = false := h1
    rw [Int.toNat_natCast, bt_list, ew, decide_eq_false_iff_not] at h1
    refine sat_branch tabOk Tryz.func108 rfl trivial (fun h => by cases h) (fun _ => ?_)
    refine sat_branch tabOk Tryz.func108 rfl trivial (fun h3 => ?_) (fun h3 => ?_)
    · have h3 : decide (IntKind.i64.wrap (bt ⟨l.toArray⟩ ((at_ : Int)).toNat) >= 224) = true := h3
      rw [Int.toNat_natCast, bt_list, ew, decide_eq_true_eq] at h3
      refine sat_branch tabOk Tryz.func108 rfl trivial (fun h4 => ?_) (fun h4 => ?_)
      · have h4 : decide (IntKind.i64.wrap (bt ⟨l.toArray⟩ ((at_ : Int)).toNat) < 240) = true := h4
        rw [Int.toNat_natCast, bt_list, ew, decide_eq_true_eq] at h4
        refine sat_stop tabOk Tryz.func108 rfl trivial ?_
        obtain ⟨c, hc, hcb⟩ : ∃ c : Nat, (l.getD at_ 0).toNat - 224 = c ∧ c < 300 := ⟨_, rfl, by omega⟩
        refine sat_while (α := Nat × Nat) (fun p => [(0, vSL l), (1, vI .i64 (at_ : Int)), (5, vI .i64 3), (6, vI .i64 (p.2 : Int)), (7, vI .i64 2048), (8, vI .i64 (p.1 : Int))]) (fun p => []) (fun p => 1 ≤ p.1 ∧ p.1 ≤ 3 ∧ at_ + p.1 ≤ l.length ∧ p.2 < 300 * 64 ^ (p.1 - 1)) (fun p => 3 - p.1) (1, c) ⟨Nat.le_refl _, Nat.le_of_ble_eq_true rfl, hat, by simpa using hcb⟩ ?_ ?_
        · refine fun h => sat_le h hC hCl ⟨⟨_, rfl, .refl _⟩, ⟨_, rfl, .refl _⟩, ⟨_, rfl, .refl _⟩, ⟨_, rfl, .of ?_⟩, ⟨_, rfl, .refl _⟩, ⟨_, rfl, .refl _⟩, trivial⟩ trivial rfl rfl (Nat.zero_le _)
          show vI .i64 (IntKind.i64.wrap (IntKind.i64.wrap (bt ⟨l.toArray⟩ ((at_ : Int)).toNat) - 224)) = _
          rw [Int.toNat_natCast, bt_list, ew, wrap_id (by omega) (by omega)]
          show vI .i64 _ = vI .i64 _
          rw [show (((l.getD at_ 0).toNat : Nat) : Int) - 224 = (c : Int) by omega]
        rintro ⟨i, c⟩ ⟨hi1, hi2, hil, hcb⟩ ih
        simp only at hi1 hi2 hil hcb
        have hpw : 64 ^ (i - 1) ≤ 64 ^ 3 := Nat.pow_le_pow_right (by decide) (by omega)
        have ewi : IntKind.i64.wrap (((⟨l.toArray⟩ : ByteArray).size : Int) - at_) = ((l.length - at_ : Nat) : Int) := by rw [hsz, wrap_id (by omega) (by omega)]; omega
        have eai : IntKind.i64.wrap ((at_ : Int) + i) = ((at_ + i : Nat) : Int) := by rw [wrap_id (by omega) (by omega)]; omega
        refine sat_branch tabOk Tryz.func108 rfl trivial (fun hb => ?_) (fun hb => ?_) <;> simp only [decide_eq_true_eq, decide_eq_false_iff_not] at hb
        · refine sat_branch tabOk Tryz.func108 rfl trivial (fun g1 => ?_) (fun g1 => ?_)
          · refine sat_branch tabOk Tryz.func108 rfl trivial (fun _ => ?_) (fun h => by cases h)
            refine sat_branch tabOk Tryz.func108 rfl trivial (fun _ => ?_) (fun h => by cases h)
            exact sat_ret tabOk Tryz.func108 rfl trivial ⟨0, rfl, by omega, by omega⟩
          have g1 : decide ((i : Int) ≥ IntKind.i64.wrap (((⟨l.toArray⟩ : ByteArray).size : Int) - at_)) = false := g1
          rw [ewi, decide_eq_false_iff_not] at g1
          have hlt : at_ + i < l.length := by omega
          have hnd : ((0 : Int) ≤ IntKind.i64.wrap ((at_ : Int) + i) ∧ IntKind.i64.wrap ((at_ : Int) + i) < ((⟨l.toArray⟩ : ByteArray).size : Int)) := by rw [eai, hsz]; omega
          have hv := UInt8.toNat_lt (l.getD (at_ + i) 0)
          refine sat_branch tabOk Tryz.func108 rfl ⟨hnd, trivial⟩ (fun g2 => ?_) (fun g2 => ?_)
          · refine sat_branch tabOk Tryz.func108 rfl trivial (fun _ => ?_) (fun h => by cases h)
            exact sat_ret tabOk Tryz.func108 rfl trivial ⟨0, rfl, by omega, by omega⟩
          have g2 : decide (bt ⟨l.toArray⟩ (IntKind.i64.wrap ((at_ : Int) + i)).toNat < 128) = false := g2
          rw [eai, Int.toNat_natCast, bt_list, decide_eq_false_iff_not] at g2
          refine sat_branch tabOk Tryz.func108 rfl ⟨hnd, trivial⟩ (fun g3 => ?_) (fun g3 => ?_)
          · exact sat_ret tabOk Tryz.func108 rfl trivial ⟨0, rfl, by omega, by omega⟩
          have g3 : decide (bt ⟨l.toArray⟩ (IntKind.i64.wrap ((at_ : Int) + i)).toNat > 191) = false := g3
          rw [eai, Int.toNat_natCast, bt_list, decide_eq_false_iff_not] at g3
          refine sat_stop tabOk Tryz.func108 rfl ⟨hnd, trivial⟩ ?_
          have hc4 : c < 300 * 64 ^ 3 := Nat.lt_of_lt_of_le hcb (Nat.mul_le_mul_left _ hpw)
          have hstep : c * 64 + (l.getD (at_ + i) 0).toNat - 128 < 300 * 64 ^ (i + 1 - 1) := by
            rw [show i + 1 - 1 = (i - 1) + 1 by omega, Nat.pow_succ]
            generalize 64 ^ (i - 1) = q at *
            omega
          refine sat_le (ih (i + 1, c * 64 + (l.getD (at_ + i) 0).toNat - 128) ⟨by simp only; omega, by simp only; omega, by simp only; omega, hstep⟩ (by simp only; omega)) hC hCl ⟨⟨_, rfl, .refl _⟩, ⟨_, rfl, .refl _⟩, ⟨_, rfl, .refl _⟩, ⟨_, rfl, .of ?_⟩, ⟨_, rfl, .refl _⟩, ⟨_, rfl, .of (by rw [wrap_id (by omega) (by omega)]; rfl)⟩, trivial⟩ trivial rfl rfl (Nat.zero_le _)
          show vI .i64 (IntKind.i64.wrap (IntKind.i64.wrap (IntKind.i64.wrap ((c : Int) * 64) + IntKind.i64.wrap (bt ⟨l.toArray⟩ (IntKind.i64.wrap ((at_ : Int) + i)).toNat)) - 128)) = _
          have e1 : IntKind.i64.wrap ((c : Int) * 64) = (c : Int) * 64 := wrap_id (by omega) (by omega)
          have e2 : IntKind.i64.wrap (((l.getD (at_ + i) 0).toNat : Nat) : Int) = (((l.getD (at_ + i) 0).toNat : Nat) : Int) := wrap_id (by omega) (by omega)
          have e3 : IntKind.i64.wrap ((c : Int) * 64 + (((l.getD (at_ + i) 0).toNat : Nat) : Int)) = (c : Int) * 64 + (((l.getD (at_ + i) 0).toNat : Nat) : Int) := wrap_id (by omega) (by omega)
          rw [eai, Int.toNat_natCast, bt_list, e2, e1, e3, wrap_id (by omega) (by omega)]
          show vI .i64 _ = vI .i64 _
          congr 4
          omega
        · obtain rfl : i = 3 := by omega
          refine sat_branch tabOk Tryz.func108 rfl trivial (fun g1 => ?_) (fun g1 => ?_)
          · refine sat_branch tabOk Tryz.func108 rfl trivial (fun _ => ?_) (fun h => by cases h)
            refine sat_branch tabOk Tryz.func108 rfl trivial (fun _ => ?_) (fun h => by cases h)
            exact sat_ret tabOk Tryz.func108 rfl trivial ⟨0, rfl, by omega, by omega⟩
          refine sat_branch tabOk Tryz.func108 rfl trivial (fun g2 => ?_) (fun g2 => ?_)
          · refine sat_branch tabOk Tryz.func108 rfl trivial (fun _ => ?_) (fun h => by cases h)
            exact sat_ret tabOk Tryz.func108 rfl trivial ⟨0, rfl, by omega, by omega⟩
          refine sat_branch tabOk Tryz.func108 rfl trivial (fun g3 => ?_) (fun g3 => ?_)
          · refine sat_branch tabOk Tryz.func108 rfl trivial (fun g4 => ?_) (fun g4 => ?_)
            · exact sat_ret tabOk Tryz.func108 rfl trivial ⟨0, rfl, by omega, by omega⟩
            · exact sat_ret tabOk Tryz.func108 rfl trivial ⟨3, rfl, by omega, by omega⟩
          · refine sat_branch tabOk Tryz.func108 rfl trivial (fun h => by cases h) (fun _ => ?_)
            exact sat_ret tabOk Tryz.func108 rfl trivial ⟨3, rfl, by omega, by omega⟩
      · have h4 : decide (IntKind.i64.wrap (bt ⟨l.toArray⟩ ((at_ : Int)).toNat) < 240) = false := h4
        rw [Int.toNat_natCast, bt_list, ew, decide_eq_false_iff_not] at h4
        omega
    · have h3 : decide (IntKind.i64.wrap (bt ⟨l.toArray⟩ ((at_ : Int)).toNat) >= 224) = false := h3
      rw [Int.toNat_natCast, bt_list, ew, decide_eq_false_iff_not] at h3
      refine sat_branch tabOk Tryz.func108 rfl trivial (fun h => by cases h) (fun _ => ?_)
      refine sat_branch tabOk Tryz.func108 rfl trivial (fun h5 => ?_) (fun h5 => ?_)
      · have h5 : decide (IntKind.i64.wrap (bt ⟨l.toArray⟩ ((at_ : Int)).toNat) >= 192) = true := h5
        rw [Int.toNat_natCast, bt_list, ew, decide_eq_true_eq] at h5
        refine sat_branch tabOk Tryz.func108 rfl trivial (fun h6 => ?_) (fun h6 => ?_)
        · have h6 : decide (IntKind.i64.wrap (bt ⟨l.toArray⟩ ((at_ : Int)).toNat) < 224) = true := h6
          rw [Int.toNat_natCast, bt_list, ew, decide_eq_true_eq] at h6
          refine sat_stop tabOk Tryz.func108 rfl trivial ?_
          obtain ⟨c, hc, hcb⟩ : ∃ c : Nat, (l.getD at_ 0).toNat - 192 = c ∧ c < 300 := ⟨_, rfl, by omega⟩
          refine sat_while (α := Nat × Nat) (fun p => [(0, vSL l), (1, vI .i64 (at_ : Int)), (5, vI .i64 2), (6, vI .i64 (p.2 : Int)), (7, vI .i64 128), (8, vI .i64 (p.1 : Int))]) (fun p => []) (fun p => 1 ≤ p.1 ∧ p.1 ≤ 2 ∧ at_ + p.1 ≤ l.length ∧ p.2 < 300 * 64 ^ (p.1 - 1)) (fun p => 2 - p.1) (1, c) ⟨Nat.le_refl _, Nat.le_of_ble_eq_true rfl, hat, by simpa using hcb⟩ ?_ ?_
          · refine fun h => sat_le h hC hCl ⟨⟨_, rfl, .refl _⟩, ⟨_, rfl, .refl _⟩, ⟨_, rfl, .refl _⟩, ⟨_, rfl, .of ?_⟩, ⟨_, rfl, .refl _⟩, ⟨_, rfl, .refl _⟩, trivial⟩ trivial rfl rfl (Nat.zero_le _)
            show vI .i64 (IntKind.i64.wrap (IntKind.i64.wrap (bt ⟨l.toArray⟩ ((at_ : Int)).toNat) - 192)) = _
            rw [Int.toNat_natCast, bt_list, ew, wrap_id (by omega) (by omega)]
            show vI .i64 _ = vI .i64 _
            rw [show (((l.getD at_ 0).toNat : Nat) : Int) - 192 = (c : Int) by omega]
          rintro ⟨i, c⟩ ⟨hi1, hi2, hil, hcb⟩ ih
          simp only at hi1 hi2 hil hcb
          have hpw : 64 ^ (i - 1) ≤ 64 ^ 3 := Nat.pow_le_pow_right (by decide) (by omega)
          have ewi : IntKind.i64.wrap (((⟨l.toArray⟩ : ByteArray).size : Int) - at_) = ((l.length - at_ : Nat) : Int) := by rw [hsz, wrap_id (by omega) (by omega)]; omega
          have eai : IntKind.i64.wrap ((at_ : Int) + i) = ((at_ + i : Nat) : Int) := by rw [wrap_id (by omega) (by omega)]; omega
          refine sat_branch tabOk Tryz.func108 rfl trivial (fun hb => ?_) (fun hb => ?_) <;> simp only [decide_eq_true_eq, decide_eq_false_iff_not] at hb
          · refine sat_branch tabOk Tryz.func108 rfl trivial (fun g1 => ?_) (fun g1 => ?_)
            · refine sat_branch tabOk Tryz.func108 rfl trivial (fun _ => ?_) (fun h => by cases h)
              refine sat_branch tabOk Tryz.func108 rfl trivial (fun _ => ?_) (fun h => by cases h)
              exact sat_ret tabOk Tryz.func108 rfl trivial ⟨0, rfl, by omega, by omega⟩
            have g1 : decide ((i : Int) ≥ IntKind.i64.wrap (((⟨l.toArray⟩ : ByteArray).size : Int) - at_)) = false := g1
            rw [ewi, decide_eq_false_iff_not] at g1
            have hlt : at_ + i < l.length := by omega
            have hnd : ((0 : Int) ≤ IntKind.i64.wrap ((at_ : Int) + i) ∧ IntKind.i64.wrap ((at_ : Int) + i) < ((⟨l.toArray⟩ : ByteArray).size : Int)) := by rw [eai, hsz]; omega
            have hv := UInt8.toNat_lt (l.getD (at_ + i) 0)
            refine sat_branch tabOk Tryz.func108 rfl ⟨hnd, trivial⟩ (fun g2 => ?_) (fun g2 => ?_)
            · refine sat_branch tabOk Tryz.func108 rfl trivial (fun _ => ?_) (fun h => by cases h)
              exact sat_ret tabOk Tryz.func108 rfl trivial ⟨0, rfl, by omega, by omega⟩
            have g2 : decide (bt ⟨l.toArray⟩ (IntKind.i64.wrap ((at_ : Int) + i)).toNat < 128) = false := g2
            rw [eai, Int.toNat_natCast, bt_list, decide_eq_false_iff_not] at g2
            refine sat_branch tabOk Tryz.func108 rfl ⟨hnd, trivial⟩ (fun g3 => ?_) (fun g3 => ?_)
            · exact sat_ret tabOk Tryz.func108 rfl trivial ⟨0, rfl, by omega, by omega⟩
            have g3 : decide (bt ⟨l.toArray⟩ (IntKind.i64.wrap ((at_ : Int) + i)).toNat > 191) = false := g3
            rw [eai, Int.toNat_natCast, bt_list, decide_eq_false_iff_not] at g3
            refine sat_stop tabOk Tryz.func108 rfl ⟨hnd, trivial⟩ ?_
            have hc4 : c < 300 * 64 ^ 3 := Nat.lt_of_lt_of_le hcb (Nat.mul_le_mul_left _ hpw)
            have hstep : c * 64 + (l.getD (at_ + i) 0).toNat - 128 < 300 * 64 ^ (i + 1 - 1) := by
              rw [show i + 1 - 1 = (i - 1) + 1 by omega, Nat.pow_succ]
              generalize 64 ^ (i - 1) = q at *
              omega
            refine sat_le (ih (i + 1, c * 64 + (l.getD (at_ + i) 0).toNat - 128) ⟨by simp only; omega, by simp only; omega, by simp only; omega, hstep⟩ (by simp only; omega)) hC hCl ⟨⟨_, rfl, .refl _⟩, ⟨_, rfl, .refl _⟩, ⟨_, rfl, .refl _⟩, ⟨_, rfl, .of ?_⟩, ⟨_, rfl, .refl _⟩, ⟨_, rfl, .of (by rw [wrap_id (by omega) (by omega)]; rfl)⟩, trivial⟩ trivial rfl rfl (Nat.zero_le _)
            show vI .i64 (IntKind.i64.wrap (IntKind.i64.wrap (IntKind.i64.wrap ((c : Int) * 64) + IntKind.i64.wrap (bt ⟨l.toArray⟩ (IntKind.i64.wrap ((at_ : Int) + i)).toNat)) - 128)) = _
            have e1 : IntKind.i64.wrap ((c : Int) * 64) = (c : Int) * 64 := wrap_id (by omega) (by omega)
            have e2 : IntKind.i64.wrap (((l.getD (at_ + i) 0).toNat : Nat) : Int) = (((l.getD (at_ + i) 0).toNat : Nat) : Int) := wrap_id (by omega) (by omega)
            have e3 : IntKind.i64.wrap ((c : Int) * 64 + (((l.getD (at_ + i) 0).toNat : Nat) : Int)) = (c : Int) * 64 + (((l.getD (at_ + i) 0).toNat : Nat) : Int) := wrap_id (by omega) (by omega)
            rw [eai, Int.toNat_natCast, bt_list, e2, e1, e3, wrap_id (by omega) (by omega)]
            show vI .i64 _ = vI .i64 _
            congr 4
            omega
          · obtain rfl : i = 2 := by omega
            refine sat_branch tabOk Tryz.func108 rfl trivial (fun g1 => ?_) (fun g1 => ?_)
            · refine sat_branch tabOk Tryz.func108 rfl trivial (fun _ => ?_) (fun h => by cases h)
              refine sat_branch tabOk Tryz.func108 rfl trivial (fun _ => ?_) (fun h => by cases h)
              exact sat_ret tabOk Tryz.func108 rfl trivial ⟨0, rfl, by omega, by omega⟩
            refine sat_branch tabOk Tryz.func108 rfl trivial (fun g2 => ?_) (fun g2 => ?_)
            · refine sat_branch tabOk Tryz.func108 rfl trivial (fun _ => ?_) (fun h => by cases h)
              exact sat_ret tabOk Tryz.func108 rfl trivial ⟨0, rfl, by omega, by omega⟩
            refine sat_branch tabOk Tryz.func108 rfl trivial (fun g3 => ?_) (fun g3 => ?_)
            · refine sat_branch tabOk Tryz.func108 rfl trivial (fun g4 => ?_) (fun g4 => ?_)
              · exact sat_ret tabOk Tryz.func108 rfl trivial ⟨0, rfl, by omega, by omega⟩
              · exact sat_ret tabOk Tryz.func108 rfl trivial ⟨2, rfl, by omega, by omega⟩
            · refine sat_branch tabOk Tryz.func108 rfl trivial (fun h => by cases h) (fun _ => ?_)
              exact sat_ret tabOk Tryz.func108 rfl trivial ⟨2, rfl, by omega, by omega⟩
        · have h6 : decide (IntKind.i64.wrap (bt ⟨l.toArray⟩ ((at_ : Int)).toNat) < 224) = false := h6
          rw [Int.toNat_natCast, bt_list, ew, decide_eq_false_iff_not] at h6
          omega
      · have h5 : decide (IntKind.i64.wrap (bt ⟨l.toArray⟩ ((at_ : Int)).toNat) >= 192) = false := h5
        rw [Int.toNat_natCast, bt_list, ew, decide_eq_false_iff_not] at h5
        refine sat_branch tabOk Tryz.func108 rfl trivial (fun h => by cases h) (fun _ => ?_)
        refine sat_branch tabOk Tryz.func108 rfl trivial (fun h7 => ?_) (fun h7 => ?_)
        · exact sat_ret tabOk Tryz.func108 rfl trivial ⟨0, rfl, by omega, by omega⟩
        · have h7 : decide (IntKind.i64.wrap (bt ⟨l.toArray⟩ ((at_ : Int)).toNat) >= 128) = false := h7
          rw [Int.toNat_natCast, bt_list, ew, decide_eq_false_iff_not] at h7
          refine sat_stop tabOk Tryz.func108 rfl trivial ?_
          obtain ⟨c, hc, hcb⟩ : ∃ c : Nat, (l.getD at_ 0).toNat - 0 = c ∧ c < 300 := ⟨_, rfl, by omega⟩
          refine sat_while (α := Nat × Nat) (fun p => [(0, vSL l), (1, vI .i64 (at_ : Int)), (5, vI .i64 1), (6, vI .i64 (p.2 : Int)), (7, vI .i64 0), (8, vI .i64 (p.1 : Int))]) (fun p => []) (fun p => 1 ≤ p.1 ∧ p.1 ≤ 1 ∧ at_ + p.1 ≤ l.length ∧ p.2 < 300 * 64 ^ (p.1 - 1)) (fun p => 1 - p.1) (1, c) ⟨Nat.le_refl _, Nat.le_of_ble_eq_true rfl, hat, by simpa using hcb⟩ ?_ ?_
          · refine fun h => sat_le h hC hCl ⟨⟨_, rfl, .refl _⟩, ⟨_, rfl, .refl _⟩, ⟨_, rfl, .refl _⟩, ⟨_, rfl, .of ?_⟩, ⟨_, rfl, .refl _⟩, ⟨_, rfl, .refl _⟩, trivial⟩ trivial rfl rfl (Nat.zero_le _)
            show vI .i64 (IntKind.i64.wrap (bt ⟨l.toArray⟩ ((at_ : Int)).toNat)) = _
            rw [Int.toNat_natCast, bt_list, ew]
            show vI .i64 _ = vI .i64 _
            rw [show (((l.getD at_ 0).toNat : Nat) : Int) = (c : Int) by omega]
          rintro ⟨i, c⟩ ⟨hi1, hi2, hil, hcb⟩ ih
          simp only at hi1 hi2 hil hcb
          have hpw : 64 ^ (i - 1) ≤ 64 ^ 3 := Nat.pow_le_pow_right (by decide) (by omega)
          have ewi : IntKind.i64.wrap (((⟨l.toArray⟩ : ByteArray).size : Int) - at_) = ((l.length - at_ : Nat) : Int) := by rw [hsz, wrap_id (by omega) (by omega)]; omega
          have eai : IntKind.i64.wrap ((at_ : Int) + i) = ((at_ + i : Nat) : Int) := by rw [wrap_id (by omega) (by omega)]; omega
          refine sat_branch tabOk Tryz.func108 rfl trivial (fun hb => ?_) (fun hb => ?_) <;> simp only [decide_eq_true_eq, decide_eq_false_iff_not] at hb
          · refine sat_branch tabOk Tryz.func108 rfl trivial (fun g1 => ?_) (fun g1 => ?_)
            · refine sat_branch tabOk Tryz.func108 rfl trivial (fun _ => ?_) (fun h => by cases h)
              refine sat_branch tabOk Tryz.func108 rfl trivial (fun _ => ?_) (fun h => by cases h)
              exact sat_ret tabOk Tryz.func108 rfl trivial ⟨0, rfl, by omega, by omega⟩
            have g1 : decide ((i : Int) ≥ IntKind.i64.wrap (((⟨l.toArray⟩ : ByteArray).size : Int) - at_)) = false := g1
            rw [ewi, decide_eq_false_iff_not] at g1
            have hlt : at_ + i < l.length := by omega
            have hnd : ((0 : Int) ≤ IntKind.i64.wrap ((at_ : Int) + i) ∧ IntKind.i64.wrap ((at_ : Int) + i) < ((⟨l.toArray⟩ : ByteArray).size : Int)) := by rw [eai, hsz]; omega
            have hv := UInt8.toNat_lt (l.getD (at_ + i) 0)
            refine sat_branch tabOk Tryz.func108 rfl ⟨hnd, trivial⟩ (fun g2 => ?_) (fun g2 => ?_)
            · refine sat_branch tabOk Tryz.func108 rfl trivial (fun _ => ?_) (fun h => by cases h)
              exact sat_ret tabOk Tryz.func108 rfl trivial ⟨0, rfl, by omega, by omega⟩
            have g2 : decide (bt ⟨l.toArray⟩ (IntKind.i64.wrap ((at_ : Int) + i)).toNat < 128) = false := g2
            rw [eai, Int.toNat_natCast, bt_list, decide_eq_false_iff_not] at g2
            refine sat_branch tabOk Tryz.func108 rfl ⟨hnd, trivial⟩ (fun g3 => ?_) (fun g3 => ?_)
            · exact sat_ret tabOk Tryz.func108 rfl trivial ⟨0, rfl, by omega, by omega⟩
            have g3 : decide (bt ⟨l.toArray⟩ (IntKind.i64.wrap ((at_ : Int) + i)).toNat > 191) = false := g3
            rw [eai, Int.toNat_natCast, bt_list, decide_eq_false_iff_not] at g3
            refine sat_stop tabOk Tryz.func108 rfl ⟨hnd, trivial⟩ ?_
            have hc4 : c < 300 * 64 ^ 3 := Nat.lt_of_lt_of_le hcb (Nat.mul_le_mul_left _ hpw)
            have hstep : c * 64 + (l.getD (at_ + i) 0).toNat - 128 < 300 * 64 ^ (i + 1 - 1) := by
              rw [show i + 1 - 1 = (i - 1) + 1 by omega, Nat.pow_succ]
              generalize 64 ^ (i - 1) = q at *
              omega
            refine sat_le (ih (i + 1, c * 64 + (l.getD (at_ + i) 0).toNat - 128) ⟨by simp only; omega, by simp only; omega, by simp only; omega, hstep⟩ (by simp only; omega)) hC hCl ⟨⟨_, rfl, .refl _⟩, ⟨_, rfl, .refl _⟩, ⟨_, rfl, .refl _⟩, ⟨_, rfl, .of ?_⟩, ⟨_, rfl, .refl _⟩, ⟨_, rfl, .of (by rw [wrap_id (by omega) (by omega)]; rfl)⟩, trivial⟩ trivial rfl rfl (Nat.zero_le _)
            show vI .i64 (IntKind.i64.wrap (IntKind.i64.wrap (IntKind.i64.wrap ((c : Int) * 64) + IntKind.i64.wrap (bt ⟨l.toArray⟩ (IntKind.i64.wrap ((at_ : Int) + i)).toNat)) - 128)) = _
            have e1 : IntKind.i64.wrap ((c : Int) * 64) = (c : Int) * 64 := wrap_id (by omega) (by omega)
            have e2 : IntKind.i64.wrap (((l.getD (at_ + i) 0).toNat : Nat) : Int) = (((l.getD (at_ + i) 0).toNat : Nat) : Int) := wrap_id (by omega) (by omega)
            have e3 : IntKind.i64.wrap ((c : Int) * 64 + (((l.getD (at_ + i) 0).toNat : Nat) : Int)) = (c : Int) * 64 + (((l.getD (at_ + i) 0).toNat : Nat) : Int) := wrap_id (by omega) (by omega)
            rw [eai, Int.toNat_natCast, bt_list, e2, e1, e3, wrap_id (by omega) (by omega)]
            show vI .i64 _ = vI .i64 _
            congr 4
            omega
          · obtain rfl : i = 1 := by omega
            refine sat_branch tabOk Tryz.func108 rfl trivial (fun g1 => ?_) (fun g1 => ?_)
            · refine sat_branch tabOk Tryz.func108 rfl trivial (fun _ => ?_) (fun h => by cases h)
              refine sat_branch tabOk Tryz.func108 rfl trivial (fun _ => ?_) (fun h => by cases h)
              exact sat_ret tabOk Tryz.func108 rfl trivial ⟨0, rfl, by omega, by omega⟩
            refine sat_branch tabOk Tryz.func108 rfl trivial (fun g2 => ?_) (fun g2 => ?_)
            · refine sat_branch tabOk Tryz.func108 rfl trivial (fun _ => ?_) (fun h => by cases h)
              exact sat_ret tabOk Tryz.func108 rfl trivial ⟨0, rfl, by omega, by omega⟩
            refine sat_branch tabOk Tryz.func108 rfl trivial (fun g3 => ?_) (fun g3 => ?_)
            · refine sat_branch tabOk Tryz.func108 rfl trivial (fun g4 => ?_) (fun g4 => ?_)
              · exact sat_ret tabOk Tryz.func108 rfl trivial ⟨0, rfl, by omega, by omega⟩
              · exact sat_ret tabOk Tryz.func108 rfl trivial ⟨1, rfl, by omega, by omega⟩
            · refine sat_branch tabOk Tryz.func108 rfl trivial (fun h => by cases h) (fun _ => ?_)
              exact sat_ret tabOk Tryz.func108 rfl trivial ⟨1, rfl, by omega, by omega⟩
end Go.Proofs.YtcenfhcemmlaeaaGreatDoor
namespace Go.Proofs.YtcenfhcemmlaeaaGreatDoor
open Go Ab
set_option maxRecDepth 100000
set_option linter.unusedVariables false
set_option linter.unusedSimpArgs false
set_option maxHeartbeats 1000000

theorem IsName_call (l : List UInt8) (hl : l.length ≤ maxLen) : ACall Tryz.prog 104 [vSL l] [] (fun r o => ∃ b, r = vB b) := by
  refine acall_enter Tryz.func104 rfl rfl (Nat.le_of_ble_eq_true rfl) fun C hC hCl hDs => ?_
  have hl0 := hl
  have hl : l.length ≤ 9223372036854775807 := hl
  have hsz : (⟨l.toArray⟩ : ByteArray).size = l.length := size_list l
  refine sat_stop tabOk Tryz.func104 rfl trivial ?_
  refine sat_while (α := Nat × Nat) (fun p => [(0, vSL l), (3, vI .i64 (p.2 : Int)), (4, vI .i64 (p.1 : Int))]) (fun p => []) (fun p => p.1 ≤ l.length ∧ p.2 ≤ p.1) (fun p => l.length - p.1) (0, 0) ⟨Nat.zero_le _, Nat.le_refl _⟩ ?_ ?_
  · exact fun h => sat_le h hC hCl ⟨⟨_, rfl, .refl _⟩, ⟨_, rfl, .refl _⟩, ⟨_, rfl, .refl _⟩, trivial⟩ trivial rfl rfl (Nat.zero_le _)
  rintro ⟨i, q⟩ ⟨hi, hq⟩ ih
  simp only at hi hq
  refine sat_branch tabOk Tryz.func104 rfl trivial (fun hb => ?_) (fun hb => ?_) <;> simp only [hsz, decide_eq_true_eq, decide_eq_false_iff_not] at hb
  · have hlt : i < l.length := by omega
    have hnd : ((0 : Int) ≤ (i : Int) ∧ (i : Int) < ((⟨l.toArray⟩ : ByteArray).size : Int)) := by rw [hsz]; omega
    refine sat_call tabOk Tryz.func104 rfl trivial (Long_call l i hl0 hlt) (.refl _) rfl ⟨_, rfl⟩ (by rintro r o ⟨n, rfl, -⟩; rfl) ?_
    rintro r o ⟨n, rfl, hn4, hnl⟩
    refine sat_branch tabOk Tryz.func104 rfl trivial (fun h1 => ?_) (fun h1 => ?_)
    · refine sat_branch tabOk Tryz.func104 rfl trivial (fun _ => ?_) (fun h => by cases h)
      refine sat_branch tabOk Tryz.func104 rfl trivial (fun _ => ?_) (fun h => by cases h)
      exact sat_ret tabOk Tryz.func104 rfl trivial ⟨_, rfl⟩
    have h1 : ((n : Int) == 0) = false := h1
    have hn1 : 0 < n := by
      rcases Nat.eq_zero_or_pos n with rfl | h
      · cases h1
      · exact h
    refine sat_branch tabOk Tryz.func104 rfl ⟨hnd, trivial⟩ (fun h2 => ?_) (fun h2 => ?_)
    · refine sat_branch tabOk Tryz.func104 rfl trivial (fun _ => ?_) (fun h => by cases h)
      exact sat_ret tabOk Tryz.func104 rfl trivial ⟨_, rfl⟩
    refine sat_branch tabOk Tryz.func104 rfl ⟨hnd, trivial⟩ (fun h3 => ?_) (fun h3 => ?_)
    · exact sat_ret tabOk Tryz.func104 rfl trivial ⟨_, rfl⟩
    refine sat_stop tabOk Tryz.func104 rfl trivial ?_
    refine sat_le (ih (i + n, q + 1) ⟨by simp only; omega, by simp only; omega⟩ (by simp only; omega)) hC hCl ⟨⟨_, rfl, .refl _⟩, ⟨_, rfl, .of ?_⟩, ⟨_, rfl, .of ?_⟩, trivial⟩ trivial rfl rfl (Nat.zero_le _)
    · show vI .i64 (IntKind.i64.wrap ((q : Int) + 1)) = _
      rw [wrap_id (by omega) (by omega)]
      rfl
    · show vI .i64 (IntKind.i64.wrap ((i : Int) + n)) = _
      rw [wrap_id (by omega) (by omega)]
      rfl
  · refine sat_branch tabOk Tryz.func104 rfl trivial (fun h1 => ?_) (fun h1 => ?_)
    · exact sat_ret tabOk Tryz.func104 rfl trivial ⟨_, rfl⟩
    · exact sat_ret tabOk Tryz.func104 rfl trivial ⟨_, rfl⟩

theorem ite_mem {p : Prop} [Decidable p] {α : Type} {a b : α} {L : List α} (ha : a ∈ L) (hb : b ∈ L) : (if p then a else b) ∈ L := by split <;> assumption
def formsL : List (List UInt8 × Bool) := [([119], true), ([115, 98], true), ([115, 109], true), ([97], true), ([115, 97], true), ([115, 97, 97], true), ([115, 97, 97, 97], true), ([115, 97, 110, 110], true), ([115, 97, 110], true), ([], false)]
theorem formR_mem (op : List UInt8) : formR op ∈ formsL := by
  unfold formR
  refine ite_mem (by decide) ?_
  refine ite_mem (by decide) ?_
  refine ite_mem (by decide) ?_
  refine ite_mem (by decide) ?_
  refine ite_mem (by decide) ?_
  refine ite_mem (by decide) ?_
  refine ite_mem (by decide) ?_
  refine ite_mem (by decide) ?_
  refine ite_mem (by decide) ?_
  refine ite_mem (by decide) ?_
  refine ite_mem (by decide) ?_
  refine ite_mem (by decide) ?_
  refine ite_mem (by decide) ?_
  refine ite_mem (by decide) ?_
  refine ite_mem (by decide) ?_
  refine ite_mem (by decide) ?_
  refine ite_mem (by decide) ?_
  refine ite_mem (by decide) ?_
  refine ite_mem (by decide) ?_
  refine ite_mem (by decide) ?_
  refine ite_mem (by decide) ?_
  refine ite_mem (by decide) ?_
  refine ite_mem (by decide) ?_
  refine ite_mem (by decide) ?_
  refine ite_mem (by decide) ?_
  refine ite_mem (by decide) ?_
  refine ite_mem (by decide) ?_
  refine ite_mem (by decide) ?_
  refine ite_mem (by decide) ?_
  refine ite_mem (by decide) ?_
  refine ite_mem (by decide) ?_
  refine ite_mem (by decide) ?_
  refine ite_mem (by decide) ?_
  refine ite_mem (by decide) ?_
  decide
theorem form_len (op : List UInt8) : (formR op).1.length ≤ 4 := by
  have h := formR_mem op
  generalize formR op = f at h
  simp only [formsL, List.mem_cons, List.not_mem_nil, or_false] at h
  rcases h with rfl | rfl | rfl | rfl | rfl | rfl | rfl | rfl | rfl | rfl <;> decide

theorem text13_call (form l : List UInt8) (hf : form.length ≤ 4) (hl : l.length ≤ maxLen) : ACall Tryz.prog 95 [vSL form, vSL l] [] (fun r o => ∃ b, r = vB b ∧ (b = true → 0 < form.count 98 → mkok l = true)) := by
  refine acall_enter Tryz.func95 rfl rfl (Nat.le_of_ble_eq_true rfl) fun C hC hCl hDs => ?_
  refine sat_call tabOk Tryz.func95 rfl trivial (has_call form 98 (by omega)) (.refl _) rfl ⟨_, rfl⟩ (by rintro r o rfl; rfl) ?_
  rintro r o rfl
  refine sat_branch tabOk Tryz.func95 rfl trivial (fun h1 => ?_) (fun h1 => ?_)
  · refine sat_call tabOk Tryz.func95 rfl trivial (bits13_call l hl) (.refl _) rfl ⟨_, rfl⟩ (by rintro r o ⟨b, rfl, -⟩; rfl) ?_
    rintro r o ⟨b, rfl, hb⟩
    exact sat_ret tabOk Tryz.func95 rfl trivial ⟨b, rfl, fun h _ => hb h⟩
  have h1 : decide (((form.count 98 : Nat) : Int) > 0) = false := h1
  rw [decide_eq_false_iff_not] at h1
  have h0 : ¬ 0 < form.count 98 := by omega
  refine sat_call tabOk Tryz.func95 rfl trivial (has_call form 109 (by omega)) (.refl _) rfl ⟨_, rfl⟩ (by rintro r o rfl; rfl) ?_
  rintro r o rfl
  refine sat_branch tabOk Tryz.func95 rfl trivial (fun h2 => ?_) (fun h2 => ?_)
  · refine sat_branch tabOk Tryz.func95 rfl trivial (fun h3 => ?_) (fun h3 => ?_)
    · refine sat_call tabOk Tryz.func95 rfl trivial (IsName_call l hl) (.refl _) rfl ⟨_, rfl⟩ (by rintro r o ⟨b, rfl⟩; rfl) ?_
      rintro r o ⟨b, rfl⟩
      exact sat_ret tabOk Tryz.func95 rfl trivial ⟨b, rfl, fun _ h => absurd h h0⟩
    · exact sat_ret tabOk Tryz.func95 rfl trivial ⟨_, rfl, fun _ h => absurd h h0⟩
  · refine sat_branch tabOk Tryz.func95 rfl trivial (fun h => by cases h) (fun _ => ?_)
    exact sat_ret tabOk Tryz.func95 rfl trivial ⟨_, rfl, fun _ h => absurd h h0⟩

/-- A line is such as its form tells. -/
structure NodeOk (x : Nd) (id : Int) : Prop where
  known : (formR x.op).2 = true
  txt : 0 < (formR x.op).1.count 98 → mkok x.t = true
  s0 : (formR x.op).1.count 115 = 0 → x.s = 0
  s1 : 0 < (formR x.op).1.count 115 → 1 ≤ x.s ∧ x.s < id
  al : x.a.length = (formR x.op).1.count 97
  ab : ∀ a ∈ x.a, 1 ≤ a ∧ a ≤ id - 1
  nl : x.n.length = (formR x.op).1.count 110 + (formR x.op).1.count 119
  nb : ∀ n ∈ x.n, (((formR x.op).1.count 119 : Nat) : Int) ≤ n ∧ n ≤ 128
structure NdB (x : Nd) : Prop where
  op : x.op.length ≤ maxLen
  t : x.t.length ≤ maxLen
  a : x.a.length ≤ maxLen
  n : x.n.length ≤ maxLen

theorem node_call (x : Nd) (hx : NdB x) (id : Nat) (hid : id ≤ 9223372036854775807) : ACall Tryz.prog 77 [.d (eNd x), vI .i64 (id : Int)] [] (fun r o => ∃ b, r = vB b ∧ (b = true → NodeOk x id)) := by
  refine acall_enter Tryz.func77 rfl rfl (Nat.le_of_ble_eq_true rfl) fun C hC hCl hDs => ?_
  have hfl := form_len x.op
  refine sat_call tabOk Tryz.func77 rfl trivial (Form_call x.op) (.refl _) rfl ⟨_, rfl⟩ (by rintro r o rfl; rfl) ?_
  rintro r o rfl
  refine sat_branch tabOk Tryz.func77 rfl trivial (fun h1 => ?_) (fun h1 => ?_)
  · refine sat_branch tabOk Tryz.func77 rfl trivial (fun _ => ?_) (fun h => by cases h)
    exact sat_ret tabOk Tryz.func77 rfl trivial ⟨false, rfl, by simp⟩
  have k1 : (formR x.op).2 = true := by
    cases h : (formR x.op).2 with
    | true => rfl
    | false => rw [h] at h1; cases h1
  refine sat_call tabOk Tryz.func77 rfl trivial (text13_call (formR x.op).1 x.t hfl hx.t) (.refl _) rfl ⟨_, rfl⟩ (by rintro r o ⟨b, rfl, -⟩; rfl) ?_
  rintro r o ⟨b, rfl, hb⟩
  refine sat_branch tabOk Tryz.func77 rfl trivial (fun h2 => ?_) (fun h2 => ?_)
  · exact sat_ret tabOk Tryz.func77 rfl trivial ⟨false, rfl, by simp⟩
  have k2 : b = true := by
    cases b with
    | true => rfl
    | false => cases h2
  have k2 := hb k2
  refine sat_call tabOk Tryz.func77 rfl trivial (has_call (formR x.op).1 115 (by omega)) (.refl _) rfl ⟨_, rfl⟩ (by rintro r o rfl; rfl) ?_
  rintro r o rfl
  have n1 : (formR x.op).1.count 115 ≤ 4 := Nat.le_trans List.count_le_length hfl
  have n2 : (formR x.op).1.count 119 ≤ 4 := Nat.le_trans List.count_le_length hfl
  have n3 : (formR x.op).1.count 97 ≤ 4 := Nat.le_trans List.count_le_length hfl
  have n4 : (formR x.op).1.count 110 ≤ 4 := Nat.le_trans List.count_le_length hfl
  have fin : ((formR x.op).1.count 115 = 0 → x.s = 0) → (0 < (formR x.op).1.count 115 → 1 ≤ x.s ∧ x.s < id) → True := fun _ _ => trivial
  refine sat_branch tabOk Tryz.func77 rfl trivial (fun h3 => ?_) (fun h3 => ?_)
  · have h3 : ((((formR x.op).1.count 115 : Nat) : Int) == 0) = true := h3
    have z3 : (formR x.op).1.count 115 = 0 := by have := eq_of_beq h3; omega
    refine sat_branch tabOk Tryz.func77 rfl trivial (fun h4 => ?_) (fun h4 => ?_)
    · refine sat_branch tabOk Tryz.func77 rfl trivial (fun _ => ?_) (fun h => by cases h)
      exact sat_ret tabOk Tryz.func77 rfl trivial ⟨false, rfl, by simp⟩
    have h4 : (x.s != 0) = false := h4
    rw [bne_eq_false_iff_eq] at h4
    refine sat_call tabOk Tryz.func77 rfl trivial (has_call (formR x.op).1 115 (by omega)) (.refl _) rfl ⟨_, rfl⟩ (by rintro r o rfl; rfl) ?_
    rintro r o rfl
    refine sat_branch tabOk Tryz.func77 rfl trivial (fun h5 => ?_) (fun h5 => ?_)
    · have h5 : decide ((((formR x.op).1.count 115 : Nat) : Int) > 0) = true := h5
      rw [z3] at h5
      cases h5
    refine sat_branch tabOk Tryz.func77 rfl trivial (fun h => by cases h) (fun _ => ?_)
    refine sat_call tabOk Tryz.func77 rfl trivial (has_call (formR x.op).1 119 (by omega)) (.refl _) rfl ⟨_, rfl⟩ (by rintro r o rfl; rfl) ?_
    rintro r o rfl
    refine sat_le (env' := [(1, vI .i64 (id : Int)), (2, .ptr 0 0), (5, vSL (formR x.op).1), (50, vI .i64 (((formR x.op).1.count 119 : Nat) : Int))]) (objs' := [some (bNd x)]) ?_ hC hCl ⟨⟨_, rfl, .refl _⟩, ⟨_, rfl, .refl _⟩, ⟨_, rfl, .refl _⟩, ⟨_, rfl, .refl _⟩, trivial⟩ ⟨.refl _, trivial⟩ rfl rfl (Nat.zero_le _)
    have eid : IntKind.i64.wrap ((id : Int) - 1) = (id : Int) - 1 := wrap_id (by omega) (by omega)
    have e10 : IntKind.i64.wrap ((((formR x.op).1.count 110 : Nat) : Int) + (((formR x.op).1.count 119 : Nat) : Int)) = (((formR x.op).1.count 110 + (formR x.op).1.count 119 : Nat) : Int) := by rw [wrap_id (by omega) (by omega)]; omega
    refine sat_drawT 6 tabOk Tryz.func77 rfl rfl trivial (by kernel_rfl) ?_
    refine ds_call tabOk rfl trivial (has_call (formR x.op).1 97 (by omega)) (callFunc_run Tryz.func96 rfl rfl) (by rintro r o rfl; rfl) (.refl _) rfl rfl ⟨_, rfl⟩ ?_
    refine ds_done tabOk rfl trivial ?_
    refine sat_call tabOk Tryz.func77 rfl trivial (within_call x.a (((formR x.op).1.count 97 : Nat) : Int) 1 ((id : Int) - 1) hx.a) ⟨.refl _, .refl _, .refl _, .of (by show vI .i64 (IntKind.i64.wrap ((id : Int) - 1)) = _; rw [eid]), trivial⟩ rfl ⟨_, rfl⟩ (by rintro r o ⟨b, rfl, -⟩; rfl) ?_
    rintro r o ⟨b1, rfl, hb1⟩
    refine sat_drawT 7 tabOk Tryz.func77 rfl rfl trivial (by kernel_rfl) ?_
    refine ds_call tabOk rfl trivial (has_call (formR x.op).1 110 (by omega)) (callFunc_run Tryz.func96 rfl rfl) (by rintro r o rfl; rfl) (.refl _) rfl rfl ⟨_, rfl⟩ ?_
    refine ds_done tabOk rfl trivial ?_
    refine sat_call tabOk Tryz.func77 rfl trivial (within_call x.n (((formR x.op).1.count 110 + (formR x.op).1.count 119 : Nat) : Int) (((formR x.op).1.count 119 : Nat) : Int) 128 hx.n) ⟨.refl _, .of (by show vI .i64 (IntKind.i64.wrap ((((formR x.op).1.count 110 : Nat) : Int) + (((formR x.op).1.count 119 : Nat) : Int))) = _; rw [e10]), .refl _, .refl _, trivial⟩ rfl ⟨_, rfl⟩ (by rintro r o ⟨b, rfl, -⟩; rfl) ?_
    rintro r o ⟨b2, rfl, hb2⟩
    refine sat_branch tabOk Tryz.func77 rfl trivial (fun h8 => ?_) (fun h8 => ?_)
    · subst h8
      obtain ⟨g1, g2⟩ := hb1 rfl
      refine sat_ret tabOk Tryz.func77 rfl trivial ⟨b2, rfl, fun h9 => ?_⟩
      obtain ⟨g3, g4⟩ := hb2 h9
      exact ⟨k1, k2, fun _ => h4, fun h => by omega, by omega, g2, by omega, g4⟩
    · exact sat_ret tabOk Tryz.func77 rfl trivial ⟨false, rfl, by simp⟩
  · have h3 : ((((formR x.op).1.count 115 : Nat) : Int) == 0) = false := h3
    have z3 : 0 < (formR x.op).1.count 115 := by
      rcases Nat.eq_zero_or_pos ((formR x.op).1.count 115) with h | h
      · rw [h] at h3; cases h3
      · exact h
    refine sat_branch tabOk Tryz.func77 rfl trivial (fun h => by cases h) (fun _ => ?_)
    refine sat_call tabOk Tryz.func77 rfl trivial (has_call (formR x.op).1 115 (by omega)) (.refl _) rfl ⟨_, rfl⟩ (by rintro r o rfl; rfl) ?_
    rintro r o rfl
    refine sat_branch tabOk Tryz.func77 rfl trivial (fun h5 => ?_) (fun h5 => ?_)
    rotate_left
    · have h5 : decide ((((formR x.op).1.count 115 : Nat) : Int) > 0) = false := h5
      rw [decide_eq_false_iff_not] at h5
      omega
    refine sat_branch tabOk Tryz.func77 rfl trivial (fun h6 => ?_) (fun h6 => ?_)
    · refine sat_branch tabOk Tryz.func77 rfl trivial (fun _ => ?_) (fun h => by cases h)
      exact sat_ret tabOk Tryz.func77 rfl trivial ⟨false, rfl, by simp⟩
    have h6 : decide (x.s < 1) = false := h6
    rw [decide_eq_false_iff_not] at h6
    refine sat_branch tabOk Tryz.func77 rfl trivial (fun h7 => ?_) (fun h7 => ?_)
    · exact sat_ret tabOk Tryz.func77 rfl trivial ⟨false, rfl, by simp⟩
    have h7 : decide (x.s ≥ (id : Int)) = false := h7
    rw [decide_eq_false_iff_not] at h7
    refine sat_call tabOk Tryz.func77 rfl trivial (has_call (formR x.op).1 119 (by omega)) (.refl _) rfl ⟨_, rfl⟩ (by rintro r o rfl; rfl) ?_
    rintro r o rfl
    refine sat_le (env' := [(1, vI .i64 (id : Int)), (2, .ptr 0 0), (5, vSL (formR x.op).1), (50, vI .i64 (((formR x.op).1.count 119 : Nat) : Int))]) (objs' := [some (bNd x)]) ?_ hC hCl ⟨⟨_, rfl, .refl _⟩, ⟨_, rfl, .refl _⟩, ⟨_, rfl, .refl _⟩, ⟨_, rfl, .refl _⟩, trivial⟩ ⟨.refl _, trivial⟩ rfl rfl (Nat.zero_le _)
    have eid : IntKind.i64.wrap ((id : Int) - 1) = (id : Int) - 1 := wrap_id (by omega) (by omega)
    have e10 : IntKind.i64.wrap ((((formR x.op).1.count 110 : Nat) : Int) + (((formR x.op).1.count 119 : Nat) : Int)) = (((formR x.op).1.count 110 + (formR x.op).1.count 119 : Nat) : Int) := by rw [wrap_id (by omega) (by omega)]; omega
    refine sat_drawT 6 tabOk Tryz.func77 rfl rfl trivial (by kernel_rfl) ?_
    refine ds_call tabOk rfl trivial (has_call (formR x.op).1 97 (by omega)) (callFunc_run Tryz.func96 rfl rfl) (by rintro r o rfl; rfl) (.refl _) rfl rfl ⟨_, rfl⟩ ?_
    refine ds_done tabOk rfl trivial ?_
    refine sat_call tabOk Tryz.func77 rfl trivial (within_call x.a (((formR x.op).1.count 97 : Nat) : Int) 1 ((id : Int) - 1) hx.a) ⟨.refl _, .refl _, .refl _, .of (by show vI .i64 (IntKind.i64.wrap ((id : Int) - 1)) = _; rw [eid]), trivial⟩ rfl ⟨_, rfl⟩ (by rintro r o ⟨b, rfl, -⟩; rfl) ?_
    rintro r o ⟨b1, rfl, hb1⟩
    refine sat_drawT 7 tabOk Tryz.func77 rfl rfl trivial (by kernel_rfl) ?_
    refine ds_call tabOk rfl trivial (has_call (formR x.op).1 110 (by omega)) (callFunc_run Tryz.func96 rfl rfl) (by rintro r o rfl; rfl) (.refl _) rfl rfl ⟨_, rfl⟩ ?_
    refine ds_done tabOk rfl trivial ?_
    refine sat_call tabOk Tryz.func77 rfl trivial (within_call x.n (((formR x.op).1.count 110 + (formR x.op).1.count 119 : Nat) : Int) (((formR x.op).1.count 119 : Nat) : Int) 128 hx.n) ⟨.refl _, .of (by show vI .i64 (IntKind.i64.wrap ((((formR x.op).1.count 110 : Nat) : Int) + (((formR x.op).1.count 119 : Nat) : Int))) = _; rw [e10]), .refl _, .refl _, trivial⟩ rfl ⟨_, rfl⟩ (by rintro r o ⟨b, rfl, -⟩; rfl) ?_
    rintro r o ⟨b2, rfl, hb2⟩
    refine sat_branch tabOk Tryz.func77 rfl trivial (fun h8 => ?_) (fun h8 => ?_)
    · subst h8
      obtain ⟨g1, g2⟩ := hb1 rfl
      refine sat_ret tabOk Tryz.func77 rfl trivial ⟨b2, rfl, fun h9 => ?_⟩
      obtain ⟨g3, g4⟩ := hb2 h9
      exact ⟨k1, k2, fun h => by omega, fun _ => ⟨by omega, by omega⟩, by omega, g2, by omega, g4⟩
    · exact sat_ret tabOk Tryz.func77 rfl trivial ⟨false, rfl, by simp⟩
end Go.Proofs.YtcenfhcemmlaeaaGreatDoor
