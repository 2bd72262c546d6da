/- A part of the proof: V15. -/
import Derived.Test.YtclamogkchdkgaaGreatDoorP12
set_option linter.unusedVariables false
set_option linter.unusedSimpArgs false
namespace Go.Proofs.YtclamogkchdkgaaGreatDoor
open Go Ab
set_option maxRecDepth 100000
set_option linter.unusedVariables false
set_option linter.unusedSimpArgs false

/-! ### ones -/
theorem and_le_sum {a b m n : Nat} : (a &&& m) + (b &&& n) ≤ m + n := Nat.add_le_add Nat.and_le_right Nat.and_le_right
theorem addU {a b : Nat} (h : a + b < 18446744073709551616) : IntKind.u64.wrap ((a : Int) + (b : Int)) = ((a + b : Nat) : Int) := by
  rw [← Int.natCast_add, wrapU_id h]
theorem bitI127 {d : Nat} (h : d < 9223372036854775808) : IntKind.i64.wrap ((bitI .i64 (IntKind.i64.wrap (d : Int)) &&& bitI .i64 127).toNat : Nat) = ((d % 128 : Nat) : Int) := by
  have w1 : IntKind.i64.wrap (d : Int) = (d : Int) := wrap_id (by omega) (by omega)
  rw [w1]
  have e : (bitI .i64 (d : Int) &&& bitI .i64 127).toNat = d % 128 := by
    have h1 : (bitI .i64 (d : Int)).toNat = d := by simp [bitI, IntKind.bits]; omega
    have h2 : (bitI .i64 (127 : Int)).toNat = 127 := by decide
    rw [BitVec.toNat_and, h1, h2]
    exact Nat.and_two_pow_sub_one_eq_mod d 7
  rw [e, wrap_id (by omega) (by omega)]
theorem OnesCount_call (x : Nat) (hx : x < 18446744073709551616) : ACall Tryz.prog 116 [vU x] [] (fun r o => r = vI .i64 ((ones64 x : Nat) : Int)) := by
  refine acall_enter Tryz.func116 rfl rfl (Nat.le_of_ble_eq_true rfl) fun C hC hCl => ?_
  refine sat_ret tabOk Tryz.func116 rfl (by decide) ?_
  have hs := (ones64_eq hx).2
  have m1 : ma1 8 = 6148914691236517205 := by decide
  have m2 : ma2 8 = 3689348814741910323 := by decide
  have m3 : ma3 8 = 1085102592571150095 := by decide
  have l1 : sw1 8 x ≤ 12297829382473034410 := by rw [sw1, m1]; exact and_le_sum
  have e1 : IntKind.u64.wrap (IntKind.u64.wrap ((bitI .u64 ((x : Int).fdiv (2 ^ min (Int.toNat 1) IntKind.u64.bits)) &&& bitI .u64 6148914691236517205).toNat : Nat) + IntKind.u64.wrap ((bitI .u64 (x : Int) &&& bitI .u64 6148914691236517205).toNat : Nat)) = ((sw1 8 x : Nat) : Int) := by
    have q1 : (x : Int).fdiv (2 ^ min (Int.toNat 1) IntKind.u64.bits) = ((x / 2 ^ 1 : Nat) : Int) := shrU (b := 1) (by decide)
    have q2 : IntKind.u64.wrap ((bitI .u64 ((x / 2 ^ 1 : Nat) : Int) &&& bitI .u64 6148914691236517205).toNat : Nat) = ((x / 2 ^ 1 &&& 6148914691236517205 : Nat) : Int) := andU (by omega) (by decide)
    have q3 : IntKind.u64.wrap ((bitI .u64 (x : Int) &&& bitI .u64 6148914691236517205).toNat : Nat) = ((x &&& 6148914691236517205 : Nat) : Int) := andU hx (by decide)
    rw [sw1, m1] at l1
    rw [q1, q2, q3, addU (by rw [Nat.pow_one]; omega), sw1, m1, Nat.pow_one]
  rw [e1]
  have hsw : sw 8 x = sw3 8 (sw2 8 (sw1 8 x)) := rfl
  generalize ha : sw1 8 x = a at l1 hsw
  have l2 : sw2 8 a ≤ 7378697629483820646 := by rw [sw2, m2]; exact and_le_sum
  have e2 : IntKind.u64.wrap (IntKind.u64.wrap ((bitI .u64 ((a : Int).fdiv (2 ^ min (Int.toNat 2) IntKind.u64.bits)) &&& bitI .u64 3689348814741910323).toNat : Nat) + IntKind.u64.wrap ((bitI .u64 (a : Int) &&& bitI .u64 3689348814741910323).toNat : Nat)) = ((sw2 8 a : Nat) : Int) := by
    have q1 : (a : Int).fdiv (2 ^ min (Int.toNat 2) IntKind.u64.bits) = ((a / 2 ^ 2 : Nat) : Int) := shrU (b := 2) (by decide)
    have q2 : IntKind.u64.wrap ((bitI .u64 ((a / 2 ^ 2 : Nat) : Int) &&& bitI .u64 3689348814741910323).toNat : Nat) = ((a / 2 ^ 2 &&& 3689348814741910323 : Nat) : Int) := andU (by omega) (by decide)
    have q3 : IntKind.u64.wrap ((bitI .u64 (a : Int) &&& bitI .u64 3689348814741910323).toNat : Nat) = ((a &&& 3689348814741910323 : Nat) : Int) := andU (by omega) (by decide)
    rw [sw2, m2] at l2
    rw [q1, q2, q3, addU (by show (a / 4 &&& 3689348814741910323) + (a &&& 3689348814741910323) < 18446744073709551616; omega), sw2, m2]
  rw [e2]
  generalize hb : sw2 8 a = b at l2 hsw
  have e3 : IntKind.u64.wrap ((bitI .u64 (IntKind.u64.wrap ((b : Int).fdiv (2 ^ min (Int.toNat 4) IntKind.u64.bits) + (b : Int))) &&& bitI .u64 1085102592571150095).toNat : Nat) = ((sw3 8 b : Nat) : Int) := by
    have q1 : (b : Int).fdiv (2 ^ min (Int.toNat 4) IntKind.u64.bits) = ((b / 2 ^ 4 : Nat) : Int) := shrU (b := 4) (by decide)
    have q2 : IntKind.u64.wrap ((bitI .u64 ((b / 2 ^ 4 + b : Nat) : Int) &&& bitI .u64 1085102592571150095).toNat : Nat) = ((b / 2 ^ 4 + b &&& 1085102592571150095 : Nat) : Int) := andU (by omega) (by decide)
    rw [q1, addU (by omega), q2, sw3, m3]
  rw [e3]
  rw [hsw] at hs
  have hones : ones64 x = (let a := sw3 8 b; let b := a + a / 256; let c := b + b / 65536; let d := c + c / 4294967296; d % 128) := by rw [← hsw]; rfl
  rw [hones]
  generalize hc : sw3 8 b = c at hs
  have e4 : IntKind.u64.wrap ((c : Int) + (c : Int).fdiv (2 ^ min (Int.toNat 8) IntKind.u64.bits)) = ((c + c / 2 ^ 8 : Nat) : Int) := by
    have q1 : (c : Int).fdiv (2 ^ min (Int.toNat 8) IntKind.u64.bits) = ((c / 2 ^ 8 : Nat) : Int) := shrU (b := 8) (by decide)
    rw [q1, addU (by omega)]
  rw [e4]
  generalize hd : c + c / 2 ^ 8 = d
  have hd' : d ≤ 600000000000000000 := by omega
  have e5 : IntKind.u64.wrap ((d : Int) + (d : Int).fdiv (2 ^ min (Int.toNat 16) IntKind.u64.bits)) = ((d + d / 2 ^ 16 : Nat) : Int) := by
    have q1 : (d : Int).fdiv (2 ^ min (Int.toNat 16) IntKind.u64.bits) = ((d / 2 ^ 16 : Nat) : Int) := shrU (b := 16) (by decide)
    rw [q1, addU (by omega)]
  rw [e5]
  generalize he : d + d / 2 ^ 16 = e
  have he' : e ≤ 700000000000000000 := by omega
  have e6 : IntKind.u64.wrap ((e : Int) + (e : Int).fdiv (2 ^ min (Int.toNat 32) IntKind.u64.bits)) = ((e + e / 2 ^ 32 : Nat) : Int) := by
    have q1 : (e : Int).fdiv (2 ^ min (Int.toNat 32) IntKind.u64.bits) = ((e / 2 ^ 32 : Nat) : Int) := shrU (b := 32) (by decide)
    rw [q1, addU (by omega)]
  rw [e6]
  have e7 : IntKind.i64.wrap ((bitI .i64 (IntKind.i64.wrap ((e + e / 2 ^ 32 : Nat) : Int)) &&& bitI .i64 127).toNat : Nat) = (((e + e / 2 ^ 32) % 128 : Nat) : Int) := bitI127 (by omega)
  rw [e7, ← he, ← hd]
  rfl
theorem cnt_lw (x i : Nat) : cnt x.testBit (64 * (i + 1)) = cnt x.testBit (64 * i) + cnt (lw x i).testBit 64 := by
  rw [show 64 * (i + 1) = 64 * i + 64 by omega, cnt_add]
  congr 1
  exact cnt_congr fun k hk => by rw [lw_tb]; simp [hk]
theorem cnt_w {w x : Nat} (hx : x < 2 ^ w) : cnt x.testBit (64 * limbsN w) = cnt x.testBit w := by
  obtain ⟨k, hk⟩ : ∃ k, 64 * limbsN w = w + k := ⟨64 * limbsN w - w, by have := w_le w; omega⟩
  rw [hk, cnt_add, cnt_none (n := k) fun i _ => tb_ge hx (Nat.le_add_right w i), Nat.add_zero]
theorem ones_call (w x : Nat) (hx : x < 2 ^ w) (hwb : w ≤ 1000000) : ACall Tryz.prog 70 [.d (vN w x)] [] (fun r o => r = vI .i64 ((cnt x.testBit w : Nat) : Int)) := by
  refine acall_enter Tryz.func70 rfl rfl (Nat.le_of_ble_eq_true rfl) fun C hC hCl => ?_
  have hln : limbsN w ≤ 1000000 := by unfold limbsN; omega
  refine sat_stop tabOk Tryz.func70 rfl trivial ?_
  refine sat_while (α := Nat) (fun i => [(3, vI .i64 (cnt x.testBit (64 * i) : Nat)), (7, .d (eUs (lmb (limbsN w) x))), (8, vI .i64 (limbsN w)), (9, vI .i64 i)]) (fun i => [some (bN w x)]) (fun i => i ≤ limbsN w) (fun i => limbsN w - i) 0 (Nat.zero_le _) ?_ ?_
  · refine fun h => sat_le h hC hCl ⟨⟨_, rfl, .refl _⟩, ⟨_, rfl, .refl _⟩, ⟨_, rfl, .of ?_⟩, ⟨_, rfl, .refl _⟩, trivial⟩ ⟨.refl _, trivial⟩ rfl rfl (Nat.le_of_ble_eq_true rfl)
    show vI .i64 ((List.map eU (lmb (limbsN w) x)).length : Int) = _
    rw [List.length_map, lmb_len]
  rintro i hi ih
  refine sat_branch tabOk Tryz.func70 rfl trivial (fun hb2 => ?_) (fun hb2 => ?_) <;> simp only [decide_eq_true_eq, decide_eq_false_iff_not] at hb2
  · have hlt : i < limbsN w := by omega
    have hg : (lmb (limbsN w) x).getD i 0 = lw x i := lmb_get hlt
    have h64 : lw x i < 18446744073709551616 := lw_lt x i
    refine sat_call tabOk Tryz.func70 rfl (by simp only [andP, and_true, true_and, Int.toNat_natCast, List.length_map, List.length_append, List.length_cons, List.length_nil, List.length_replicate, lmb_len]; omega) (OnesCount_call ((lmb (limbsN w) x).getD i 0) (by rw [hg]; exact h64)) (.refl _) rfl ⟨_, rfl⟩ (by rintro r o rfl; rfl) ?_
    rintro r o rfl
    refine sat_stop tabOk Tryz.func70 rfl trivial ?_
    rw [hg, (ones64_eq h64).1]
    have hc := cnt_le x.testBit (64 * i)
    have hc2 := cnt_le (lw x i).testBit 64
    refine sat_le (ih (i + 1) (by omega) (by omega)) hC hCl ⟨⟨_, rfl, .of ?_⟩, ⟨_, rfl, .refl _⟩, ⟨_, rfl, .refl _⟩, ⟨_, rfl, .of (by rw [wrap_id (by omega) (by omega)]; rfl)⟩, trivial⟩ ⟨.refl _, trivial⟩ rfl rfl (Nat.le_of_ble_eq_true rfl)
    show vI .i64 (IntKind.i64.wrap (((cnt x.testBit (64 * i) : Nat) : Int) + ((cnt (lw x i).testBit 64 : Nat) : Int))) = _
    rw [wrap_id (by omega) (by omega), cnt_lw]
    rfl
  · obtain rfl : i = limbsN w := by omega
    refine sat_ret tabOk Tryz.func70 rfl trivial ?_
    rw [cnt_w hx]
    rfl
end Go.Proofs.YtclamogkchdkgaaGreatDoor
