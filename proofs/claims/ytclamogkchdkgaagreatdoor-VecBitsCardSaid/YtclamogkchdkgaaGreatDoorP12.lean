/- A part of the proof: L2. -/
import Derived.Test.YtclamogkchdkgaaGreatDoorP11
set_option linter.unusedVariables false
set_option linter.unusedSimpArgs false
namespace Go.Proofs.YtclamogkchdkgaaGreatDoor
open Go Ab
set_option maxRecDepth 100000
set_option linter.unusedVariables false
set_option linter.unusedSimpArgs false
set_option maxHeartbeats 400000

theorem of_call (op : List UInt8) (w x v y w' x' : Nat) (f : Int) (hb : ACall Tryz.prog 24 [vSL op, .d (vN w x), .d (vN v y)] [] (fun r o => r = tupOf [.d (vN w' x'), vI .i64 f])) : ACall Tryz.prog 32 [vSL op, .d (vN w x), .d (vN v y)] [] (fun r o => r = .d (vN w' x')) := by
  refine acall_enter Tryz.func32 rfl rfl (Nat.le_of_ble_eq_true rfl) fun C hC hCl => ?_
  refine sat_call tabOk Tryz.func32 rfl trivial hb (.refl _) rfl ⟨_, rfl⟩ (by rintro r o rfl; rfl) ?_
  rintro r o rfl
  exact sat_ret tabOk Tryz.func32 rfl trivial rfl
theorem not_lt {w x : Nat} (hx : x < 2 ^ w) : 2 ^ w - (x + 1) < 2 ^ w := by omega
theorem not_tb {w x i : Nat} (hx : x < 2 ^ w) (hi : i < w) : (2 ^ w - (x + 1)).testBit i = !x.testBit i := by
  rw [Nat.testBit_two_pow_sub_succ hx]
  simp [hi]
theorem decinc {w x : Nat} (hw : 0 < w) (hx : x < 2 ^ w) : ((x + 1) % 2 ^ w + (2 ^ w - (1 + 1)) + 1) % 2 ^ w = x := by
  have h2 : 2 ≤ 2 ^ w := by
    have := Nat.pow_le_pow_right (n := 2) (by decide) hw
    simpa using this
  rcases Nat.lt_or_ge (x + 1) (2 ^ w) with h | h
  · rw [Nat.mod_eq_of_lt h, show x + 1 + (2 ^ w - (1 + 1)) + 1 = x + 2 ^ w by omega, Nat.add_mod_right, Nat.mod_eq_of_lt hx]
  · have e : x + 1 = 2 ^ w := by omega
    rw [e, Nat.mod_self, Nat.mod_eq_of_lt (by omega)]
    omega
theorem demorgan {w x y : Nat} (hx : x < 2 ^ w) (hy : y < 2 ^ w) : (2 ^ w - (x + 1)) ||| (2 ^ w - (y + 1)) = 2 ^ w - ((x &&& y) + 1) := by
  apply Nat.eq_of_testBit_eq
  intro i
  rw [Nat.testBit_or, Nat.testBit_two_pow_sub_succ hx, Nat.testBit_two_pow_sub_succ hy, Nat.testBit_two_pow_sub_succ (Nat.lt_of_le_of_lt Nat.and_le_left hx), Nat.testBit_and]
  by_cases hi : i < w <;> simp [hi]

theorem VecBits_law (w v i : Int) (l k : List Nat) (hl : lims l) (hk : lims k) (hll : l.length ≤ maxLen) (hkl : k.length ≤ maxLen) : ACall Tryz.prog 7 [.d (eV w l), .d (eV v k), vI .i64 i] [] (fun r o => r = vB true) := by
  refine acall_enter Tryz.func7 rfl rfl (Nat.le_of_ble_eq_true rfl) fun C hC hCl => ?_
  refine sat_call tabOk Tryz.func7 rfl trivial shown_call (.refl _) rfl ⟨_, rfl⟩ (by rintro r o rfl; rfl) ?_
  rintro r o rfl
  refine sat_call tabOk Tryz.func7 rfl trivial (rRight_call w l hl hll) (.refl _) rfl ⟨_, rfl⟩ (by rintro r o rfl; rfl) ?_
  rintro r o rfl
  refine sat_branch tabOk Tryz.func7 rfl trivial (fun h1 => ?_) (fun h1 => ?_)
  · refine sat_branch tabOk Tryz.func7 rfl trivial (fun _ => ?_) (fun h => by cases h)
    refine sat_branch tabOk Tryz.func7 rfl trivial (fun _ => ?_) (fun h => by cases h)
    refine sat_branch tabOk Tryz.func7 rfl trivial (fun _ => ?_) (fun h => by cases h)
    refine sat_branch tabOk Tryz.func7 rfl trivial (fun _ => ?_) (fun h => by cases h)
    exact sat_ret tabOk Tryz.func7 rfl trivial rfl
  refine sat_call tabOk Tryz.func7 rfl trivial (rRight_call v k hk hkl) (.refl _) rfl ⟨_, rfl⟩ (by rintro r o rfl; rfl) ?_
  rintro r o rfl
  refine sat_branch tabOk Tryz.func7 rfl trivial (fun h2 => ?_) (fun h2 => ?_)
  · refine sat_branch tabOk Tryz.func7 rfl trivial (fun _ => ?_) (fun h => by cases h)
    refine sat_branch tabOk Tryz.func7 rfl trivial (fun _ => ?_) (fun h => by cases h)
    refine sat_branch tabOk Tryz.func7 rfl trivial (fun _ => ?_) (fun h => by cases h)
    exact sat_ret tabOk Tryz.func7 rfl trivial rfl
  refine sat_branch tabOk Tryz.func7 rfl trivial (fun h3 => ?_) (fun h3 => ?_)
  · refine sat_branch tabOk Tryz.func7 rfl trivial (fun _ => ?_) (fun h => by cases h)
    refine sat_branch tabOk Tryz.func7 rfl trivial (fun _ => ?_) (fun h => by cases h)
    exact sat_ret tabOk Tryz.func7 rfl trivial rfl
  refine sat_branch tabOk Tryz.func7 rfl trivial (fun h4 => ?_) (fun h4 => ?_)
  · refine sat_branch tabOk Tryz.func7 rfl trivial (fun _ => ?_) (fun h => by cases h)
    exact sat_ret tabOk Tryz.func7 rfl trivial rfl
  refine sat_branch tabOk Tryz.func7 rfl trivial (fun h5 => ?_) (fun h5 => ?_)
  · exact sat_ret tabOk Tryz.func7 rfl trivial rfl
  have r1 : rightV w l = true := by cases h : rightV w l with | true => rfl | false => rw [h] at h1; cases h1
  have r2 : rightV v k = true := by cases h : rightV v k with | true => rfl | false => rw [h] at h2; cases h2
  obtain ⟨n, x, rfl, n1, n2, hx, rfl⟩ := right_lmb hl r1
  obtain ⟨m, y, rfl, m1, m2, hy, rfl⟩ := right_lmb hk r2
  have h3 : ((n : Int) != (m : Int)) = false := h3
  have h4 : decide (i < 0) = false := h4
  have h5 : decide (i ≥ (n : Int)) = false := h5
  simp at h3 h4 h5
  obtain rfl : n = m := by omega
  obtain ⟨j, rfl⟩ : ∃ j : Nat, i = j := ⟨i.toNat, by omega⟩
  have hj : j < n := by omega
  have hxy : x &&& y < 2 ^ n := Nat.lt_of_le_of_lt Nat.and_le_left hx
  have hor : x ||| y < 2 ^ n := Nat.or_lt_two_pow hx hy
  have hxr : x ^^^ y < 2 ^ n := Nat.xor_lt_two_pow hx hy
  have p : 0 < 2 ^ n := Nat.two_pow_pos n
  have b1 : (2 ^ n - (x + 1)).testBit j = !x.testBit j := not_tb hx hj
  have b2 : (x &&& y).testBit j = (x.testBit j && y.testBit j) := Nat.testBit_and ..
  have b3 : (x ||| y).testBit j = (x.testBit j || y.testBit j) := Nat.testBit_or ..
  have b4 : (x ^^^ y).testBit j = (x.testBit j ^^ y.testBit j) := Nat.testBit_xor ..
  have l1 : (2 ^ n - (x + 1) + 1) % 2 ^ n < 2 ^ n := Nat.mod_lt _ p
  have l2 : 2 ^ n - ((x &&& y) + 1) < 2 ^ n := not_lt hxy
  have c1 := Un_fn sNot _ n x n _ rfl (turnedN_call n x hx (by omega) (by omega))
  have c2 := Un_fn sNot _ n y n _ rfl (turnedN_call n y hy (by omega) (by omega))
  have c3 := Un_cl sInc _ n x n _ rfl (inc_call n x (by omega) (by omega))
  have c4 := Un_cl sDec _ n ((x + 1) % 2 ^ n) n _ rfl (dec_call n _ (by omega) (by omega))
  rw [decinc (by omega) hx] at c4
  have c5 := Un_fn sNeg _ n x n _ rfl (neg_call n x hx (by omega) (by omega))
  rw [Nat.zero_add] at c5
  have c6 := Un_cl sInc _ n (2 ^ n - (x + 1)) n _ rfl (inc_call n _ (by omega) (by omega))
  have c7 := of_call sOr n (2 ^ n - (x + 1)) n (2 ^ n - (y + 1)) n _ 0 (Bin_fn sOr _ n _ _ n _ (by decide) rfl (orN_call n _ _ (not_lt hx) (not_lt hy) (by omega) (by omega)))
  rw [demorgan hx hy] at c7
  have c8 := of_call sAnd n x n y n _ 0 (Bin_fn sAnd _ n _ _ n _ (by decide) rfl (andN_call n x y hx (by omega) (by omega)))
  have c9 := Un_fn sNot _ n (x &&& y) n _ rfl (turnedN_call n _ hxy (by omega) (by omega))
  have c10 := of_call sOr n x n y n _ 0 (Bin_fn sOr _ n _ _ n _ (by decide) rfl (orN_call n x y hx hy (by omega) (by omega)))
  have c11 := of_call sXor n x n y n _ 0 (Bin_fn sXor _ n _ _ n _ (by decide) rfl (xorN_call n x y hx hy (by omega) (by omega)))
  generalize (2 ^ n - (x + 1) + 1) % 2 ^ n = gx at *
  generalize 2 ^ n - ((x &&& y) + 1) = dm at *
  generalize 2 ^ n - (x + 1) = nx at *
  generalize 2 ^ n - (y + 1) = ny at *
  generalize (x + 1) % 2 ^ n = ix at *
  generalize x &&& y = xay at *
  generalize x ||| y = xoy at *
  generalize x ^^^ y = xxy at *
  refine sat_call tabOk Tryz.func7 rfl trivial c1 (.refl _) rfl ⟨_, rfl⟩ (by rintro r o rfl; rfl) ?_
  rintro r o rfl
  refine sat_le (env' := [(2, vI .i64 j), (3, .ptr 0 0), (4, .ptr 1 0), (7, vB true), (54, tupOf [.d (vN n nx), vI .i64 0])]) (objs' := [some (bN n x), some (bN n y)]) ?_ hC hCl ⟨⟨_, rfl, .refl _⟩, ⟨_, rfl, .refl _⟩, ⟨_, rfl, .refl _⟩, ⟨_, rfl, .refl _⟩, ⟨_, rfl, .refl _⟩, trivial⟩ ⟨.refl _, .refl _, trivial⟩ rfl rfl (Nat.zero_le _)
  refine sat_call tabOk Tryz.func7 rfl trivial c2 (.refl _) rfl ⟨_, rfl⟩ (by rintro r o rfl; rfl) ?_
  rintro r o rfl
  refine sat_le (env' := [(2, vI .i64 j), (3, .ptr 0 0), (4, .ptr 1 0), (7, vB true), (8, .ptr 2 0), (59, tupOf [.d (vN n ny), vI .i64 0])]) (objs' := [some (bN n x), some (bN n y), some (bN n nx)]) ?_ hC hCl ⟨⟨_, rfl, .refl _⟩, ⟨_, rfl, .refl _⟩, ⟨_, rfl, .refl _⟩, ⟨_, rfl, .refl _⟩, ⟨_, rfl, .refl _⟩, ⟨_, rfl, .refl _⟩, trivial⟩ ⟨.refl _, .refl _, .refl _, trivial⟩ rfl rfl (Nat.zero_le _)
  refine sat_call tabOk Tryz.func7 rfl trivial c3 (.refl _) rfl ⟨_, rfl⟩ (by rintro r o rfl; rfl) ?_
  rintro r o rfl
  refine sat_le (env' := [(2, vI .i64 j), (3, .ptr 0 0), (4, .ptr 1 0), (7, vB true), (8, .ptr 2 0), (10, .ptr 3 0), (64, tupOf [.d (vN n ix), vI .i64 0])]) (objs' := [some (bN n x), some (bN n y), some (bN n nx), some (bN n ny)]) ?_ hC hCl ⟨⟨_, rfl, .refl _⟩, ⟨_, rfl, .refl _⟩, ⟨_, rfl, .refl _⟩, ⟨_, rfl, .refl _⟩, ⟨_, rfl, .refl _⟩, ⟨_, rfl, .refl _⟩, ⟨_, rfl, .refl _⟩, trivial⟩ ⟨.refl _, .refl _, .refl _, .refl _, trivial⟩ rfl rfl (Nat.zero_le _)
  refine sat_call tabOk Tryz.func7 rfl trivial c4 (.refl _) rfl ⟨_, rfl⟩ (by rintro r o rfl; rfl) ?_
  rintro r o rfl
  refine sat_le (env' := [(2, vI .i64 j), (3, .ptr 0 0), (4, .ptr 1 0), (7, vB true), (8, .ptr 2 0), (10, .ptr 3 0), (12, .ptr 4 0), (69, tupOf [.d (vN n x), vI .i64 0])]) (objs' := [some (bN n x), some (bN n y), some (bN n nx), some (bN n ny), some (bN n ix)]) ?_ hC hCl ⟨⟨_, rfl, .refl _⟩, ⟨_, rfl, .refl _⟩, ⟨_, rfl, .refl _⟩, ⟨_, rfl, .refl _⟩, ⟨_, rfl, .refl _⟩, ⟨_, rfl, .refl _⟩, ⟨_, rfl, .refl _⟩, ⟨_, rfl, .refl _⟩, trivial⟩ ⟨.refl _, .refl _, .refl _, .refl _, .refl _, trivial⟩ rfl rfl (Nat.zero_le _)
  refine sat_call tabOk Tryz.func7 rfl trivial c5 (.refl _) rfl ⟨_, rfl⟩ (by rintro r o rfl; rfl) ?_
  rintro r o rfl
  refine sat_le (env' := [(2, vI .i64 j), (3, .ptr 0 0), (4, .ptr 1 0), (7, vB true), (8, .ptr 2 0), (10, .ptr 3 0), (12, .ptr 4 0), (14, .ptr 5 0), (74, tupOf [.d (vN n gx), vI .i64 0])]) (objs' := [some (bN n x), some (bN n y), some (bN n nx), some (bN n ny), some (bN n ix), some (bN n x)]) ?_ hC hCl ⟨⟨_, rfl, .refl _⟩, ⟨_, rfl, .refl _⟩, ⟨_, rfl, .refl _⟩, ⟨_, rfl, .refl _⟩, ⟨_, rfl, .refl _⟩, ⟨_, rfl, .refl _⟩, ⟨_, rfl, .refl _⟩, ⟨_, rfl, .refl _⟩, ⟨_, rfl, .refl _⟩, trivial⟩ ⟨.refl _, .refl _, .refl _, .refl _, .refl _, .refl _, trivial⟩ rfl rfl (Nat.zero_le _)
  refine sat_call tabOk Tryz.func7 rfl trivial c6 (.refl _) rfl ⟨_, rfl⟩ (by rintro r o rfl; rfl) ?_
  rintro r o rfl
  refine sat_le (env' := [(2, vI .i64 j), (3, .ptr 0 0), (4, .ptr 1 0), (7, vB true), (8, .ptr 2 0), (10, .ptr 3 0), (12, .ptr 4 0), (14, .ptr 5 0), (16, .ptr 6 0), (79, tupOf [.d (vN n gx), vI .i64 0])]) (objs' := [some (bN n x), some (bN n y), some (bN n nx), some (bN n ny), some (bN n ix), some (bN n x), some (bN n gx)]) ?_ hC hCl ⟨⟨_, rfl, .refl _⟩, ⟨_, rfl, .refl _⟩, ⟨_, rfl, .refl _⟩, ⟨_, rfl, .refl _⟩, ⟨_, rfl, .refl _⟩, ⟨_, rfl, .refl _⟩, ⟨_, rfl, .refl _⟩, ⟨_, rfl, .refl _⟩, ⟨_, rfl, .refl _⟩, ⟨_, rfl, .refl _⟩, trivial⟩ ⟨.refl _, .refl _, .refl _, .refl _, .refl _, .refl _, .refl _, trivial⟩ rfl rfl (Nat.zero_le _)
  refine sat_call tabOk Tryz.func7 rfl trivial c7 (.refl _) rfl ⟨_, rfl⟩ (by rintro r o rfl; rfl) ?_
  rintro r o rfl
  refine sat_le (env' := [(2, vI .i64 j), (3, .ptr 0 0), (4, .ptr 1 0), (7, vB true), (8, .ptr 2 0), (10, .ptr 3 0), (12, .ptr 4 0), (14, .ptr 5 0), (16, .ptr 6 0), (18, .ptr 7 0), (84, .d (vN n dm))]) (objs' := [some (bN n x), some (bN n y), some (bN n nx), some (bN n ny), some (bN n ix), some (bN n x), some (bN n gx), some (bN n gx)]) ?_ hC hCl ⟨⟨_, rfl, .refl _⟩, ⟨_, rfl, .refl _⟩, ⟨_, rfl, .refl _⟩, ⟨_, rfl, .refl _⟩, ⟨_, rfl, .refl _⟩, ⟨_, rfl, .refl _⟩, ⟨_, rfl, .refl _⟩, ⟨_, rfl, .refl _⟩, ⟨_, rfl, .refl _⟩, ⟨_, rfl, .refl _⟩, ⟨_, rfl, .refl _⟩, trivial⟩ ⟨.refl _, .refl _, .refl _, .refl _, .refl _, .refl _, .refl _, .refl _, trivial⟩ rfl rfl (Nat.zero_le _)
  refine sat_call tabOk Tryz.func7 rfl trivial c8 (.refl _) rfl ⟨_, rfl⟩ (by rintro r o rfl; rfl) ?_
  rintro r o rfl
  refine sat_le (env' := [(2, vI .i64 j), (3, .ptr 0 0), (4, .ptr 1 0), (7, vB true), (8, .ptr 2 0), (10, .ptr 3 0), (12, .ptr 4 0), (14, .ptr 5 0), (16, .ptr 6 0), (18, .ptr 7 0), (20, .ptr 8 0), (88, .d (vN n xay))]) (objs' := [some (bN n x), some (bN n y), some (bN n nx), some (bN n ny), some (bN n ix), some (bN n x), some (bN n gx), some (bN n gx), some (bN n dm)]) ?_ hC hCl ⟨⟨_, rfl, .refl _⟩, ⟨_, rfl, .refl _⟩, ⟨_, rfl, .refl _⟩, ⟨_, rfl, .refl _⟩, ⟨_, rfl, .refl _⟩, ⟨_, rfl, .refl _⟩, ⟨_, rfl, .refl _⟩, ⟨_, rfl, .refl _⟩, ⟨_, rfl, .refl _⟩, ⟨_, rfl, .refl _⟩, ⟨_, rfl, .refl _⟩, ⟨_, rfl, .refl _⟩, trivial⟩ ⟨.refl _, .refl _, .refl _, .refl _, .refl _, .refl _, .refl _, .refl _, .refl _, trivial⟩ rfl rfl (Nat.zero_le _)
  refine sat_call tabOk Tryz.func7 rfl trivial c9 (.refl _) rfl ⟨_, rfl⟩ (by rintro r o rfl; rfl) ?_
  rintro r o rfl
  refine sat_le (env' := [(2, vI .i64 j), (3, .ptr 0 0), (4, .ptr 1 0), (7, vB true), (8, .ptr 2 0), (10, .ptr 3 0), (12, .ptr 4 0), (14, .ptr 5 0), (16, .ptr 6 0), (18, .ptr 7 0), (20, .ptr 8 0), (89, tupOf [.d (vN n dm), vI .i64 0])]) (objs' := [some (bN n x), some (bN n y), some (bN n nx), some (bN n ny), some (bN n ix), some (bN n x), some (bN n gx), some (bN n gx), some (bN n dm)]) ?_ hC hCl ⟨⟨_, rfl, .refl _⟩, ⟨_, rfl, .refl _⟩, ⟨_, rfl, .refl _⟩, ⟨_, rfl, .refl _⟩, ⟨_, rfl, .refl _⟩, ⟨_, rfl, .refl _⟩, ⟨_, rfl, .refl _⟩, ⟨_, rfl, .refl _⟩, ⟨_, rfl, .refl _⟩, ⟨_, rfl, .refl _⟩, ⟨_, rfl, .refl _⟩, ⟨_, rfl, .refl _⟩, trivial⟩ ⟨.refl _, .refl _, .refl _, .refl _, .refl _, .refl _, .refl _, .refl _, .refl _, trivial⟩ rfl rfl (Nat.zero_le _)
  refine sat_drawT 5 tabOk Tryz.func7 rfl rfl trivial (by kernel_rfl) ?_
  refine ds_call tabOk rfl trivial (BitN_call n x j (by omega)) (callFunc_run Tryz.func17 rfl rfl) (by rintro r o rfl; rfl) (.refl _) rfl rfl ⟨_, rfl⟩ ?_
  refine ds_done tabOk rfl trivial ?_
  refine sat_call tabOk Tryz.func7 rfl trivial (BitN_call n y j (by omega)) (.refl _) rfl ⟨_, rfl⟩ (by rintro r o rfl; rfl) ?_
  rintro r o rfl
  rw [bitI'_nat hj, bitI'_nat hj]
  cases hxj : x.testBit j <;> cases hyj : y.testBit j <;> rw [hxj, hyj] at b2 b3 b4 <;> rw [hxj] at b1
  · refine sat_branch tabOk Tryz.func7 rfl trivial (fun _ => ?_) (fun h => by cases h)
    refine sat_call tabOk Tryz.func7 rfl trivial (BitN_call n nx j (by omega)) (.refl _) rfl ⟨_, rfl⟩ (by rintro r o rfl; rfl) ?_
    rintro r o rfl
    rw [bitI'_nat hj, b1]
    refine sat_branch tabOk Tryz.func7 rfl trivial (fun _ => ?_) (fun h => by cases h)
    refine sat_call tabOk Tryz.func7 rfl trivial c8 (.refl _) rfl ⟨_, rfl⟩ (by rintro r o rfl; rfl) ?_
    rintro r o rfl
    refine sat_call tabOk Tryz.func7 rfl trivial (BitN_call n xay j (by omega)) (.refl _) rfl ⟨_, rfl⟩ (by rintro r o rfl; rfl) ?_
    rintro r o rfl
    rw [bitI'_nat hj, b2]
    refine sat_branch tabOk Tryz.func7 rfl trivial (fun h => by cases h) (fun _ => ?_)
    refine sat_branch tabOk Tryz.func7 rfl trivial (fun _ => ?_) (fun h => by cases h)
    refine sat_call tabOk Tryz.func7 rfl trivial c10 (.refl _) rfl ⟨_, rfl⟩ (by rintro r o rfl; rfl) ?_
    rintro r o rfl
    refine sat_call tabOk Tryz.func7 rfl trivial (BitN_call n xoy j (by omega)) (.refl _) rfl ⟨_, rfl⟩ (by rintro r o rfl; rfl) ?_
    rintro r o rfl
    rw [bitI'_nat hj, b3]
    refine sat_branch tabOk Tryz.func7 rfl trivial (fun h => by cases h) (fun _ => ?_)
    refine sat_branch tabOk Tryz.func7 rfl trivial (fun _ => ?_) (fun h => by cases h)
    refine sat_call tabOk Tryz.func7 rfl trivial c11 (.refl _) rfl ⟨_, rfl⟩ (by rintro r o rfl; rfl) ?_
    rintro r o rfl
    refine sat_call tabOk Tryz.func7 rfl trivial (BitN_call n xxy j (by omega)) (.refl _) rfl ⟨_, rfl⟩ (by rintro r o rfl; rfl) ?_
    rintro r o rfl
    rw [bitI'_nat hj, b4]
    refine sat_branch tabOk Tryz.func7 rfl trivial (fun _ => ?_) (fun h => by cases h)
    refine sat_call tabOk Tryz.func7 rfl trivial (rSameN_call n x n x hx hx (by omega)) (.refl _) rfl ⟨_, rfl⟩ (by rintro r o rfl; rfl) ?_
    rintro r o rfl
    rw [decide_eq_true (rfl : n = n), decide_eq_true (rfl : x = x)]
    refine sat_branch tabOk Tryz.func7 rfl trivial (fun _ => ?_) (fun h => by cases h)
    refine sat_call tabOk Tryz.func7 rfl trivial (rSameN_call n gx n gx l1 l1 (by omega)) (.refl _) rfl ⟨_, rfl⟩ (by rintro r o rfl; rfl) ?_
    rintro r o rfl
    rw [decide_eq_true (rfl : n = n), decide_eq_true (rfl : gx = gx)]
    refine sat_branch tabOk Tryz.func7 rfl trivial (fun _ => ?_) (fun h => by cases h)
    refine sat_call tabOk Tryz.func7 rfl trivial (rSameN_call n dm n dm l2 l2 (by omega)) (.refl _) rfl ⟨_, rfl⟩ (by rintro r o rfl; rfl) ?_
    rintro r o rfl
    refine sat_ret tabOk Tryz.func7 rfl trivial ?_
    rw [decide_eq_true (rfl : n = n), decide_eq_true (rfl : dm = dm)]
    rfl
  · refine sat_branch tabOk Tryz.func7 rfl trivial (fun _ => ?_) (fun h => by cases h)
    refine sat_call tabOk Tryz.func7 rfl trivial (BitN_call n nx j (by omega)) (.refl _) rfl ⟨_, rfl⟩ (by rintro r o rfl; rfl) ?_
    rintro r o rfl
    rw [bitI'_nat hj, b1]
    refine sat_branch tabOk Tryz.func7 rfl trivial (fun _ => ?_) (fun h => by cases h)
    refine sat_call tabOk Tryz.func7 rfl trivial c8 (.refl _) rfl ⟨_, rfl⟩ (by rintro r o rfl; rfl) ?_
    rintro r o rfl
    refine sat_call tabOk Tryz.func7 rfl trivial (BitN_call n xay j (by omega)) (.refl _) rfl ⟨_, rfl⟩ (by rintro r o rfl; rfl) ?_
    rintro r o rfl
    rw [bitI'_nat hj, b2]
    refine sat_branch tabOk Tryz.func7 rfl trivial (fun h => by cases h) (fun _ => ?_)
    refine sat_branch tabOk Tryz.func7 rfl trivial (fun _ => ?_) (fun h => by cases h)
    refine sat_call tabOk Tryz.func7 rfl trivial c10 (.refl _) rfl ⟨_, rfl⟩ (by rintro r o rfl; rfl) ?_
    rintro r o rfl
    refine sat_call tabOk Tryz.func7 rfl trivial (BitN_call n xoy j (by omega)) (.refl _) rfl ⟨_, rfl⟩ (by rintro r o rfl; rfl) ?_
    rintro r o rfl
    rw [bitI'_nat hj, b3]
    refine sat_branch tabOk Tryz.func7 rfl trivial (fun h => by cases h) (fun _ => ?_)
    refine sat_branch tabOk Tryz.func7 rfl trivial (fun _ => ?_) (fun h => by cases h)
    refine sat_call tabOk Tryz.func7 rfl trivial c11 (.refl _) rfl ⟨_, rfl⟩ (by rintro r o rfl; rfl) ?_
    rintro r o rfl
    refine sat_call tabOk Tryz.func7 rfl trivial (BitN_call n xxy j (by omega)) (.refl _) rfl ⟨_, rfl⟩ (by rintro r o rfl; rfl) ?_
    rintro r o rfl
    rw [bitI'_nat hj, b4]
    refine sat_branch tabOk Tryz.func7 rfl trivial (fun _ => ?_) (fun h => by cases h)
    refine sat_call tabOk Tryz.func7 rfl trivial (rSameN_call n x n x hx hx (by omega)) (.refl _) rfl ⟨_, rfl⟩ (by rintro r o rfl; rfl) ?_
    rintro r o rfl
    rw [decide_eq_true (rfl : n = n), decide_eq_true (rfl : x = x)]
    refine sat_branch tabOk Tryz.func7 rfl trivial (fun _ => ?_) (fun h => by cases h)
    refine sat_call tabOk Tryz.func7 rfl trivial (rSameN_call n gx n gx l1 l1 (by omega)) (.refl _) rfl ⟨_, rfl⟩ (by rintro r o rfl; rfl) ?_
    rintro r o rfl
    rw [decide_eq_true (rfl : n = n), decide_eq_true (rfl : gx = gx)]
    refine sat_branch tabOk Tryz.func7 rfl trivial (fun _ => ?_) (fun h => by cases h)
    refine sat_call tabOk Tryz.func7 rfl trivial (rSameN_call n dm n dm l2 l2 (by omega)) (.refl _) rfl ⟨_, rfl⟩ (by rintro r o rfl; rfl) ?_
    rintro r o rfl
    refine sat_ret tabOk Tryz.func7 rfl trivial ?_
    rw [decide_eq_true (rfl : n = n), decide_eq_true (rfl : dm = dm)]
    rfl
  · refine sat_branch tabOk Tryz.func7 rfl trivial (fun _ => ?_) (fun h => by cases h)
    refine sat_call tabOk Tryz.func7 rfl trivial (BitN_call n nx j (by omega)) (.refl _) rfl ⟨_, rfl⟩ (by rintro r o rfl; rfl) ?_
    rintro r o rfl
    rw [bitI'_nat hj, b1]
    refine sat_branch tabOk Tryz.func7 rfl trivial (fun _ => ?_) (fun h => by cases h)
    refine sat_call tabOk Tryz.func7 rfl trivial c8 (.refl _) rfl ⟨_, rfl⟩ (by rintro r o rfl; rfl) ?_
    rintro r o rfl
    refine sat_call tabOk Tryz.func7 rfl trivial (BitN_call n xay j (by omega)) (.refl _) rfl ⟨_, rfl⟩ (by rintro r o rfl; rfl) ?_
    rintro r o rfl
    rw [bitI'_nat hj, b2]
    refine sat_branch tabOk Tryz.func7 rfl trivial (fun _ => ?_) (fun h => by cases h)
    refine sat_branch tabOk Tryz.func7 rfl trivial (fun _ => ?_) (fun h => by cases h)
    refine sat_call tabOk Tryz.func7 rfl trivial c10 (.refl _) rfl ⟨_, rfl⟩ (by rintro r o rfl; rfl) ?_
    rintro r o rfl
    refine sat_call tabOk Tryz.func7 rfl trivial (BitN_call n xoy j (by omega)) (.refl _) rfl ⟨_, rfl⟩ (by rintro r o rfl; rfl) ?_
    rintro r o rfl
    rw [bitI'_nat hj, b3]
    refine sat_branch tabOk Tryz.func7 rfl trivial (fun _ => ?_) (fun h => by cases h)
    refine sat_branch tabOk Tryz.func7 rfl trivial (fun _ => ?_) (fun h => by cases h)
    refine sat_call tabOk Tryz.func7 rfl trivial c11 (.refl _) rfl ⟨_, rfl⟩ (by rintro r o rfl; rfl) ?_
    rintro r o rfl
    refine sat_call tabOk Tryz.func7 rfl trivial (BitN_call n xxy j (by omega)) (.refl _) rfl ⟨_, rfl⟩ (by rintro r o rfl; rfl) ?_
    rintro r o rfl
    rw [bitI'_nat hj, b4]
    refine sat_branch tabOk Tryz.func7 rfl trivial (fun _ => ?_) (fun h => by cases h)
    refine sat_call tabOk Tryz.func7 rfl trivial (rSameN_call n x n x hx hx (by omega)) (.refl _) rfl ⟨_, rfl⟩ (by rintro r o rfl; rfl) ?_
    rintro r o rfl
    rw [decide_eq_true (rfl : n = n), decide_eq_true (rfl : x = x)]
    refine sat_branch tabOk Tryz.func7 rfl trivial (fun _ => ?_) (fun h => by cases h)
    refine sat_call tabOk Tryz.func7 rfl trivial (rSameN_call n gx n gx l1 l1 (by omega)) (.refl _) rfl ⟨_, rfl⟩ (by rintro r o rfl; rfl) ?_
    rintro r o rfl
    rw [decide_eq_true (rfl : n = n), decide_eq_true (rfl : gx = gx)]
    refine sat_branch tabOk Tryz.func7 rfl trivial (fun _ => ?_) (fun h => by cases h)
    refine sat_call tabOk Tryz.func7 rfl trivial (rSameN_call n dm n dm l2 l2 (by omega)) (.refl _) rfl ⟨_, rfl⟩ (by rintro r o rfl; rfl) ?_
    rintro r o rfl
    refine sat_ret tabOk Tryz.func7 rfl trivial ?_
    rw [decide_eq_true (rfl : n = n), decide_eq_true (rfl : dm = dm)]
    rfl
  · refine sat_branch tabOk Tryz.func7 rfl trivial (fun _ => ?_) (fun h => by cases h)
    refine sat_call tabOk Tryz.func7 rfl trivial (BitN_call n nx j (by omega)) (.refl _) rfl ⟨_, rfl⟩ (by rintro r o rfl; rfl) ?_
    rintro r o rfl
    rw [bitI'_nat hj, b1]
    refine sat_branch tabOk Tryz.func7 rfl trivial (fun _ => ?_) (fun h => by cases h)
    refine sat_call tabOk Tryz.func7 rfl trivial c8 (.refl _) rfl ⟨_, rfl⟩ (by rintro r o rfl; rfl) ?_
    rintro r o rfl
    refine sat_call tabOk Tryz.func7 rfl trivial (BitN_call n xay j (by omega)) (.refl _) rfl ⟨_, rfl⟩ (by rintro r o rfl; rfl) ?_
    rintro r o rfl
    rw [bitI'_nat hj, b2]
    refine sat_branch tabOk Tryz.func7 rfl trivial (fun _ => ?_) (fun h => by cases h)
    refine sat_branch tabOk Tryz.func7 rfl trivial (fun _ => ?_) (fun h => by cases h)
    refine sat_call tabOk Tryz.func7 rfl trivial c10 (.refl _) rfl ⟨_, rfl⟩ (by rintro r o rfl; rfl) ?_
    rintro r o rfl
    refine sat_call tabOk Tryz.func7 rfl trivial (BitN_call n xoy j (by omega)) (.refl _) rfl ⟨_, rfl⟩ (by rintro r o rfl; rfl) ?_
    rintro r o rfl
    rw [bitI'_nat hj, b3]
    refine sat_branch tabOk Tryz.func7 rfl trivial (fun _ => ?_) (fun h => by cases h)
    refine sat_branch tabOk Tryz.func7 rfl trivial (fun _ => ?_) (fun h => by cases h)
    refine sat_call tabOk Tryz.func7 rfl trivial c11 (.refl _) rfl ⟨_, rfl⟩ (by rintro r o rfl; rfl) ?_
    rintro r o rfl
    refine sat_call tabOk Tryz.func7 rfl trivial (BitN_call n xxy j (by omega)) (.refl _) rfl ⟨_, rfl⟩ (by rintro r o rfl; rfl) ?_
    rintro r o rfl
    rw [bitI'_nat hj, b4]
    refine sat_branch tabOk Tryz.func7 rfl trivial (fun _ => ?_) (fun h => by cases h)
    refine sat_call tabOk Tryz.func7 rfl trivial (rSameN_call n x n x hx hx (by omega)) (.refl _) rfl ⟨_, rfl⟩ (by rintro r o rfl; rfl) ?_
    rintro r o rfl
    rw [decide_eq_true (rfl : n = n), decide_eq_true (rfl : x = x)]
    refine sat_branch tabOk Tryz.func7 rfl trivial (fun _ => ?_) (fun h => by cases h)
    refine sat_call tabOk Tryz.func7 rfl trivial (rSameN_call n gx n gx l1 l1 (by omega)) (.refl _) rfl ⟨_, rfl⟩ (by rintro r o rfl; rfl) ?_
    rintro r o rfl
    rw [decide_eq_true (rfl : n = n), decide_eq_true (rfl : gx = gx)]
    refine sat_branch tabOk Tryz.func7 rfl trivial (fun _ => ?_) (fun h => by cases h)
    refine sat_call tabOk Tryz.func7 rfl trivial (rSameN_call n dm n dm l2 l2 (by omega)) (.refl _) rfl ⟨_, rfl⟩ (by rintro r o rfl; rfl) ?_
    rintro r o rfl
    refine sat_ret tabOk Tryz.func7 rfl trivial ?_
    rw [decide_eq_true (rfl : n = n), decide_eq_true (rfl : dm = dm)]
    rfl
end Go.Proofs.YtclamogkchdkgaaGreatDoor
