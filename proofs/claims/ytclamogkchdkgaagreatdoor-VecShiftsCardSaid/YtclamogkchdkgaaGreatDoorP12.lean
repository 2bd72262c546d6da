/- A part of the proof: L2, L3. -/
import Derived.Test.YtclamogkchdkgaaGreatDoorP11
set_option linter.unusedVariables false
set_option linter.unusedSimpArgs false
namespace Go.Proofs.YtclamogkchdkgaaGreatDoor
open Go Ab
set_option maxRecDepth 100000
set_option linter.unusedVariables false
set_option linter.unusedSimpArgs false
set_option maxHeartbeats 400000

theorem of_call (op : List UInt8) (w x v y w' x' : Nat) (f : Int) (hb : ACall Tryz.prog 24 [vSL op, .d (vN w x), .d (vN v y)] [] (fun r o => r = tupOf [.d (vN w' x'), vI .i64 f])) : ACall Tryz.prog 32 [vSL op, .d (vN w x), .d (vN v y)] [] (fun r o => r = .d (vN w' x')) := by
  refine acall_enter Tryz.func32 rfl rfl (Nat.le_of_ble_eq_true rfl) fun C hC hCl => ?_
  refine sat_call tabOk Tryz.func32 rfl trivial hb (.refl _) rfl ⟨_, rfl⟩ (by rintro r o rfl; rfl) ?_
  rintro r o rfl
  exact sat_ret tabOk Tryz.func32 rfl trivial rfl
theorem not_lt {w x : Nat} (hx : x < 2 ^ w) : 2 ^ w - (x + 1) < 2 ^ w := by omega
theorem not_tb {w x i : Nat} (hx : x < 2 ^ w) (hi : i < w) : (2 ^ w - (x + 1)).testBit i = !x.testBit i := by
  rw [Nat.testBit_two_pow_sub_succ hx]
  simp [hi]
theorem decinc {w x : Nat} (hw : 0 < w) (hx : x < 2 ^ w) : ((x + 1) % 2 ^ w + (2 ^ w - (1 + 1)) + 1) % 2 ^ w = x := by
  have h2 : 2 ≤ 2 ^ w := by
    have := Nat.pow_le_pow_right (n := 2) (by decide) hw
    simpa using this
  rcases Nat.lt_or_ge (x + 1) (2 ^ w) with h | h
  · rw [Nat.mod_eq_of_lt h, show x + 1 + (2 ^ w - (1 + 1)) + 1 = x + 2 ^ w by omega, Nat.add_mod_right, Nat.mod_eq_of_lt hx]
  · have e : x + 1 = 2 ^ w := by omega
    rw [e, Nat.mod_self, Nat.mod_eq_of_lt (by omega)]
    omega
theorem demorgan {w x y : Nat} (hx : x < 2 ^ w) (hy : y < 2 ^ w) : (2 ^ w - (x + 1)) ||| (2 ^ w - (y + 1)) = 2 ^ w - ((x &&& y) + 1) := by
  apply Nat.eq_of_testBit_eq
  intro i
  rw [Nat.testBit_or, Nat.testBit_two_pow_sub_succ hx, Nat.testBit_two_pow_sub_succ hy, Nat.testBit_two_pow_sub_succ (Nat.lt_of_le_of_lt Nat.and_le_left hx), Nat.testBit_and]
  by_cases hi : i < w <;> simp [hi]

theorem VecBits_law (w v i : Int) (l k : List Nat) (hl : lims l) (hk : lims k) (hll : l.length ≤ maxLen) (hkl : k.length ≤ maxLen) : ACall Tryz.prog 7 [.d (eV w l), .d (eV v k), vI .i64 i] [] (fun r o => r = vB true) := by
  refine acall_enter Tryz.func7 rfl rfl (Nat.le_of_ble_eq_true rfl) fun C hC hCl => ?_
  refine sat_call tabOk Tryz.func7 rfl trivial shown_call (.refl _) rfl ⟨_, rfl⟩ (by rintro r o rfl; rfl) ?_
  rintro r o rfl
  refine sat_call tabOk Tryz.func7 rfl trivial (rRight_call w l hl hll) (.refl _) rfl ⟨_, rfl⟩ (by rintro r o rfl; rfl) ?_
  rintro r o rfl
  refine sat_branch tabOk Tryz.func7 rfl trivial (fun h1 => ?_) (fun h1 => ?_)
  · refine sat_branch tabOk Tryz.func7 rfl trivial (fun _ => ?_) (fun h => by cases h)
    refine sat_branch tabOk Tryz.func7 rfl trivial (fun _ => ?_) (fun h => by cases h)
    refine sat_branch tabOk Tryz.func7 rfl trivial (fun _ => ?_) (fun h => by cases h)
    refine sat_branch tabOk Tryz.func7 rfl trivial (fun _ => ?_) (fun h => by cases h)
    exact sat_ret tabOk Tryz.func7 rfl trivial rfl
  refine sat_call tabOk Tryz.func7 rfl trivial (rRight_call v k hk hkl) (.refl _) rfl ⟨_, rfl⟩ (by rintro r o rfl; rfl) ?_
  rintro r o rfl
  refine sat_branch tabOk Tryz.func7 rfl trivial (fun h2 => ?_) (fun h2 => ?_)
  · refine sat_branch tabOk Tryz.func7 rfl trivial (fun _ => ?_) (fun h => by cases h)
    refine sat_branch tabOk Tryz.func7 rfl trivial (fun _ => ?_) (fun h => by cases h)
    refine sat_branch tabOk Tryz.func7 rfl trivial (fun _ => ?_) (fun h => by cases h)
    exact sat_ret tabOk Tryz.func7 rfl trivial rfl
  refine sat_branch tabOk Tryz.func7 rfl trivial (fun h3 => ?_) (fun h3 => ?_)
  · refine sat_branch tabOk Tryz.func7 rfl trivial (fun _ => ?_) (fun h => by cases h)
    refine sat_branch tabOk Tryz.func7 rfl trivial (fun _ => ?_) (fun h => by cases h)
    exact sat_ret tabOk Tryz.func7 rfl trivial rfl
  refine sat_branch tabOk Tryz.func7 rfl trivial (fun h4 => ?_) (fun h4 => ?_)
  · refine sat_branch tabOk Tryz.func7 rfl trivial (fun _ => ?_) (fun h => by cases h)
    exact sat_ret tabOk Tryz.func7 rfl trivial rfl
  refine sat_branch tabOk Tryz.func7 rfl trivial (fun h5 => ?_) (fun h5 => ?_)
  · exact sat_ret tabOk Tryz.func7 rfl trivial rfl
  have r1 : rightV w l = true := by cases h : rightV w l with | true => rfl | false => rw [h] at h1; cases h1
  have r2 : rightV v k = true := by cases h : rightV v k with | true => rfl | false => rw [h] at h2; cases h2
  obtain ⟨n, x, rfl, n1, n2, hx, rfl⟩ := right_lmb hl r1
  obtain ⟨m, y, rfl, m1, m2, hy, rfl⟩ := right_lmb hk r2
  have h3 : ((n : Int) != (m : Int)) = false := h3
  have h4 : decide (i < 0) = false := h4
  have h5 : decide (i ≥ (n : Int)) = false := h5
  simp at h3 h4 h5
  obtain rfl : n = m := by omega
  obtain ⟨j, rfl⟩ : ∃ j : Nat, i = j := ⟨i.toNat, by omega⟩
  have hj : j < n := by omega
  have hxy : x &&& y < 2 ^ n := Nat.lt_of_le_of_lt Nat.and_le_left hx
  have hor : x ||| y < 2 ^ n := Nat.or_lt_two_pow hx hy
  have hxr : x ^^^ y < 2 ^ n := Nat.xor_lt_two_pow hx hy
  have p : 0 < 2 ^ n := Nat.two_pow_pos n
  have b1 : (2 ^ n - (x + 1)).testBit j = !x.testBit j := not_tb hx hj
  have b2 : (x &&& y).testBit j = (x.testBit j && y.testBit j) := Nat.testBit_and ..
  have b3 : (x ||| y).testBit j = (x.testBit j || y.testBit j) := Nat.testBit_or ..
  have b4 : (x ^^^ y).testBit j = (x.testBit j ^^ y.testBit j) := Nat.testBit_xor ..
  have l1 : (2 ^ n - (x + 1) + 1) % 2 ^ n < 2 ^ n := Nat.mod_lt _ p
  have l2 : 2 ^ n - ((x &&& y) + 1) < 2 ^ n := not_lt hxy
  have c1 := Un_fn sNot _ n x n _ rfl (turnedN_call n x hx (by omega) (by omega))
  have c2 := Un_fn sNot _ n y n _ rfl (turnedN_call n y hy (by omega) (by omega))
  have c3 := Un_cl sInc _ n x n _ rfl (inc_call n x (by omega) (by omega))
  have c4 := Un_cl sDec _ n ((x + 1) % 2 ^ n) n _ rfl (dec_call n _ (by omega) (by omega))
  rw [decinc (by omega) hx] at c4
  have c5 := Un_fn sNeg _ n x n _ rfl (neg_call n x hx (by omega) (by omega))
  rw [Nat.zero_add] at c5
  have c6 := Un_cl sInc _ n (2 ^ n - (x + 1)) n _ rfl (inc_call n _ (by omega) (by omega))
  have c7 := of_call sOr n (2 ^ n - (x + 1)) n (2 ^ n - (y + 1)) n _ 0 (Bin_fn sOr _ n _ _ n _ (by decide) rfl (orN_call n _ _ (not_lt hx) (not_lt hy) (by omega) (by omega)))
  rw [demorgan hx hy] at c7
  have c8 := of_call sAnd n x n y n _ 0 (Bin_fn sAnd _ n _ _ n _ (by decide) rfl (andN_call n x y hx (by omega) (by omega)))
  have c9 := Un_fn sNot _ n (x &&& y) n _ rfl (turnedN_call n _ hxy (by omega) (by omega))
  have c10 := of_call sOr n x n y n _ 0 (Bin_fn sOr _ n _ _ n _ (by decide) rfl (orN_call n x y hx hy (by omega) (by omega)))
  have c11 := of_call sXor n x n y n _ 0 (Bin_fn sXor _ n _ _ n _ (by decide) rfl (xorN_call n x y hx hy (by omega) (by omega)))
  generalize (2 ^ n - (x + 1) + 1) % 2 ^ n = gx at *
  generalize 2 ^ n - ((x &&& y) + 1) = dm at *
  generalize 2 ^ n - (x + 1) = nx at *
  generalize 2 ^ n - (y + 1) = ny at *
  generalize (x + 1) % 2 ^ n = ix at *
  generalize x &&& y = xay at *
  generalize x ||| y = xoy at *
  generalize x ^^^ y = xxy at *
  refine sat_call tabOk Tryz.func7 rfl trivial c1 (.refl _) rfl ⟨_, rfl⟩ (by rintro r o rfl; rfl) ?_
  rintro r o rfl
  refine sat_le (env' := [(2, vI .i64 j), (3, .ptr 0 0), (4, .ptr 1 0), (7, vB true), (54, tupOf [.d (vN n nx), vI .i64 0])]) (objs' := [some (bN n x), some (bN n y)]) ?_ hC hCl ⟨⟨_, rfl, .refl _⟩, ⟨_, rfl, .refl _⟩, ⟨_, rfl, .refl _⟩, ⟨_, rfl, .refl _⟩, ⟨_, rfl, .refl _⟩, trivial⟩ ⟨.refl _, .refl _, trivial⟩ rfl rfl (Nat.zero_le _)
  refine sat_call tabOk Tryz.func7 rfl trivial c2 (.refl _) rfl ⟨_, rfl⟩ (by rintro r o rfl; rfl) ?_
  rintro r o rfl
  refine sat_le (env' := [(2, vI .i64 j), (3, .ptr 0 0), (4, .ptr 1 0), (7, vB true), (8, .ptr 2 0), (59, tupOf [.d (vN n ny), vI .i64 0])]) (objs' := [some (bN n x), some (bN n y), some (bN n nx)]) ?_ hC hCl ⟨⟨_, rfl, .refl _⟩, ⟨_, rfl, .refl _⟩, ⟨_, rfl, .refl _⟩, ⟨_, rfl, .refl _⟩, ⟨_, rfl, .refl _⟩, ⟨_, rfl, .refl _⟩, trivial⟩ ⟨.refl _, .refl _, .refl _, trivial⟩ rfl rfl (Nat.zero_le _)
  refine sat_call tabOk Tryz.func7 rfl trivial c3 (.refl _) rfl ⟨_, rfl⟩ (by rintro r o rfl; rfl) ?_
  rintro r o rfl
  refine sat_le (env' := [(2, vI .i64 j), (3, .ptr 0 0), (4, .ptr 1 0), (7, vB true), (8, .ptr 2 0), (10, .ptr 3 0), (64, tupOf [.d (vN n ix), vI .i64 0])]) (objs' := [some (bN n x), some (bN n y), some (bN n nx), some (bN n ny)]) ?_ hC hCl ⟨⟨_, rfl, .refl _⟩, ⟨_, rfl, .refl _⟩, ⟨_, rfl, .refl _⟩, ⟨_, rfl, .refl _⟩, ⟨_, rfl, .refl _⟩, ⟨_, rfl, .refl _⟩, ⟨_, rfl, .refl _⟩, trivial⟩ ⟨.refl _, .refl _, .refl _, .refl _, trivial⟩ rfl rfl (Nat.zero_le _)
  refine sat_call tabOk Tryz.func7 rfl trivial c4 (.refl _) rfl ⟨_, rfl⟩ (by rintro r o rfl; rfl) ?_
  rintro r o rfl
  refine sat_le (env' := [(2, vI .i64 j), (3, .ptr 0 0), (4, .ptr 1 0), (7, vB true), (8, .ptr 2 0), (10, .ptr 3 0), (12, .ptr 4 0), (69, tupOf [.d (vN n x), vI .i64 0])]) (objs' := [some (bN n x), some (bN n y), some (bN n nx), some (bN n ny), some (bN n ix)]) ?_ hC hCl ⟨⟨_, rfl, .refl _⟩, ⟨_, rfl, .refl _⟩, ⟨_, rfl, .refl _⟩, ⟨_, rfl, .refl _⟩, ⟨_, rfl, .refl _⟩, ⟨_, rfl, .refl _⟩, ⟨_, rfl, .refl _⟩, ⟨_, rfl, .refl _⟩, trivial⟩ ⟨.refl _, .refl _, .refl _, .refl _, .refl _, trivial⟩ rfl rfl (Nat.zero_le _)
  refine sat_call tabOk Tryz.func7 rfl trivial c5 (.refl _) rfl ⟨_, rfl⟩ (by rintro r o rfl; rfl) ?_
  rintro r o rfl
  refine sat_le (env' := [(2, vI .i64 j), (3, .ptr 0 0), (4, .ptr 1 0), (7, vB true), (8, .ptr 2 0), (10, .ptr 3 0), (12, .ptr 4 0), (14, .ptr 5 0), (74, tupOf [.d (vN n gx), vI .i64 0])]) (objs' := [some (bN n x), some (bN n y), some (bN n nx), some (bN n ny), some (bN n ix), some (bN n x)]) ?_ hC hCl ⟨⟨_, rfl, .refl _⟩, ⟨_, rfl, .refl _⟩, ⟨_, rfl, .refl _⟩, ⟨_, rfl, .refl _⟩, ⟨_, rfl, .refl _⟩, ⟨_, rfl, .refl _⟩, ⟨_, rfl, .refl _⟩, ⟨_, rfl, .refl _⟩, ⟨_, rfl, .refl _⟩, trivial⟩ ⟨.refl _, .refl _, .refl _, .refl _, .refl _, .refl _, trivial⟩ rfl rfl (Nat.zero_le _)
  refine sat_call tabOk Tryz.func7 rfl trivial c6 (.refl _) rfl ⟨_, rfl⟩ (by rintro r o rfl; rfl) ?_
  rintro r o rfl
  refine sat_le (env' := [(2, vI .i64 j), (3, .ptr 0 0), (4, .ptr 1 0), (7, vB true), (8, .ptr 2 0), (10, .ptr 3 0), (12, .ptr 4 0), (14, .ptr 5 0), (16, .ptr 6 0), (79, tupOf [.d (vN n gx), vI .i64 0])]) (objs' := [some (bN n x), some (bN n y), some (bN n nx), some (bN n ny), some (bN n ix), some (bN n x), some (bN n gx)]) ?_ hC hCl ⟨⟨_, rfl, .refl _⟩, ⟨_, rfl, .refl _⟩, ⟨_, rfl, .refl _⟩, ⟨_, rfl, .refl _⟩, ⟨_, rfl, .refl _⟩, ⟨_, rfl, .refl _⟩, ⟨_, rfl, .refl _⟩, ⟨_, rfl, .refl _⟩, ⟨_, rfl, .refl _⟩, ⟨_, rfl, .refl _⟩, trivial⟩ ⟨.refl _, .refl _, .refl _, .refl _, .refl _, .refl _, .refl _, trivial⟩ rfl rfl (Nat.zero_le _)
  refine sat_call tabOk Tryz.func7 rfl trivial c7 (.refl _) rfl ⟨_, rfl⟩ (by rintro r o rfl; rfl) ?_
  rintro r o rfl
  refine sat_le (env' := [(2, vI .i64 j), (3, .ptr 0 0), (4, .ptr 1 0), (7, vB true), (8, .ptr 2 0), (10, .ptr 3 0), (12, .ptr 4 0), (14, .ptr 5 0), (16, .ptr 6 0), (18, .ptr 7 0), (84, .d (vN n dm))]) (objs' := [some (bN n x), some (bN n y), some (bN n nx), some (bN n ny), some (bN n ix), some (bN n x), some (bN n gx), some (bN n gx)]) ?_ hC hCl ⟨⟨_, rfl, .refl _⟩, ⟨_, rfl, .refl _⟩, ⟨_, rfl, .refl _⟩, ⟨_, rfl, .refl _⟩, ⟨_, rfl, .refl _⟩, ⟨_, rfl, .refl _⟩, ⟨_, rfl, .refl _⟩, ⟨_, rfl, .refl _⟩, ⟨_, rfl, .refl _⟩, ⟨_, rfl, .refl _⟩, ⟨_, rfl, .refl _⟩, trivial⟩ ⟨.refl _, .refl _, .refl _, .refl _, .refl _, .refl _, .refl _, .refl _, trivial⟩ rfl rfl (Nat.zero_le _)
  refine sat_call tabOk Tryz.func7 rfl trivial c8 (.refl _) rfl ⟨_, rfl⟩ (by rintro r o rfl; rfl) ?_
  rintro r o rfl
  refine sat_le (env' := [(2, vI .i64 j), (3, .ptr 0 0), (4, .ptr 1 0), (7, vB true), (8, .ptr 2 0), (10, .ptr 3 0), (12, .ptr 4 0), (14, .ptr 5 0), (16, .ptr 6 0), (18, .ptr 7 0), (20, .ptr 8 0), (88, .d (vN n xay))]) (objs' := [some (bN n x), some (bN n y), some (bN n nx), some (bN n ny), some (bN n ix), some (bN n x), some (bN n gx), some (bN n gx), some (bN n dm)]) ?_ hC hCl ⟨⟨_, rfl, .refl _⟩, ⟨_, rfl, .refl _⟩, ⟨_, rfl, .refl _⟩, ⟨_, rfl, .refl _⟩, ⟨_, rfl, .refl _⟩, ⟨_, rfl, .refl _⟩, ⟨_, rfl, .refl _⟩, ⟨_, rfl, .refl _⟩, ⟨_, rfl, .refl _⟩, ⟨_, rfl, .refl _⟩, ⟨_, rfl, .refl _⟩, ⟨_, rfl, .refl _⟩, trivial⟩ ⟨.refl _, .refl _, .refl _, .refl _, .refl _, .refl _, .refl _, .refl _, .refl _, trivial⟩ rfl rfl (Nat.zero_le _)
  refine sat_call tabOk Tryz.func7 rfl trivial c9 (.refl _) rfl ⟨_, rfl⟩ (by rintro r o rfl; rfl) ?_
  rintro r o rfl
  refine sat_le (env' := [(2, vI .i64 j), (3, .ptr 0 0), (4, .ptr 1 0), (7, vB true), (8, .ptr 2 0), (10, .ptr 3 0), (12, .ptr 4 0), (14, .ptr 5 0), (16, .ptr 6 0), (18, .ptr 7 0), (20, .ptr 8 0), (89, tupOf [.d (vN n dm), vI .i64 0])]) (objs' := [some (bN n x), some (bN n y), some (bN n nx), some (bN n ny), some (bN n ix), some (bN n x), some (bN n gx), some (bN n gx), some (bN n dm)]) ?_ hC hCl ⟨⟨_, rfl, .refl _⟩, ⟨_, rfl, .refl _⟩, ⟨_, rfl, .refl _⟩, ⟨_, rfl, .refl _⟩, ⟨_, rfl, .refl _⟩, ⟨_, rfl, .refl _⟩, ⟨_, rfl, .refl _⟩, ⟨_, rfl, .refl _⟩, ⟨_, rfl, .refl _⟩, ⟨_, rfl, .refl _⟩, ⟨_, rfl, .refl _⟩, ⟨_, rfl, .refl _⟩, trivial⟩ ⟨.refl _, .refl _, .refl _, .refl _, .refl _, .refl _, .refl _, .refl _, .refl _, trivial⟩ rfl rfl (Nat.zero_le _)
  refine sat_drawT 5 tabOk Tryz.func7 rfl rfl trivial (by kernel_rfl) ?_
  refine ds_call tabOk rfl trivial (BitN_call n x j (by omega)) (callFunc_run Tryz.func17 rfl rfl) (by rintro r o rfl; rfl) (.refl _) rfl rfl ⟨_, rfl⟩ ?_
  refine ds_done tabOk rfl trivial ?_
  refine sat_call tabOk Tryz.func7 rfl trivial (BitN_call n y j (by omega)) (.refl _) rfl ⟨_, rfl⟩ (by rintro r o rfl; rfl) ?_
  rintro r o rfl
  rw [bitI'_nat hj, bitI'_nat hj]
  cases hxj : x.testBit j <;> cases hyj : y.testBit j <;> rw [hxj, hyj] at b2 b3 b4 <;> rw [hxj] at b1
  · refine sat_branch tabOk Tryz.func7 rfl trivial (fun _ => ?_) (fun h => by cases h)
    refine sat_call tabOk Tryz.func7 rfl trivial (BitN_call n nx j (by omega)) (.refl _) rfl ⟨_, rfl⟩ (by rintro r o rfl; rfl) ?_
    rintro r o rfl
    rw [bitI'_nat hj, b1]
    refine sat_branch tabOk Tryz.func7 rfl trivial (fun _ => ?_) (fun h => by cases h)
    refine sat_call tabOk Tryz.func7 rfl trivial c8 (.refl _) rfl ⟨_, rfl⟩ (by rintro r o rfl; rfl) ?_
    rintro r o rfl
    refine sat_call tabOk Tryz.func7 rfl trivial (BitN_call n xay j (by omega)) (.refl _) rfl ⟨_, rfl⟩ (by rintro r o rfl; rfl) ?_
    rintro r o rfl
    rw [bitI'_nat hj, b2]
    refine sat_branch tabOk Tryz.func7 rfl trivial (fun h => by cases h) (fun _ => ?_)
    refine sat_branch tabOk Tryz.func7 rfl trivial (fun _ => ?_) (fun h => by cases h)
    refine sat_call tabOk Tryz.func7 rfl trivial c10 (.refl _) rfl ⟨_, rfl⟩ (by rintro r o rfl; rfl) ?_
    rintro r o rfl
    refine sat_call tabOk Tryz.func7 rfl trivial (BitN_call n xoy j (by omega)) (.refl _) rfl ⟨_, rfl⟩ (by rintro r o rfl; rfl) ?_
    rintro r o rfl
    rw [bitI'_nat hj, b3]
    refine sat_branch tabOk Tryz.func7 rfl trivial (fun h => by cases h) (fun _ => ?_)
    refine sat_branch tabOk Tryz.func7 rfl trivial (fun _ => ?_) (fun h => by cases h)
    refine sat_call tabOk Tryz.func7 rfl trivial c11 (.refl _) rfl ⟨_, rfl⟩ (by rintro r o rfl; rfl) ?_
    rintro r o rfl
    refine sat_call tabOk Tryz.func7 rfl trivial (BitN_call n xxy j (by omega)) (.refl _) rfl ⟨_, rfl⟩ (by rintro r o rfl; rfl) ?_
    rintro r o rfl
    rw [bitI'_nat hj, b4]
    refine sat_branch tabOk Tryz.func7 rfl trivial (fun _ => ?_) (fun h => by cases h)
    refine sat_call tabOk Tryz.func7 rfl trivial (rSameN_call n x n x hx hx (by omega)) (.refl _) rfl ⟨_, rfl⟩ (by rintro r o rfl; rfl) ?_
    rintro r o rfl
    rw [decide_eq_true (rfl : n = n), decide_eq_true (rfl : x = x)]
    refine sat_branch tabOk Tryz.func7 rfl trivial (fun _ => ?_) (fun h => by cases h)
    refine sat_call tabOk Tryz.func7 rfl trivial (rSameN_call n gx n gx l1 l1 (by omega)) (.refl _) rfl ⟨_, rfl⟩ (by rintro r o rfl; rfl) ?_
    rintro r o rfl
    rw [decide_eq_true (rfl : n = n), decide_eq_true (rfl : gx = gx)]
    refine sat_branch tabOk Tryz.func7 rfl trivial (fun _ => ?_) (fun h => by cases h)
    refine sat_call tabOk Tryz.func7 rfl trivial (rSameN_call n dm n dm l2 l2 (by omega)) (.refl _) rfl ⟨_, rfl⟩ (by rintro r o rfl; rfl) ?_
    rintro r o rfl
    refine sat_ret tabOk Tryz.func7 rfl trivial ?_
    rw [decide_eq_true (rfl : n = n), decide_eq_true (rfl : dm = dm)]
    rfl
  · refine sat_branch tabOk Tryz.func7 rfl trivial (fun _ => ?_) (fun h => by cases h)
    refine sat_call tabOk Tryz.func7 rfl trivial (BitN_call n nx j (by omega)) (.refl _) rfl ⟨_, rfl⟩ (by rintro r o rfl; rfl) ?_
    rintro r o rfl
    rw [bitI'_nat hj, b1]
    refine sat_branch tabOk Tryz.func7 rfl trivial (fun _ => ?_) (fun h => by cases h)
    refine sat_call tabOk Tryz.func7 rfl trivial c8 (.refl _) rfl ⟨_, rfl⟩ (by rintro r o rfl; rfl) ?_
    rintro r o rfl
    refine sat_call tabOk Tryz.func7 rfl trivial (BitN_call n xay j (by omega)) (.refl _) rfl ⟨_, rfl⟩ (by rintro r o rfl; rfl) ?_
    rintro r o rfl
    rw [bitI'_nat hj, b2]
    refine sat_branch tabOk Tryz.func7 rfl trivial (fun h => by cases h) (fun _ => ?_)
    refine sat_branch tabOk Tryz.func7 rfl trivial (fun _ => ?_) (fun h => by cases h)
    refine sat_call tabOk Tryz.func7 rfl trivial c10 (.refl _) rfl ⟨_, rfl⟩ (by rintro r o rfl; rfl) ?_
    rintro r o rfl
    refine sat_call tabOk Tryz.func7 rfl trivial (BitN_call n xoy j (by omega)) (.refl _) rfl ⟨_, rfl⟩ (by rintro r o rfl; rfl) ?_
    rintro r o rfl
    rw [bitI'_nat hj, b3]
    refine sat_branch tabOk Tryz.func7 rfl trivial (fun h => by cases h) (fun _ => ?_)
    refine sat_branch tabOk Tryz.func7 rfl trivial (fun _ => ?_) (fun h => by cases h)
    refine sat_call tabOk Tryz.func7 rfl trivial c11 (.refl _) rfl ⟨_, rfl⟩ (by rintro r o rfl; rfl) ?_
    rintro r o rfl
    refine sat_call tabOk Tryz.func7 rfl trivial (BitN_call n xxy j (by omega)) (.refl _) rfl ⟨_, rfl⟩ (by rintro r o rfl; rfl) ?_
    rintro r o rfl
    rw [bitI'_nat hj, b4]
    refine sat_branch tabOk Tryz.func7 rfl trivial (fun _ => ?_) (fun h => by cases h)
    refine sat_call tabOk Tryz.func7 rfl trivial (rSameN_call n x n x hx hx (by omega)) (.refl _) rfl ⟨_, rfl⟩ (by rintro r o rfl; rfl) ?_
    rintro r o rfl
    rw [decide_eq_true (rfl : n = n), decide_eq_true (rfl : x = x)]
    refine sat_branch tabOk Tryz.func7 rfl trivial (fun _ => ?_) (fun h => by cases h)
    refine sat_call tabOk Tryz.func7 rfl trivial (rSameN_call n gx n gx l1 l1 (by omega)) (.refl _) rfl ⟨_, rfl⟩ (by rintro r o rfl; rfl) ?_
    rintro r o rfl
    rw [decide_eq_true (rfl : n = n), decide_eq_true (rfl : gx = gx)]
    refine sat_branch tabOk Tryz.func7 rfl trivial (fun _ => ?_) (fun h => by cases h)
    refine sat_call tabOk Tryz.func7 rfl trivial (rSameN_call n dm n dm l2 l2 (by omega)) (.refl _) rfl ⟨_, rfl⟩ (by rintro r o rfl; rfl) ?_
    rintro r o rfl
    refine sat_ret tabOk Tryz.func7 rfl trivial ?_
    rw [decide_eq_true (rfl : n = n), decide_eq_true (rfl : dm = dm)]
    rfl
  · refine sat_branch tabOk Tryz.func7 rfl trivial (fun _ => ?_) (fun h => by cases h)
    refine sat_call tabOk Tryz.func7 rfl trivial (BitN_call n nx j (by omega)) (.refl _) rfl ⟨_, rfl⟩ (by rintro r o rfl; rfl) ?_
    rintro r o rfl
    rw [bitI'_nat hj, b1]
    refine sat_branch tabOk Tryz.func7 rfl trivial (fun _ => ?_) (fun h => by cases h)
    refine sat_call tabOk Tryz.func7 rfl trivial c8 (.refl _) rfl ⟨_, rfl⟩ (by rintro r o rfl; rfl) ?_
    rintro r o rfl
    refine sat_call tabOk Tryz.func7 rfl trivial (BitN_call n xay j (by omega)) (.refl _) rfl ⟨_, rfl⟩ (by rintro r o rfl; rfl) ?_
    rintro r o rfl
    rw [bitI'_nat hj, b2]
    refine sat_branch tabOk Tryz.func7 rfl trivial (fun _ => ?_) (fun h => by cases h)
    refine sat_branch tabOk Tryz.func7 rfl trivial (fun _ => ?_) (fun h => by cases h)
    refine sat_call tabOk Tryz.func7 rfl trivial c10 (.refl _) rfl ⟨_, rfl⟩ (by rintro r o rfl; rfl) ?_
    rintro r o rfl
    refine sat_call tabOk Tryz.func7 rfl trivial (BitN_call n xoy j (by omega)) (.refl _) rfl ⟨_, rfl⟩ (by rintro r o rfl; rfl) ?_
    rintro r o rfl
    rw [bitI'_nat hj, b3]
    refine sat_branch tabOk Tryz.func7 rfl trivial (fun _ => ?_) (fun h => by cases h)
    refine sat_branch tabOk Tryz.func7 rfl trivial (fun _ => ?_) (fun h => by cases h)
    refine sat_call tabOk Tryz.func7 rfl trivial c11 (.refl _) rfl ⟨_, rfl⟩ (by rintro r o rfl; rfl) ?_
    rintro r o rfl
    refine sat_call tabOk Tryz.func7 rfl trivial (BitN_call n xxy j (by omega)) (.refl _) rfl ⟨_, rfl⟩ (by rintro r o rfl; rfl) ?_
    rintro r o rfl
    rw [bitI'_nat hj, b4]
    refine sat_branch tabOk Tryz.func7 rfl trivial (fun _ => ?_) (fun h => by cases h)
    refine sat_call tabOk Tryz.func7 rfl trivial (rSameN_call n x n x hx hx (by omega)) (.refl _) rfl ⟨_, rfl⟩ (by rintro r o rfl; rfl) ?_
    rintro r o rfl
    rw [decide_eq_true (rfl : n = n), decide_eq_true (rfl : x = x)]
    refine sat_branch tabOk Tryz.func7 rfl trivial (fun _ => ?_) (fun h => by cases h)
    refine sat_call tabOk Tryz.func7 rfl trivial (rSameN_call n gx n gx l1 l1 (by omega)) (.refl _) rfl ⟨_, rfl⟩ (by rintro r o rfl; rfl) ?_
    rintro r o rfl
    rw [decide_eq_true (rfl : n = n), decide_eq_true (rfl : gx = gx)]
    refine sat_branch tabOk Tryz.func7 rfl trivial (fun _ => ?_) (fun h => by cases h)
    refine sat_call tabOk Tryz.func7 rfl trivial (rSameN_call n dm n dm l2 l2 (by omega)) (.refl _) rfl ⟨_, rfl⟩ (by rintro r o rfl; rfl) ?_
    rintro r o rfl
    refine sat_ret tabOk Tryz.func7 rfl trivial ?_
    rw [decide_eq_true (rfl : n = n), decide_eq_true (rfl : dm = dm)]
    rfl
  · refine sat_branch tabOk Tryz.func7 rfl trivial (fun _ => ?_) (fun h => by cases h)
    refine sat_call tabOk Tryz.func7 rfl trivial (BitN_call n nx j (by omega)) (.refl _) rfl ⟨_, rfl⟩ (by rintro r o rfl; rfl) ?_
    rintro r o rfl
    rw [bitI'_nat hj, b1]
    refine sat_branch tabOk Tryz.func7 rfl trivial (fun _ => ?_) (fun h => by cases h)
    refine sat_call tabOk Tryz.func7 rfl trivial c8 (.refl _) rfl ⟨_, rfl⟩ (by rintro r o rfl; rfl) ?_
    rintro r o rfl
    refine sat_call tabOk Tryz.func7 rfl trivial (BitN_call n xay j (by omega)) (.refl _) rfl ⟨_, rfl⟩ (by rintro r o rfl; rfl) ?_
    rintro r o rfl
    rw [bitI'_nat hj, b2]
    refine sat_branch tabOk Tryz.func7 rfl trivial (fun _ => ?_) (fun h => by cases h)
    refine sat_branch tabOk Tryz.func7 rfl trivial (fun _ => ?_) (fun h => by cases h)
    refine sat_call tabOk Tryz.func7 rfl trivial c10 (.refl _) rfl ⟨_, rfl⟩ (by rintro r o rfl; rfl) ?_
    rintro r o rfl
    refine sat_call tabOk Tryz.func7 rfl trivial (BitN_call n xoy j (by omega)) (.refl _) rfl ⟨_, rfl⟩ (by rintro r o rfl; rfl) ?_
    rintro r o rfl
    rw [bitI'_nat hj, b3]
    refine sat_branch tabOk Tryz.func7 rfl trivial (fun _ => ?_) (fun h => by cases h)
    refine sat_branch tabOk Tryz.func7 rfl trivial (fun _ => ?_) (fun h => by cases h)
    refine sat_call tabOk Tryz.func7 rfl trivial c11 (.refl _) rfl ⟨_, rfl⟩ (by rintro r o rfl; rfl) ?_
    rintro r o rfl
    refine sat_call tabOk Tryz.func7 rfl trivial (BitN_call n xxy j (by omega)) (.refl _) rfl ⟨_, rfl⟩ (by rintro r o rfl; rfl) ?_
    rintro r o rfl
    rw [bitI'_nat hj, b4]
    refine sat_branch tabOk Tryz.func7 rfl trivial (fun _ => ?_) (fun h => by cases h)
    refine sat_call tabOk Tryz.func7 rfl trivial (rSameN_call n x n x hx hx (by omega)) (.refl _) rfl ⟨_, rfl⟩ (by rintro r o rfl; rfl) ?_
    rintro r o rfl
    rw [decide_eq_true (rfl : n = n), decide_eq_true (rfl : x = x)]
    refine sat_branch tabOk Tryz.func7 rfl trivial (fun _ => ?_) (fun h => by cases h)
    refine sat_call tabOk Tryz.func7 rfl trivial (rSameN_call n gx n gx l1 l1 (by omega)) (.refl _) rfl ⟨_, rfl⟩ (by rintro r o rfl; rfl) ?_
    rintro r o rfl
    rw [decide_eq_true (rfl : n = n), decide_eq_true (rfl : gx = gx)]
    refine sat_branch tabOk Tryz.func7 rfl trivial (fun _ => ?_) (fun h => by cases h)
    refine sat_call tabOk Tryz.func7 rfl trivial (rSameN_call n dm n dm l2 l2 (by omega)) (.refl _) rfl ⟨_, rfl⟩ (by rintro r o rfl; rfl) ?_
    rintro r o rfl
    refine sat_ret tabOk Tryz.func7 rfl trivial ?_
    rw [decide_eq_true (rfl : n = n), decide_eq_true (rfl : dm = dm)]
    rfl
end Go.Proofs.YtclamogkchdkgaaGreatDoor
namespace Go.Proofs.YtclamogkchdkgaaGreatDoor
open Go Ab
set_option maxRecDepth 100000
set_option linter.unusedVariables false
set_option linter.unusedSimpArgs false
set_option maxHeartbeats 400000

theorem sub_self' {w x : Nat} (hx : x < 2 ^ w) : (x + (2 ^ w - (x + 1)) + 1) % 2 ^ w = 0 := by
  rw [show x + (2 ^ w - (x + 1)) + 1 = 2 ^ w by omega, Nat.mod_self]
theorem inc_at {w i : Nat} (hi : i < w) : (i + 1) % 2 ^ w = i + 1 := Nat.mod_eq_of_lt (by
  have : w < 2 ^ w := Nat.lt_two_pow_self
  omega)
theorem sll_tb {w x s i : Nat} (hi : i < w) : (x * 2 ^ s % 2 ^ w).testBit i = (decide (s ≤ i) && x.testBit (i - s)) := by
  rw [Nat.testBit_mod_two_pow, Nat.testBit_mul_two_pow]
  simp [hi]
theorem dn_tb {w x s i : Nat} {b : Bool} (hi : i < w) : (dnN w x s b w).testBit i = if i + s < w then x.testBit (i + s) else b := by
  rw [dnN, ofB_tb]
  simp [hi]
theorem dn_lt (w x s : Nat) (b : Bool) : dnN w x s b w < 2 ^ w := ofB_lt _ _
theorem dn_zero {w x : Nat} {b : Bool} (hx : x < 2 ^ w) : dnN w x 0 b w = x := ofB_eq hx fun i hi => by simp [hi]

theorem VecShifts_law (w : Int) (c : Nat) (l : List Nat) (hl : lims l) (hll : l.length ≤ maxLen) (hc : c < 256) : ACall Tryz.prog 8 [.d (eV w l), vI .u8 c] [] (fun r o => r = vB true) := by
  refine acall_enter Tryz.func8 rfl rfl (Nat.le_of_ble_eq_true rfl) fun C hC hCl => ?_
  refine sat_call tabOk Tryz.func8 rfl trivial shown_call (.refl _) rfl ⟨_, rfl⟩ (by rintro r o rfl; rfl) ?_
  rintro r o rfl
  refine sat_call tabOk Tryz.func8 rfl trivial (rRight_call w l hl hll) (.refl _) rfl ⟨_, rfl⟩ (by rintro r o rfl; rfl) ?_
  rintro r o rfl
  refine sat_branch tabOk Tryz.func8 rfl trivial (fun h1 => ?_) (fun h1 => ?_)
  · refine sat_branch tabOk Tryz.func8 rfl trivial (fun _ => ?_) (fun h => by cases h)
    exact sat_ret tabOk Tryz.func8 rfl trivial rfl
  refine sat_branch tabOk Tryz.func8 rfl trivial (fun h2 => ?_) (fun h2 => ?_)
  · exact sat_ret tabOk Tryz.func8 rfl trivial rfl
  have r1 : rightV w l = true := by cases h : rightV w l with | true => rfl | false => rw [h] at h1; cases h1
  obtain ⟨n, x, rfl, n1, n2, hx, rfl⟩ := right_lmb hl r1
  have h2 : decide ((n : Int) < 2) = false := h2
  simp at h2
  have p : 2 ≤ 2 ^ n := by
    have := Nat.pow_le_pow_right (n := 2) (by decide) n1
    simpa using this
  have hnp : n < 2 ^ n := Nat.lt_two_pow_self
  have es : (c : Int).tmod (n : Int) = ((c % n : Nat) : Int) := rfl
  have hs : c % n < n := Nat.mod_lt _ (by omega)
  have ec : IntKind.i64.wrap (c : Int) = (c : Int) := wrap_id (by omega) (by omega)
  generalize hsd : c % n = s at es hs
  have k1 := of_call sSub n x n x n 0 0 (Bin_fn sSub _ n _ _ n _ (by decide) rfl (by have := sub_call n x x hx (by omega) (by omega); rwa [sub_self' hx] at this))
  have k2 := Un_cl sInc _ n 0 n 1 rfl (by have := inc_call n 0 (by omega) (by omega); rwa [inc_at (by omega)] at this)
  refine sat_call tabOk Tryz.func8 rfl trivial k1 (.refl _) rfl ⟨_, rfl⟩ (by rintro r o rfl; rfl) ?_
  rintro r o rfl
  refine sat_le (env' := [(1, vI .u8 c), (2, .ptr 0 0), (5, vB true), (30, .d (vN n 0))]) (objs' := [some (bN n x)]) ?_ hC hCl ⟨⟨_, rfl, .refl _⟩, ⟨_, rfl, .refl _⟩, ⟨_, rfl, .refl _⟩, ⟨_, rfl, .refl _⟩, trivial⟩ ⟨.refl _, trivial⟩ rfl rfl (Nat.zero_le _)
  refine sat_call tabOk Tryz.func8 rfl trivial k2 (.refl _) rfl ⟨_, rfl⟩ (by rintro r o rfl; rfl) ?_
  rintro r o rfl
  refine sat_le (env' := [(1, vI .u8 c), (2, .ptr 0 0), (5, vB true), (6, .ptr 1 0), (33, tupOf [.d (vN n 1), vI .i64 0])]) (objs' := [some (bN n x), some (bN n 0)]) ?_ hC hCl ⟨⟨_, rfl, .refl _⟩, ⟨_, rfl, .refl _⟩, ⟨_, rfl, .refl _⟩, ⟨_, rfl, .refl _⟩, ⟨_, rfl, .refl _⟩, trivial⟩ ⟨.refl _, .refl _, trivial⟩ rfl rfl (Nat.zero_le _)
  refine sat_stop tabOk Tryz.func8 rfl trivial ?_
  refine sat_while (α := Nat) (fun i => [(1, vI .u8 c), (2, .ptr 0 0), (5, vB true), (6, .ptr 1 0), (7, .ptr 2 0), (9, .ptr 3 0), (10, vI .i64 i)]) (fun i => [some (bN n x), some (bN n 0), some (bN n 1), some (bN n i)]) (fun i => i ≤ s) (fun i => s - i) 0 (Nat.zero_le _) ?_ ?_
  · exact fun h => sat_le h hC hCl ⟨⟨_, rfl, .refl _⟩, ⟨_, rfl, .refl _⟩, ⟨_, rfl, .refl _⟩, ⟨_, rfl, .refl _⟩, ⟨_, rfl, .refl _⟩, ⟨_, rfl, .refl _⟩, ⟨_, rfl, .refl _⟩, trivial⟩ ⟨.refl _, .refl _, .refl _, .refl _, trivial⟩ rfl rfl (Nat.zero_le _)
  rintro i hi ih
  refine sat_branch tabOk Tryz.func8 rfl ?_ (fun hb => ?_) (fun hb => ?_)
  · exact ⟨by omega, trivial⟩
  · have hb : decide ((i : Int) < (IntKind.i64.wrap (c : Int)).tmod (n : Int)) = true := hb
    rw [ec, es, decide_eq_true_eq] at hb
    refine sat_call tabOk Tryz.func8 rfl trivial (Un_cl sInc _ n i n (i + 1) rfl (by have := inc_call n i (by omega) (by omega); rwa [inc_at (by omega)] at this)) (.refl _) rfl ⟨_, rfl⟩ (by rintro r o rfl; rfl) ?_
    rintro r o rfl
    refine sat_stop tabOk Tryz.func8 rfl trivial ?_
    exact sat_le (ih (i + 1) (by omega) (by omega)) hC hCl ⟨⟨_, rfl, .refl _⟩, ⟨_, rfl, .refl _⟩, ⟨_, rfl, .refl _⟩, ⟨_, rfl, .refl _⟩, ⟨_, rfl, .refl _⟩, ⟨_, rfl, .refl _⟩, ⟨_, rfl, .of (by rw [wrap_id (by omega) (by omega)]; rfl)⟩, trivial⟩ ⟨.refl _, .refl _, .refl _, .refl _, trivial⟩ rfl rfl (Nat.zero_le _)
  have hb : decide ((i : Int) < (IntKind.i64.wrap (c : Int)).tmod (n : Int)) = false := hb
  rw [ec, es, decide_eq_false_iff_not] at hb
  obtain rfl : i = s := by omega
  have hil : i < 2 ^ n := by omega
  have emin : min i n = i := Nat.min_eq_left (by omega)
  have ez : min 0 n = 0 := Nat.min_eq_left (by omega)
  have eo : min 1 n = 1 := Nat.min_eq_left (by omega)
  have q1 := of_call sSll n x n i n (x * 2 ^ i % 2 ^ n) 0 (Bin_fn sSll _ n _ _ n _ (by decide) rfl (by have := sll_call n x i hil (by omega) (by omega); rwa [emin] at this))
  have q2 := of_call sSrl n x n i n (dnN n x i false n) 0 (Bin_fn sSrl _ n _ _ n _ (by decide) rfl (by have := srl_call n x i hil (by omega) (by omega); rwa [emin] at this))
  have q3 := of_call sSra n x n i n (dnN n x i (x.testBit (n - 1)) n) 0 (Bin_fn sSra _ n _ _ n _ (by decide) rfl (by have := sra_call n x i hil (by omega) (by omega); rwa [emin] at this))
  have q4 := of_call sSll n x n 1 n ((x + x) % 2 ^ n) 0 (Bin_fn sSll _ n _ _ n _ (by decide) rfl (by have := sll_call n x 1 (by omega) (by omega) (by omega); rwa [eo, Nat.pow_one, Nat.mul_two] at this))
  have q5 := of_call sAdd n x n x n ((x + x) % 2 ^ n) 0 (Bin_fn sAdd _ n _ _ n _ (by decide) rfl (add_call n x x (by omega) (by omega)))
  have q6 := of_call sSll n x n 0 n x 0 (Bin_fn sSll _ n _ _ n _ (by decide) rfl (by have := sll_call n x 0 (by omega) (by omega) (by omega); rwa [ez, Nat.pow_zero, Nat.mul_one, Nat.mod_eq_of_lt hx] at this))
  have q7 := of_call sSra n x n 0 n x 0 (Bin_fn sSra _ n _ _ n _ (by decide) rfl (by have := sra_call n x 0 (by omega) (by omega) (by omega); rwa [ez, dn_zero hx] at this))
  have hu : ∀ j, j < n → (x * 2 ^ i % 2 ^ n).testBit j = (decide (i ≤ j) && x.testBit (j - i)) := fun j hj => sll_tb hj
  have hd1 : ∀ j, j < n → (dnN n x i false n).testBit j = bitI' n x ((j + i : Nat) : Int) := fun j hj => by
    rw [dn_tb hj]
    by_cases h : j + i < n
    · rw [if_pos h, bitI'_nat h]
    · rw [if_neg h]
      simp only [bitI']
      rw [decide_eq_false (show ¬ ((j + i : Nat) : Int) < n by omega)]
      simp
  have hd2 : ∀ j, j < n → (dnN n x i (x.testBit (n - 1)) n).testBit j = x.testBit (min (j + i) (n - 1)) := fun j hj => by
    rw [dn_tb hj]
    by_cases h : j + i < n
    · rw [if_pos h, Nat.min_eq_left (by omega)]
    · rw [if_neg h, Nat.min_eq_right (by omega)]
  have hxx : (x + x) % 2 ^ n < 2 ^ n := Nat.mod_lt _ (by omega)
  generalize x * 2 ^ i % 2 ^ n = u at *
  generalize dnN n x i false n = d1 at *
  generalize dnN n x i (x.testBit (n - 1)) n = d2 at *
  generalize (x + x) % 2 ^ n = xx at *
  refine sat_call tabOk Tryz.func8 rfl trivial q1 (.refl _) rfl ⟨_, rfl⟩ (by rintro r o rfl; rfl) ?_
  rintro r o rfl
  refine sat_le (env' := [(1, vI .u8 c), (2, .ptr 0 0), (5, vB true), (6, .ptr 1 0), (7, .ptr 2 0), (9, .ptr 3 0), (54, .d (vN n u))]) (objs' := [some (bN n x), some (bN n 0), some (bN n 1), some (bN n i)]) ?_ hC hCl ⟨⟨_, rfl, .refl _⟩, ⟨_, rfl, .refl _⟩, ⟨_, rfl, .refl _⟩, ⟨_, rfl, .refl _⟩, ⟨_, rfl, .refl _⟩, ⟨_, rfl, .refl _⟩, ⟨_, rfl, .refl _⟩, trivial⟩ ⟨.refl _, .refl _, .refl _, .refl _, trivial⟩ rfl rfl (Nat.zero_le _)
  refine sat_call tabOk Tryz.func8 rfl trivial q2 (.refl _) rfl ⟨_, rfl⟩ (by rintro r o rfl; rfl) ?_
  rintro r o rfl
  refine sat_le (env' := [(1, vI .u8 c), (2, .ptr 0 0), (5, vB true), (6, .ptr 1 0), (7, .ptr 2 0), (9, .ptr 3 0), (13, .ptr 4 0), (57, .d (vN n d1))]) (objs' := [some (bN n x), some (bN n 0), some (bN n 1), some (bN n i), some (bN n u)]) ?_ hC hCl ⟨⟨_, rfl, .refl _⟩, ⟨_, rfl, .refl _⟩, ⟨_, rfl, .refl _⟩, ⟨_, rfl, .refl _⟩, ⟨_, rfl, .refl _⟩, ⟨_, rfl, .refl _⟩, ⟨_, rfl, .refl _⟩, ⟨_, rfl, .refl _⟩, trivial⟩ ⟨.refl _, .refl _, .refl _, .refl _, .refl _, trivial⟩ rfl rfl (Nat.zero_le _)
  refine sat_call tabOk Tryz.func8 rfl trivial q3 (.refl _) rfl ⟨_, rfl⟩ (by rintro r o rfl; rfl) ?_
  rintro r o rfl
  refine sat_le (env' := [(1, vI .u8 c), (2, .ptr 0 0), (5, vB true), (6, .ptr 1 0), (7, .ptr 2 0), (9, .ptr 3 0), (13, .ptr 4 0), (14, .ptr 5 0), (60, .d (vN n d2))]) (objs' := [some (bN n x), some (bN n 0), some (bN n 1), some (bN n i), some (bN n u), some (bN n d1)]) ?_ hC hCl ⟨⟨_, rfl, .refl _⟩, ⟨_, rfl, .refl _⟩, ⟨_, rfl, .refl _⟩, ⟨_, rfl, .refl _⟩, ⟨_, rfl, .refl _⟩, ⟨_, rfl, .refl _⟩, ⟨_, rfl, .refl _⟩, ⟨_, rfl, .refl _⟩, ⟨_, rfl, .refl _⟩, trivial⟩ ⟨.refl _, .refl _, .refl _, .refl _, .refl _, .refl _, trivial⟩ rfl rfl (Nat.zero_le _)
  refine sat_stop tabOk Tryz.func8 rfl ?_ ?_
  · exact ⟨by omega, trivial⟩
  refine sat_while (α := Nat) (fun j => [(2, .ptr 0 0), (5, vB true), (6, .ptr 1 0), (7, .ptr 2 0), (9, .ptr 3 0), (13, .ptr 4 0), (14, .ptr 5 0), (15, .ptr 6 0), (16, vI .i64 i), (17, vI .i64 j)]) (fun j => [some (bN n x), some (bN n 0), some (bN n 1), some (bN n i), some (bN n u), some (bN n d1), some (bN n d2)]) (fun j => j ≤ n) (fun j => n - j) 0 (Nat.zero_le _) ?_ ?_
  · refine fun h => sat_le h hC hCl ⟨⟨_, rfl, .refl _⟩, ⟨_, rfl, .refl _⟩, ⟨_, rfl, .refl _⟩, ⟨_, rfl, .refl _⟩, ⟨_, rfl, .refl _⟩, ⟨_, rfl, .refl _⟩, ⟨_, rfl, .refl _⟩, ⟨_, rfl, .refl _⟩, ⟨_, rfl, .of ?_⟩, ⟨_, rfl, .refl _⟩, trivial⟩ ⟨.refl _, .refl _, .refl _, .refl _, .refl _, .refl _, .refl _, trivial⟩ rfl rfl (Nat.zero_le _)
    show vI .i64 ((IntKind.i64.wrap (c : Int)).tmod (n : Int)) = _
    rw [ec, es]
  rintro j hj jh
  refine sat_branch tabOk Tryz.func8 rfl trivial (fun hb2 => ?_) (fun hb2 => ?_) <;> simp only [decide_eq_true_eq, decide_eq_false_iff_not] at hb2
  · have hjl : j < n := by omega
    have e1 : IntKind.i64.wrap ((j : Int) + i) = ((j + i : Nat) : Int) := by rw [wrap_id (by omega) (by omega)]; omega
    have e2 : IntKind.i64.wrap ((n : Int) - 1) = ((n - 1 : Nat) : Int) := by rw [wrap_id (by omega) (by omega)]; omega
    refine sat_drawT 37 tabOk Tryz.func8 rfl rfl trivial (by kernel_rfl) ?_
    refine ds_call tabOk rfl trivial (BitN_call n u j (by omega)) (callFunc_run Tryz.func17 rfl rfl) (r0 := vB (decide (i ≤ j) && x.testBit (j - i))) (by rintro r o rfl; rw [bitI'_nat hjl, hu j hjl]) (.refl _) rfl rfl ⟨_, rfl⟩ ?_
    refine ds_branch tabOk rfl trivial (fun h1 => ?_) (fun h1 => ?_)
    · have h1 : decide ((j : Int) ≥ (i : Int)) = true := h1
      rw [decide_eq_true_eq] at h1
      have e3 : IntKind.i64.wrap ((j : Int) - i) = ((j - i : Nat) : Int) := by rw [wrap_id (by omega) (by omega)]; omega
      refine ds_call tabOk rfl trivial (BitN_call n x ((j - i : Nat) : Int) (by omega)) (callFunc_run Tryz.func17 rfl rfl) (r0 := vB (x.testBit (j - i))) (by rintro r o rfl; rw [bitI'_nat (by omega)]) ⟨.refl _, .of (by show vI .i64 (IntKind.i64.wrap ((j : Int) - i)) = _; rw [e3]), trivial⟩ rfl rfl ⟨_, rfl⟩ ?_
      refine ds_branch tabOk rfl trivial (fun h => by simp [show i ≤ j by omega] at h) (fun _ => ?_)
      refine ds_call tabOk rfl trivial (BitN_call n d1 j (by omega)) (callFunc_run Tryz.func17 rfl rfl) (r0 := vB (bitI' n x ((j + i : Nat) : Int))) (by rintro r o rfl; rw [bitI'_nat hjl, hd1 j hjl]) (.refl _) rfl rfl ⟨_, rfl⟩ ?_
      refine ds_call tabOk rfl trivial (BitN_call n x ((j + i : Nat) : Int) (by omega)) (callFunc_run Tryz.func17 rfl rfl) (by rintro r o rfl; rfl) ⟨.refl _, .of (by show vI .i64 (IntKind.i64.wrap ((j : Int) + i)) = _; rw [e1]), trivial⟩ rfl rfl ⟨_, rfl⟩ ?_
      refine ds_branch tabOk rfl trivial (fun h => by simp at h) (fun _ => ?_)
      refine ds_call tabOk rfl trivial (BitN_call n d2 j (by omega)) (callFunc_run Tryz.func17 rfl rfl) (r0 := vB (x.testBit (min (j + i) (n - 1)))) (by rintro r o rfl; rw [bitI'_nat hjl, hd2 j hjl]) (.refl _) rfl rfl ⟨_, rfl⟩ ?_
      refine ds_done tabOk rfl trivial ?_
      refine sat_call tabOk Tryz.func8 rfl trivial (BitN_call n x ((min (j + i) (n - 1) : Nat) : Int) (by omega)) ⟨.refl _, .of (by show vI .i64 (min (IntKind.i64.wrap ((j : Int) + i)) (IntKind.i64.wrap ((n : Int) - 1))) = _; rw [e1, e2, show ((min (j + i) (n - 1) : Nat) : Int) = min ((j + i : Nat) : Int) ((n - 1 : Nat) : Int) by omega]), trivial⟩ rfl ⟨_, rfl⟩ (by rintro r o rfl; rfl) ?_
      rintro r o rfl
      rw [bitI'_nat (by omega)]
      refine sat_branch tabOk Tryz.func8 rfl trivial (fun h => by simp at h) (fun _ => ?_)
      refine sat_stop tabOk Tryz.func8 rfl trivial ?_
      exact sat_le (jh (j + 1) (by omega) (by omega)) hC hCl ⟨⟨_, rfl, .refl _⟩, ⟨_, rfl, .refl _⟩, ⟨_, rfl, .refl _⟩, ⟨_, rfl, .refl _⟩, ⟨_, rfl, .refl _⟩, ⟨_, rfl, .refl _⟩, ⟨_, rfl, .refl _⟩, ⟨_, rfl, .refl _⟩, ⟨_, rfl, .refl _⟩, ⟨_, rfl, .of (by rw [wrap_id (by omega) (by omega)]; rfl)⟩, trivial⟩ ⟨.refl _, .refl _, .refl _, .refl _, .refl _, .refl _, .refl _, trivial⟩ rfl rfl (Nat.zero_le _)
    · have h1 : decide ((j : Int) ≥ (i : Int)) = false := h1
      rw [decide_eq_false_iff_not] at h1
      refine ds_branch tabOk rfl trivial (fun h => by simp [show ¬ i ≤ j by omega] at h) (fun _ => ?_)
      refine ds_call tabOk rfl trivial (BitN_call n d1 j (by omega)) (callFunc_run Tryz.func17 rfl rfl) (r0 := vB (bitI' n x ((j + i : Nat) : Int))) (by rintro r o rfl; rw [bitI'_nat hjl, hd1 j hjl]) (.refl _) rfl rfl ⟨_, rfl⟩ ?_
      refine ds_call tabOk rfl trivial (BitN_call n x ((j + i : Nat) : Int) (by omega)) (callFunc_run Tryz.func17 rfl rfl) (by rintro r o rfl; rfl) ⟨.refl _, .of (by show vI .i64 (IntKind.i64.wrap ((j : Int) + i)) = _; rw [e1]), trivial⟩ rfl rfl ⟨_, rfl⟩ ?_
      refine ds_branch tabOk rfl trivial (fun h => by simp at h) (fun _ => ?_)
      refine ds_call tabOk rfl trivial (BitN_call n d2 j (by omega)) (callFunc_run Tryz.func17 rfl rfl) (r0 := vB (x.testBit (min (j + i) (n - 1)))) (by rintro r o rfl; rw [bitI'_nat hjl, hd2 j hjl]) (.refl _) rfl rfl ⟨_, rfl⟩ ?_
      refine ds_done tabOk rfl trivial ?_
      refine sat_call tabOk Tryz.func8 rfl trivial (BitN_call n x ((min (j + i) (n - 1) : Nat) : Int) (by omega)) ⟨.refl _, .of (by show vI .i64 (min (IntKind.i64.wrap ((j : Int) + i)) (IntKind.i64.wrap ((n : Int) - 1))) = _; rw [e1, e2, show ((min (j + i) (n - 1) : Nat) : Int) = min ((j + i : Nat) : Int) ((n - 1 : Nat) : Int) by omega]), trivial⟩ rfl ⟨_, rfl⟩ (by rintro r o rfl; rfl) ?_
      rintro r o rfl
      rw [bitI'_nat (by omega)]
      refine sat_branch tabOk Tryz.func8 rfl trivial (fun h => by simp at h) (fun _ => ?_)
      refine sat_stop tabOk Tryz.func8 rfl trivial ?_
      exact sat_le (jh (j + 1) (by omega) (by omega)) hC hCl ⟨⟨_, rfl, .refl _⟩, ⟨_, rfl, .refl _⟩, ⟨_, rfl, .refl _⟩, ⟨_, rfl, .refl _⟩, ⟨_, rfl, .refl _⟩, ⟨_, rfl, .refl _⟩, ⟨_, rfl, .refl _⟩, ⟨_, rfl, .refl _⟩, ⟨_, rfl, .refl _⟩, ⟨_, rfl, .of (by rw [wrap_id (by omega) (by omega)]; rfl)⟩, trivial⟩ ⟨.refl _, .refl _, .refl _, .refl _, .refl _, .refl _, .refl _, trivial⟩ rfl rfl (Nat.zero_le _)
  · obtain rfl : j = n := by omega
    refine sat_drawT 22 tabOk Tryz.func8 rfl rfl trivial (by kernel_rfl) ?_
    refine ds_branch tabOk rfl trivial (fun _ => ?_) (fun h => by cases h)
    refine ds_call tabOk rfl trivial (q4) (callFunc_run Tryz.func32 rfl rfl) (by rintro r o rfl; rfl) (.refl _) rfl rfl ⟨_, rfl⟩ ?_
    refine ds_call tabOk rfl trivial (q5) (callFunc_run Tryz.func32 rfl rfl) (by rintro r o rfl; rfl) (.refl _) rfl rfl ⟨_, rfl⟩ ?_
    refine ds_call tabOk rfl trivial (rSameN_call j xx j xx hxx hxx (by omega)) (callFunc_run Tryz.func16 rfl rfl) (r0 := vB true) (by rintro r o rfl; simp) (.refl _) rfl rfl ⟨_, rfl⟩ ?_
    refine ds_branch tabOk rfl trivial (fun _ => ?_) (fun h => by cases h)
    refine ds_call tabOk rfl trivial (q6) (callFunc_run Tryz.func32 rfl rfl) (by rintro r o rfl; rfl) (.refl _) rfl rfl ⟨_, rfl⟩ ?_
    refine ds_call tabOk rfl trivial (rSameN_call j x j x hx hx (by omega)) (callFunc_run Tryz.func16 rfl rfl) (r0 := vB true) (by rintro r o rfl; simp) (.refl _) rfl rfl ⟨_, rfl⟩ ?_
    refine ds_branch tabOk rfl trivial (fun _ => ?_) (fun h => by cases h)
    refine ds_call tabOk rfl trivial (q7) (callFunc_run Tryz.func32 rfl rfl) (by rintro r o rfl; rfl) (.refl _) rfl rfl ⟨_, rfl⟩ ?_
    refine ds_done tabOk rfl trivial ?_
    refine sat_call tabOk Tryz.func8 rfl trivial (rSameN_call j x j x hx hx (by omega)) (.refl _) rfl ⟨_, rfl⟩ (by rintro r o rfl; rfl) ?_
    rintro r o rfl
    refine sat_ret tabOk Tryz.func8 rfl trivial ?_
    rw [decide_eq_true (rfl : j = j), decide_eq_true (rfl : x = x)]
    rfl
end Go.Proofs.YtclamogkchdkgaaGreatDoor
