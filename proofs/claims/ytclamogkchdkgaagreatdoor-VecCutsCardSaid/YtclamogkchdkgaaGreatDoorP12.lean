/- A part of the proof: L2, R4, L4. -/
import Derived.Test.YtclamogkchdkgaaGreatDoorP11
set_option linter.unusedVariables false
set_option linter.unusedSimpArgs false
namespace Go.Proofs.YtclamogkchdkgaaGreatDoor
open Go Ab
set_option maxRecDepth 100000
set_option linter.unusedVariables false
set_option linter.unusedSimpArgs false
set_option maxHeartbeats 400000

theorem of_call (op : List UInt8) (w x v y w' x' : Nat) (f : Int) (hb : ACall Tryz.prog 24 [vSL op, .d (vN w x), .d (vN v y)] [] (fun r o => r = tupOf [.d (vN w' x'), vI .i64 f])) : ACall Tryz.prog 32 [vSL op, .d (vN w x), .d (vN v y)] [] (fun r o => r = .d (vN w' x')) := by
  refine acall_enter Tryz.func32 rfl rfl (Nat.le_of_ble_eq_true rfl) fun C hC hCl => ?_
  refine sat_call tabOk Tryz.func32 rfl trivial hb (.refl _) rfl ⟨_, rfl⟩ (by rintro r o rfl; rfl) ?_
  rintro r o rfl
  exact sat_ret tabOk Tryz.func32 rfl trivial rfl
theorem not_lt {w x : Nat} (hx : x < 2 ^ w) : 2 ^ w - (x + 1) < 2 ^ w := by omega
theorem not_tb {w x i : Nat} (hx : x < 2 ^ w) (hi : i < w) : (2 ^ w - (x + 1)).testBit i = !x.testBit i := by
  rw [Nat.testBit_two_pow_sub_succ hx]
  simp [hi]
theorem decinc {w x : Nat} (hw : 0 < w) (hx : x < 2 ^ w) : ((x + 1) % 2 ^ w + (2 ^ w - (1 + 1)) + 1) % 2 ^ w = x := by
  have h2 : 2 ≤ 2 ^ w := by
    have := Nat.pow_le_pow_right (n := 2) (by decide) hw
    simpa using this
  rcases Nat.lt_or_ge (x + 1) (2 ^ w) with h | h
  · rw [Nat.mod_eq_of_lt h, show x + 1 + (2 ^ w - (1 + 1)) + 1 = x + 2 ^ w by omega, Nat.add_mod_right, Nat.mod_eq_of_lt hx]
  · have e : x + 1 = 2 ^ w := by omega
    rw [e, Nat.mod_self, Nat.mod_eq_of_lt (by omega)]
    omega
theorem demorgan {w x y : Nat} (hx : x < 2 ^ w) (hy : y < 2 ^ w) : (2 ^ w - (x + 1)) ||| (2 ^ w - (y + 1)) = 2 ^ w - ((x &&& y) + 1) := by
  apply Nat.eq_of_testBit_eq
  intro i
  rw [Nat.testBit_or, Nat.testBit_two_pow_sub_succ hx, Nat.testBit_two_pow_sub_succ hy, Nat.testBit_two_pow_sub_succ (Nat.lt_of_le_of_lt Nat.and_le_left hx), Nat.testBit_and]
  by_cases hi : i < w <;> simp [hi]

theorem VecBits_law (w v i : Int) (l k : List Nat) (hl : lims l) (hk : lims k) (hll : l.length ≤ maxLen) (hkl : k.length ≤ maxLen) : ACall Tryz.prog 7 [.d (eV w l), .d (eV v k), vI .i64 i] [] (fun r o => r = vB true) := by
  refine acall_enter Tryz.func7 rfl rfl (Nat.le_of_ble_eq_true rfl) fun C hC hCl => ?_
  refine sat_call tabOk Tryz.func7 rfl trivial shown_call (.refl _) rfl ⟨_, rfl⟩ (by rintro r o rfl; rfl) ?_
  rintro r o rfl
  refine sat_call tabOk Tryz.func7 rfl trivial (rRight_call w l hl hll) (.refl _) rfl ⟨_, rfl⟩ (by rintro r o rfl; rfl) ?_
  rintro r o rfl
  refine sat_branch tabOk Tryz.func7 rfl trivial (fun h1 => ?_) (fun h1 => ?_)
  · refine sat_branch tabOk Tryz.func7 rfl trivial (fun _ => ?_) (fun h => by cases h)
    refine sat_branch tabOk Tryz.func7 rfl trivial (fun _ => ?_) (fun h => by cases h)
    refine sat_branch tabOk Tryz.func7 rfl trivial (fun _ => ?_) (fun h => by cases h)
    refine sat_branch tabOk Tryz.func7 rfl trivial (fun _ => ?_) (fun h => by cases h)
    exact sat_ret tabOk Tryz.func7 rfl trivial rfl
  refine sat_call tabOk Tryz.func7 rfl trivial (rRight_call v k hk hkl) (.refl _) rfl ⟨_, rfl⟩ (by rintro r o rfl; rfl) ?_
  rintro r o rfl
  refine sat_branch tabOk Tryz.func7 rfl trivial (fun h2 => ?_) (fun h2 => ?_)
  · refine sat_branch tabOk Tryz.func7 rfl trivial (fun _ => ?_) (fun h => by cases h)
    refine sat_branch tabOk Tryz.func7 rfl trivial (fun _ => ?_) (fun h => by cases h)
    refine sat_branch tabOk Tryz.func7 rfl trivial (fun _ => ?_) (fun h => by cases h)
    exact sat_ret tabOk Tryz.func7 rfl trivial rfl
  refine sat_branch tabOk Tryz.func7 rfl trivial (fun h3 => ?_) (fun h3 => ?_)
  · refine sat_branch tabOk Tryz.func7 rfl trivial (fun _ => ?_) (fun h => by cases h)
    refine sat_branch tabOk Tryz.func7 rfl trivial (fun _ => ?_) (fun h => by cases h)
    exact sat_ret tabOk Tryz.func7 rfl trivial rfl
  refine sat_branch tabOk Tryz.func7 rfl trivial (fun h4 => ?_) (fun h4 => ?_)
  · refine sat_branch tabOk Tryz.func7 rfl trivial (fun _ => ?_) (fun h => by cases h)
    exact sat_ret tabOk Tryz.func7 rfl trivial rfl
  refine sat_branch tabOk Tryz.func7 rfl trivial (fun h5 => ?_) (fun h5 => ?_)
  · exact sat_ret tabOk Tryz.func7 rfl trivial rfl
  have r1 : rightV w l = true := by cases h : rightV w l with | true => rfl | false => rw [h] at h1; cases h1
  have r2 : rightV v k = true := by cases h : rightV v k with | true => rfl | false => rw [h] at h2; cases h2
  obtain ⟨n, x, rfl, n1, n2, hx, rfl⟩ := right_lmb hl r1
  obtain ⟨m, y, rfl, m1, m2, hy, rfl⟩ := right_lmb hk r2
  have h3 : ((n : Int) != (m : Int)) = false := h3
  have h4 : decide (i < 0) = false := h4
  have h5 : decide (i ≥ (n : Int)) = false := h5
  simp at h3 h4 h5
  obtain rfl : n = m := by omega
  obtain ⟨j, rfl⟩ : ∃ j : Nat, i = j := ⟨i.toNat, by omega⟩
  have hj : j < n := by omega
  have hxy : x &&& y < 2 ^ n := Nat.lt_of_le_of_lt Nat.and_le_left hx
  have hor : x ||| y < 2 ^ n := Nat.or_lt_two_pow hx hy
  have hxr : x ^^^ y < 2 ^ n := Nat.xor_lt_two_pow hx hy
  have p : 0 < 2 ^ n := Nat.two_pow_pos n
  have b1 : (2 ^ n - (x + 1)).testBit j = !x.testBit j := not_tb hx hj
  have b2 : (x &&& y).testBit j = (x.testBit j && y.testBit j) := Nat.testBit_and ..
  have b3 : (x ||| y).testBit j = (x.testBit j || y.testBit j) := Nat.testBit_or ..
  have b4 : (x ^^^ y).testBit j = (x.testBit j ^^ y.testBit j) := Nat.testBit_xor ..
  have l1 : (2 ^ n - (x + 1) + 1) % 2 ^ n < 2 ^ n := Nat.mod_lt _ p
  have l2 : 2 ^ n - ((x &&& y) + 1) < 2 ^ n := not_lt hxy
  have c1 := Un_fn sNot _ n x n _ rfl (turnedN_call n x hx (by omega) (by omega))
  have c2 := Un_fn sNot _ n y n _ rfl (turnedN_call n y hy (by omega) (by omega))
  have c3 := Un_cl sInc _ n x n _ rfl (inc_call n x (by omega) (by omega))
  have c4 := Un_cl sDec _ n ((x + 1) % 2 ^ n) n _ rfl (dec_call n _ (by omega) (by omega))
  rw [decinc (by omega) hx] at c4
  have c5 := Un_fn sNeg _ n x n _ rfl (neg_call n x hx (by omega) (by omega))
  rw [Nat.zero_add] at c5
  have c6 := Un_cl sInc _ n (2 ^ n - (x + 1)) n _ rfl (inc_call n _ (by omega) (by omega))
  have c7 := of_call sOr n (2 ^ n - (x + 1)) n (2 ^ n - (y + 1)) n _ 0 (Bin_fn sOr _ n _ _ n _ (by decide) rfl (orN_call n _ _ (not_lt hx) (not_lt hy) (by omega) (by omega)))
  rw [demorgan hx hy] at c7
  have c8 := of_call sAnd n x n y n _ 0 (Bin_fn sAnd _ n _ _ n _ (by decide) rfl (andN_call n x y hx (by omega) (by omega)))
  have c9 := Un_fn sNot _ n (x &&& y) n _ rfl (turnedN_call n _ hxy (by omega) (by omega))
  have c10 := of_call sOr n x n y n _ 0 (Bin_fn sOr _ n _ _ n _ (by decide) rfl (orN_call n x y hx hy (by omega) (by omega)))
  have c11 := of_call sXor n x n y n _ 0 (Bin_fn sXor _ n _ _ n _ (by decide) rfl (xorN_call n x y hx hy (by omega) (by omega)))
  generalize (2 ^ n - (x + 1) + 1) % 2 ^ n = gx at *
  generalize 2 ^ n - ((x &&& y) + 1) = dm at *
  generalize 2 ^ n - (x + 1) = nx at *
  generalize 2 ^ n - (y + 1) = ny at *
  generalize (x + 1) % 2 ^ n = ix at *
  generalize x &&& y = xay at *
  generalize x ||| y = xoy at *
  generalize x ^^^ y = xxy at *
  refine sat_call tabOk Tryz.func7 rfl trivial c1 (.refl _) rfl ⟨_, rfl⟩ (by rintro r o rfl; rfl) ?_
  rintro r o rfl
  refine sat_le (env' := [(2, vI .i64 j), (3, .ptr 0 0), (4, .ptr 1 0), (7, vB true), (54, tupOf [.d (vN n nx), vI .i64 0])]) (objs' := [some (bN n x), some (bN n y)]) ?_ hC hCl ⟨⟨_, rfl, .refl _⟩, ⟨_, rfl, .refl _⟩, ⟨_, rfl, .refl _⟩, ⟨_, rfl, .refl _⟩, ⟨_, rfl, .refl _⟩, trivial⟩ ⟨.refl _, .refl _, trivial⟩ rfl rfl (Nat.zero_le _)
  refine sat_call tabOk Tryz.func7 rfl trivial c2 (.refl _) rfl ⟨_, rfl⟩ (by rintro r o rfl; rfl) ?_
  rintro r o rfl
  refine sat_le (env' := [(2, vI .i64 j), (3, .ptr 0 0), (4, .ptr 1 0), (7, vB true), (8, .ptr 2 0), (59, tupOf [.d (vN n ny), vI .i64 0])]) (objs' := [some (bN n x), some (bN n y), some (bN n nx)]) ?_ hC hCl ⟨⟨_, rfl, .refl _⟩, ⟨_, rfl, .refl _⟩, ⟨_, rfl, .refl _⟩, ⟨_, rfl, .refl _⟩, ⟨_, rfl, .refl _⟩, ⟨_, rfl, .refl _⟩, trivial⟩ ⟨.refl _, .refl _, .refl _, trivial⟩ rfl rfl (Nat.zero_le _)
  refine sat_call tabOk Tryz.func7 rfl trivial c3 (.refl _) rfl ⟨_, rfl⟩ (by rintro r o rfl; rfl) ?_
  rintro r o rfl
  refine sat_le (env' := [(2, vI .i64 j), (3, .ptr 0 0), (4, .ptr 1 0), (7, vB true), (8, .ptr 2 0), (10, .ptr 3 0), (64, tupOf [.d (vN n ix), vI .i64 0])]) (objs' := [some (bN n x), some (bN n y), some (bN n nx), some (bN n ny)]) ?_ hC hCl ⟨⟨_, rfl, .refl _⟩, ⟨_, rfl, .refl _⟩, ⟨_, rfl, .refl _⟩, ⟨_, rfl, .refl _⟩, ⟨_, rfl, .refl _⟩, ⟨_, rfl, .refl _⟩, ⟨_, rfl, .refl _⟩, trivial⟩ ⟨.refl _, .refl _, .refl _, .refl _, trivial⟩ rfl rfl (Nat.zero_le _)
  refine sat_call tabOk Tryz.func7 rfl trivial c4 (.refl _) rfl ⟨_, rfl⟩ (by rintro r o rfl; rfl) ?_
  rintro r o rfl
  refine sat_le (env' := [(2, vI .i64 j), (3, .ptr 0 0), (4, .ptr 1 0), (7, vB true), (8, .ptr 2 0), (10, .ptr 3 0), (12, .ptr 4 0), (69, tupOf [.d (vN n x), vI .i64 0])]) (objs' := [some (bN n x), some (bN n y), some (bN n nx), some (bN n ny), some (bN n ix)]) ?_ hC hCl ⟨⟨_, rfl, .refl _⟩, ⟨_, rfl, .refl _⟩, ⟨_, rfl, .refl _⟩, ⟨_, rfl, .refl _⟩, ⟨_, rfl, .refl _⟩, ⟨_, rfl, .refl _⟩, ⟨_, rfl, .refl _⟩, ⟨_, rfl, .refl _⟩, trivial⟩ ⟨.refl _, .refl _, .refl _, .refl _, .refl _, trivial⟩ rfl rfl (Nat.zero_le _)
  refine sat_call tabOk Tryz.func7 rfl trivial c5 (.refl _) rfl ⟨_, rfl⟩ (by rintro r o rfl; rfl) ?_
  rintro r o rfl
  refine sat_le (env' := [(2, vI .i64 j), (3, .ptr 0 0), (4, .ptr 1 0), (7, vB true), (8, .ptr 2 0), (10, .ptr 3 0), (12, .ptr 4 0), (14, .ptr 5 0), (74, tupOf [.d (vN n gx), vI .i64 0])]) (objs' := [some (bN n x), some (bN n y), some (bN n nx), some (bN n ny), some (bN n ix), some (bN n x)]) ?_ hC hCl ⟨⟨_, rfl, .refl _⟩, ⟨_, rfl, .refl _⟩, ⟨_, rfl, .refl _⟩, ⟨_, rfl, .refl _⟩, ⟨_, rfl, .refl _⟩, ⟨_, rfl, .refl _⟩, ⟨_, rfl, .refl _⟩, ⟨_, rfl, .refl _⟩, ⟨_, rfl, .refl _⟩, trivial⟩ ⟨.refl _, .refl _, .refl _, .refl _, .refl _, .refl _, trivial⟩ rfl rfl (Nat.zero_le _)
  refine sat_call tabOk Tryz.func7 rfl trivial c6 (.refl _) rfl ⟨_, rfl⟩ (by rintro r o rfl; rfl) ?_
  rintro r o rfl
  refine sat_le (env' := [(2, vI .i64 j), (3, .ptr 0 0), (4, .ptr 1 0), (7, vB true), (8, .ptr 2 0), (10, .ptr 3 0), (12, .ptr 4 0), (14, .ptr 5 0), (16, .ptr 6 0), (79, tupOf [.d (vN n gx), vI .i64 0])]) (objs' := [some (bN n x), some (bN n y), some (bN n nx), some (bN n ny), some (bN n ix), some (bN n x), some (bN n gx)]) ?_ hC hCl ⟨⟨_, rfl, .refl _⟩, ⟨_, rfl, .refl _⟩, ⟨_, rfl, .refl _⟩, ⟨_, rfl, .refl _⟩, ⟨_, rfl, .refl _⟩, ⟨_, rfl, .refl _⟩, ⟨_, rfl, .refl _⟩, ⟨_, rfl, .refl _⟩, ⟨_, rfl, .refl _⟩, ⟨_, rfl, .refl _⟩, trivial⟩ ⟨.refl _, .refl _, .refl _, .refl _, .refl _, .refl _, .refl _, trivial⟩ rfl rfl (Nat.zero_le _)
  refine sat_call tabOk Tryz.func7 rfl trivial c7 (.refl _) rfl ⟨_, rfl⟩ (by rintro r o rfl; rfl) ?_
  rintro r o rfl
  refine sat_le (env' := [(2, vI .i64 j), (3, .ptr 0 0), (4, .ptr 1 0), (7, vB true), (8, .ptr 2 0), (10, .ptr 3 0), (12, .ptr 4 0), (14, .ptr 5 0), (16, .ptr 6 0), (18, .ptr 7 0), (84, .d (vN n dm))]) (objs' := [some (bN n x), some (bN n y), some (bN n nx), some (bN n ny), some (bN n ix), some (bN n x), some (bN n gx), some (bN n gx)]) ?_ hC hCl ⟨⟨_, rfl, .refl _⟩, ⟨_, rfl, .refl _⟩, ⟨_, rfl, .refl _⟩, ⟨_, rfl, .refl _⟩, ⟨_, rfl, .refl _⟩, ⟨_, rfl, .refl _⟩, ⟨_, rfl, .refl _⟩, ⟨_, rfl, .refl _⟩, ⟨_, rfl, .refl _⟩, ⟨_, rfl, .refl _⟩, ⟨_, rfl, .refl _⟩, trivial⟩ ⟨.refl _, .refl _, .refl _, .refl _, .refl _, .refl _, .refl _, .refl _, trivial⟩ rfl rfl (Nat.zero_le _)
  refine sat_call tabOk Tryz.func7 rfl trivial c8 (.refl _) rfl ⟨_, rfl⟩ (by rintro r o rfl; rfl) ?_
  rintro r o rfl
  refine sat_le (env' := [(2, vI .i64 j), (3, .ptr 0 0), (4, .ptr 1 0), (7, vB true), (8, .ptr 2 0), (10, .ptr 3 0), (12, .ptr 4 0), (14, .ptr 5 0), (16, .ptr 6 0), (18, .ptr 7 0), (20, .ptr 8 0), (88, .d (vN n xay))]) (objs' := [some (bN n x), some (bN n y), some (bN n nx), some (bN n ny), some (bN n ix), some (bN n x), some (bN n gx), some (bN n gx), some (bN n dm)]) ?_ hC hCl ⟨⟨_, rfl, .refl _⟩, ⟨_, rfl, .refl _⟩, ⟨_, rfl, .refl _⟩, ⟨_, rfl, .refl _⟩, ⟨_, rfl, .refl _⟩, ⟨_, rfl, .refl _⟩, ⟨_, rfl, .refl _⟩, ⟨_, rfl, .refl _⟩, ⟨_, rfl, .refl _⟩, ⟨_, rfl, .refl _⟩, ⟨_, rfl, .refl _⟩, ⟨_, rfl, .refl _⟩, trivial⟩ ⟨.refl _, .refl _, .refl _, .refl _, .refl _, .refl _, .refl _, .refl _, .refl _, trivial⟩ rfl rfl (Nat.zero_le _)
  refine sat_call tabOk Tryz.func7 rfl trivial c9 (.refl _) rfl ⟨_, rfl⟩ (by rintro r o rfl; rfl) ?_
  rintro r o rfl
  refine sat_le (env' := [(2, vI .i64 j), (3, .ptr 0 0), (4, .ptr 1 0), (7, vB true), (8, .ptr 2 0), (10, .ptr 3 0), (12, .ptr 4 0), (14, .ptr 5 0), (16, .ptr 6 0), (18, .ptr 7 0), (20, .ptr 8 0), (89, tupOf [.d (vN n dm), vI .i64 0])]) (objs' := [some (bN n x), some (bN n y), some (bN n nx), some (bN n ny), some (bN n ix), some (bN n x), some (bN n gx), some (bN n gx), some (bN n dm)]) ?_ hC hCl ⟨⟨_, rfl, .refl _⟩, ⟨_, rfl, .refl _⟩, ⟨_, rfl, .refl _⟩, ⟨_, rfl, .refl _⟩, ⟨_, rfl, .refl _⟩, ⟨_, rfl, .refl _⟩, ⟨_, rfl, .refl _⟩, ⟨_, rfl, .refl _⟩, ⟨_, rfl, .refl _⟩, ⟨_, rfl, .refl _⟩, ⟨_, rfl, .refl _⟩, ⟨_, rfl, .refl _⟩, trivial⟩ ⟨.refl _, .refl _, .refl _, .refl _, .refl _, .refl _, .refl _, .refl _, .refl _, trivial⟩ rfl rfl (Nat.zero_le _)
  refine sat_drawT 5 tabOk Tryz.func7 rfl rfl trivial (by kernel_rfl) ?_
  refine ds_call tabOk rfl trivial (BitN_call n x j (by omega)) (callFunc_run Tryz.func17 rfl rfl) (by rintro r o rfl; rfl) (.refl _) rfl rfl ⟨_, rfl⟩ ?_
  refine ds_done tabOk rfl trivial ?_
  refine sat_call tabOk Tryz.func7 rfl trivial (BitN_call n y j (by omega)) (.refl _) rfl ⟨_, rfl⟩ (by rintro r o rfl; rfl) ?_
  rintro r o rfl
  rw [bitI'_nat hj, bitI'_nat hj]
  cases hxj : x.testBit j <;> cases hyj : y.testBit j <;> rw [hxj, hyj] at b2 b3 b4 <;> rw [hxj] at b1
  · refine sat_branch tabOk Tryz.func7 rfl trivial (fun _ => ?_) (fun h => by cases h)
    refine sat_call tabOk Tryz.func7 rfl trivial (BitN_call n nx j (by omega)) (.refl _) rfl ⟨_, rfl⟩ (by rintro r o rfl; rfl) ?_
    rintro r o rfl
    rw [bitI'_nat hj, b1]
    refine sat_branch tabOk Tryz.func7 rfl trivial (fun _ => ?_) (fun h => by cases h)
    refine sat_call tabOk Tryz.func7 rfl trivial c8 (.refl _) rfl ⟨_, rfl⟩ (by rintro r o rfl; rfl) ?_
    rintro r o rfl
    refine sat_call tabOk Tryz.func7 rfl trivial (BitN_call n xay j (by omega)) (.refl _) rfl ⟨_, rfl⟩ (by rintro r o rfl; rfl) ?_
    rintro r o rfl
    rw [bitI'_nat hj, b2]
    refine sat_branch tabOk Tryz.func7 rfl trivial (fun h => by cases h) (fun _ => ?_)
    refine sat_branch tabOk Tryz.func7 rfl trivial (fun _ => ?_) (fun h => by cases h)
    refine sat_call tabOk Tryz.func7 rfl trivial c10 (.refl _) rfl ⟨_, rfl⟩ (by rintro r o rfl; rfl) ?_
    rintro r o rfl
    refine sat_call tabOk Tryz.func7 rfl trivial (BitN_call n xoy j (by omega)) (.refl _) rfl ⟨_, rfl⟩ (by rintro r o rfl; rfl) ?_
    rintro r o rfl
    rw [bitI'_nat hj, b3]
    refine sat_branch tabOk Tryz.func7 rfl trivial (fun h => by cases h) (fun _ => ?_)
    refine sat_branch tabOk Tryz.func7 rfl trivial (fun _ => ?_) (fun h => by cases h)
    refine sat_call tabOk Tryz.func7 rfl trivial c11 (.refl _) rfl ⟨_, rfl⟩ (by rintro r o rfl; rfl) ?_
    rintro r o rfl
    refine sat_call tabOk Tryz.func7 rfl trivial (BitN_call n xxy j (by omega)) (.refl _) rfl ⟨_, rfl⟩ (by rintro r o rfl; rfl) ?_
    rintro r o rfl
    rw [bitI'_nat hj, b4]
    refine sat_branch tabOk Tryz.func7 rfl trivial (fun _ => ?_) (fun h => by cases h)
    refine sat_call tabOk Tryz.func7 rfl trivial (rSameN_call n x n x hx hx (by omega)) (.refl _) rfl ⟨_, rfl⟩ (by rintro r o rfl; rfl) ?_
    rintro r o rfl
    rw [decide_eq_true (rfl : n = n), decide_eq_true (rfl : x = x)]
    refine sat_branch tabOk Tryz.func7 rfl trivial (fun _ => ?_) (fun h => by cases h)
    refine sat_call tabOk Tryz.func7 rfl trivial (rSameN_call n gx n gx l1 l1 (by omega)) (.refl _) rfl ⟨_, rfl⟩ (by rintro r o rfl; rfl) ?_
    rintro r o rfl
    rw [decide_eq_true (rfl : n = n), decide_eq_true (rfl : gx = gx)]
    refine sat_branch tabOk Tryz.func7 rfl trivial (fun _ => ?_) (fun h => by cases h)
    refine sat_call tabOk Tryz.func7 rfl trivial (rSameN_call n dm n dm l2 l2 (by omega)) (.refl _) rfl ⟨_, rfl⟩ (by rintro r o rfl; rfl) ?_
    rintro r o rfl
    refine sat_ret tabOk Tryz.func7 rfl trivial ?_
    rw [decide_eq_true (rfl : n = n), decide_eq_true (rfl : dm = dm)]
    rfl
  · refine sat_branch tabOk Tryz.func7 rfl trivial (fun _ => ?_) (fun h => by cases h)
    refine sat_call tabOk Tryz.func7 rfl trivial (BitN_call n nx j (by omega)) (.refl _) rfl ⟨_, rfl⟩ (by rintro r o rfl; rfl) ?_
    rintro r o rfl
    rw [bitI'_nat hj, b1]
    refine sat_branch tabOk Tryz.func7 rfl trivial (fun _ => ?_) (fun h => by cases h)
    refine sat_call tabOk Tryz.func7 rfl trivial c8 (.refl _) rfl ⟨_, rfl⟩ (by rintro r o rfl; rfl) ?_
    rintro r o rfl
    refine sat_call tabOk Tryz.func7 rfl trivial (BitN_call n xay j (by omega)) (.refl _) rfl ⟨_, rfl⟩ (by rintro r o rfl; rfl) ?_
    rintro r o rfl
    rw [bitI'_nat hj, b2]
    refine sat_branch tabOk Tryz.func7 rfl trivial (fun h => by cases h) (fun _ => ?_)
    refine sat_branch tabOk Tryz.func7 rfl trivial (fun _ => ?_) (fun h => by cases h)
    refine sat_call tabOk Tryz.func7 rfl trivial c10 (.refl _) rfl ⟨_, rfl⟩ (by rintro r o rfl; rfl) ?_
    rintro r o rfl
    refine sat_call tabOk Tryz.func7 rfl trivial (BitN_call n xoy j (by omega)) (.refl _) rfl ⟨_, rfl⟩ (by rintro r o rfl; rfl) ?_
    rintro r o rfl
    rw [bitI'_nat hj, b3]
    refine sat_branch tabOk Tryz.func7 rfl trivial (fun h => by cases h) (fun _ => ?_)
    refine sat_branch tabOk Tryz.func7 rfl trivial (fun _ => ?_) (fun h => by cases h)
    refine sat_call tabOk Tryz.func7 rfl trivial c11 (.refl _) rfl ⟨_, rfl⟩ (by rintro r o rfl; rfl) ?_
    rintro r o rfl
    refine sat_call tabOk Tryz.func7 rfl trivial (BitN_call n xxy j (by omega)) (.refl _) rfl ⟨_, rfl⟩ (by rintro r o rfl; rfl) ?_
    rintro r o rfl
    rw [bitI'_nat hj, b4]
    refine sat_branch tabOk Tryz.func7 rfl trivial (fun _ => ?_) (fun h => by cases h)
    refine sat_call tabOk Tryz.func7 rfl trivial (rSameN_call n x n x hx hx (by omega)) (.refl _) rfl ⟨_, rfl⟩ (by rintro r o rfl; rfl) ?_
    rintro r o rfl
    rw [decide_eq_true (rfl : n = n), decide_eq_true (rfl : x = x)]
    refine sat_branch tabOk Tryz.func7 rfl trivial (fun _ => ?_) (fun h => by cases h)
    refine sat_call tabOk Tryz.func7 rfl trivial (rSameN_call n gx n gx l1 l1 (by omega)) (.refl _) rfl ⟨_, rfl⟩ (by rintro r o rfl; rfl) ?_
    rintro r o rfl
    rw [decide_eq_true (rfl : n = n), decide_eq_true (rfl : gx = gx)]
    refine sat_branch tabOk Tryz.func7 rfl trivial (fun _ => ?_) (fun h => by cases h)
    refine sat_call tabOk Tryz.func7 rfl trivial (rSameN_call n dm n dm l2 l2 (by omega)) (.refl _) rfl ⟨_, rfl⟩ (by rintro r o rfl; rfl) ?_
    rintro r o rfl
    refine sat_ret tabOk Tryz.func7 rfl trivial ?_
    rw [decide_eq_true (rfl : n = n), decide_eq_true (rfl : dm = dm)]
    rfl
  · refine sat_branch tabOk Tryz.func7 rfl trivial (fun _ => ?_) (fun h => by cases h)
    refine sat_call tabOk Tryz.func7 rfl trivial (BitN_call n nx j (by omega)) (.refl _) rfl ⟨_, rfl⟩ (by rintro r o rfl; rfl) ?_
    rintro r o rfl
    rw [bitI'_nat hj, b1]
    refine sat_branch tabOk Tryz.func7 rfl trivial (fun _ => ?_) (fun h => by cases h)
    refine sat_call tabOk Tryz.func7 rfl trivial c8 (.refl _) rfl ⟨_, rfl⟩ (by rintro r o rfl; rfl) ?_
    rintro r o rfl
    refine sat_call tabOk Tryz.func7 rfl trivial (BitN_call n xay j (by omega)) (.refl _) rfl ⟨_, rfl⟩ (by rintro r o rfl; rfl) ?_
    rintro r o rfl
    rw [bitI'_nat hj, b2]
    refine sat_branch tabOk Tryz.func7 rfl trivial (fun _ => ?_) (fun h => by cases h)
    refine sat_branch tabOk Tryz.func7 rfl trivial (fun _ => ?_) (fun h => by cases h)
    refine sat_call tabOk Tryz.func7 rfl trivial c10 (.refl _) rfl ⟨_, rfl⟩ (by rintro r o rfl; rfl) ?_
    rintro r o rfl
    refine sat_call tabOk Tryz.func7 rfl trivial (BitN_call n xoy j (by omega)) (.refl _) rfl ⟨_, rfl⟩ (by rintro r o rfl; rfl) ?_
    rintro r o rfl
    rw [bitI'_nat hj, b3]
    refine sat_branch tabOk Tryz.func7 rfl trivial (fun _ => ?_) (fun h => by cases h)
    refine sat_branch tabOk Tryz.func7 rfl trivial (fun _ => ?_) (fun h => by cases h)
    refine sat_call tabOk Tryz.func7 rfl trivial c11 (.refl _) rfl ⟨_, rfl⟩ (by rintro r o rfl; rfl) ?_
    rintro r o rfl
    refine sat_call tabOk Tryz.func7 rfl trivial (BitN_call n xxy j (by omega)) (.refl _) rfl ⟨_, rfl⟩ (by rintro r o rfl; rfl) ?_
    rintro r o rfl
    rw [bitI'_nat hj, b4]
    refine sat_branch tabOk Tryz.func7 rfl trivial (fun _ => ?_) (fun h => by cases h)
    refine sat_call tabOk Tryz.func7 rfl trivial (rSameN_call n x n x hx hx (by omega)) (.refl _) rfl ⟨_, rfl⟩ (by rintro r o rfl; rfl) ?_
    rintro r o rfl
    rw [decide_eq_true (rfl : n = n), decide_eq_true (rfl : x = x)]
    refine sat_branch tabOk Tryz.func7 rfl trivial (fun _ => ?_) (fun h => by cases h)
    refine sat_call tabOk Tryz.func7 rfl trivial (rSameN_call n gx n gx l1 l1 (by omega)) (.refl _) rfl ⟨_, rfl⟩ (by rintro r o rfl; rfl) ?_
    rintro r o rfl
    rw [decide_eq_true (rfl : n = n), decide_eq_true (rfl : gx = gx)]
    refine sat_branch tabOk Tryz.func7 rfl trivial (fun _ => ?_) (fun h => by cases h)
    refine sat_call tabOk Tryz.func7 rfl trivial (rSameN_call n dm n dm l2 l2 (by omega)) (.refl _) rfl ⟨_, rfl⟩ (by rintro r o rfl; rfl) ?_
    rintro r o rfl
    refine sat_ret tabOk Tryz.func7 rfl trivial ?_
    rw [decide_eq_true (rfl : n = n), decide_eq_true (rfl : dm = dm)]
    rfl
  · refine sat_branch tabOk Tryz.func7 rfl trivial (fun _ => ?_) (fun h => by cases h)
    refine sat_call tabOk Tryz.func7 rfl trivial (BitN_call n nx j (by omega)) (.refl _) rfl ⟨_, rfl⟩ (by rintro r o rfl; rfl) ?_
    rintro r o rfl
    rw [bitI'_nat hj, b1]
    refine sat_branch tabOk Tryz.func7 rfl trivial (fun _ => ?_) (fun h => by cases h)
    refine sat_call tabOk Tryz.func7 rfl trivial c8 (.refl _) rfl ⟨_, rfl⟩ (by rintro r o rfl; rfl) ?_
    rintro r o rfl
    refine sat_call tabOk Tryz.func7 rfl trivial (BitN_call n xay j (by omega)) (.refl _) rfl ⟨_, rfl⟩ (by rintro r o rfl; rfl) ?_
    rintro r o rfl
    rw [bitI'_nat hj, b2]
    refine sat_branch tabOk Tryz.func7 rfl trivial (fun _ => ?_) (fun h => by cases h)
    refine sat_branch tabOk Tryz.func7 rfl trivial (fun _ => ?_) (fun h => by cases h)
    refine sat_call tabOk Tryz.func7 rfl trivial c10 (.refl _) rfl ⟨_, rfl⟩ (by rintro r o rfl; rfl) ?_
    rintro r o rfl
    refine sat_call tabOk Tryz.func7 rfl trivial (BitN_call n xoy j (by omega)) (.refl _) rfl ⟨_, rfl⟩ (by rintro r o rfl; rfl) ?_
    rintro r o rfl
    rw [bitI'_nat hj, b3]
    refine sat_branch tabOk Tryz.func7 rfl trivial (fun _ => ?_) (fun h => by cases h)
    refine sat_branch tabOk Tryz.func7 rfl trivial (fun _ => ?_) (fun h => by cases h)
    refine sat_call tabOk Tryz.func7 rfl trivial c11 (.refl _) rfl ⟨_, rfl⟩ (by rintro r o rfl; rfl) ?_
    rintro r o rfl
    refine sat_call tabOk Tryz.func7 rfl trivial (BitN_call n xxy j (by omega)) (.refl _) rfl ⟨_, rfl⟩ (by rintro r o rfl; rfl) ?_
    rintro r o rfl
    rw [bitI'_nat hj, b4]
    refine sat_branch tabOk Tryz.func7 rfl trivial (fun _ => ?_) (fun h => by cases h)
    refine sat_call tabOk Tryz.func7 rfl trivial (rSameN_call n x n x hx hx (by omega)) (.refl _) rfl ⟨_, rfl⟩ (by rintro r o rfl; rfl) ?_
    rintro r o rfl
    rw [decide_eq_true (rfl : n = n), decide_eq_true (rfl : x = x)]
    refine sat_branch tabOk Tryz.func7 rfl trivial (fun _ => ?_) (fun h => by cases h)
    refine sat_call tabOk Tryz.func7 rfl trivial (rSameN_call n gx n gx l1 l1 (by omega)) (.refl _) rfl ⟨_, rfl⟩ (by rintro r o rfl; rfl) ?_
    rintro r o rfl
    rw [decide_eq_true (rfl : n = n), decide_eq_true (rfl : gx = gx)]
    refine sat_branch tabOk Tryz.func7 rfl trivial (fun _ => ?_) (fun h => by cases h)
    refine sat_call tabOk Tryz.func7 rfl trivial (rSameN_call n dm n dm l2 l2 (by omega)) (.refl _) rfl ⟨_, rfl⟩ (by rintro r o rfl; rfl) ?_
    rintro r o rfl
    refine sat_ret tabOk Tryz.func7 rfl trivial ?_
    rw [decide_eq_true (rfl : n = n), decide_eq_true (rfl : dm = dm)]
    rfl
end Go.Proofs.YtclamogkchdkgaaGreatDoor
namespace Go.Proofs.YtclamogkchdkgaaGreatDoor
open Go Ab
set_option maxRecDepth 100000
set_option linter.unusedVariables false
set_option linter.unusedSimpArgs false

/-! ### The reference: cuts -/
theorem bl_slice (n lo len : Nat) (f : Nat → Bool) (h : lo + len ≤ n) : ((bl n f).drop lo).take len = bl len fun i => f (lo + i) := by
  apply List.ext_getElem?
  intro i
  rw [List.getElem?_take, List.getElem?_drop]
  simp only [bl]
  by_cases hi : i < len
  · rw [if_pos (by omega)]
    simp [hi, show lo + i < n by omega]
  · rw [if_neg (by omega)]
    simp [hi]
theorem rSlice_ok (w x lo hi : Nat) (hwb : w ≤ 128) (h1 : lo ≤ hi) (h2 : hi < w) : ACall Tryz.prog 27 [.d (vN w x), vI .i64 hi, vI .i64 lo] [] (fun r o => r = tupOf [.d (vN (hi - lo + 1) (slN x lo (hi - lo + 1))), vI .i64 0]) := by
  refine acall_enter Tryz.func27 rfl rfl (Nat.le_of_ble_eq_true rfl) fun C hC hCl => ?_
  have e1 : IntKind.i64.wrap ((hi : Int) + 1) = ((hi + 1 : Nat) : Int) := by rw [wrap_id (by omega) (by omega)]; omega
  refine sat_branch tabOk Tryz.func27 rfl trivial (fun h => by simp at h; omega) (fun _ => ?_)
  refine sat_branch tabOk Tryz.func27 rfl trivial (fun h => by simp at h; omega) (fun _ => ?_)
  refine sat_branch tabOk Tryz.func27 rfl trivial (fun h => by simp at h; omega) (fun _ => ?_)
  refine sat_call tabOk Tryz.func27 rfl trivial (Bits_call w x (by omega)) (.refl _) rfl ⟨_, rfl⟩ (by rintro r o rfl; rfl) ?_
  rintro r o rfl
  refine sat_call tabOk Tryz.func27 rfl ?_ (Of_call (hi - lo + 1) (fun i => x.testBit (lo + i)) (by omega)) ⟨.eL ?_, trivial⟩ rfl ⟨_, rfl⟩ (by rintro r o rfl; rfl) ?_
  · rw [e1, List.length_map, bl_len]
    exact ⟨⟨by omega, by omega, by omega⟩, trivial⟩
  · rw [e1, show (((hi + 1 : Nat) : Int) - lo).toNat = hi - lo + 1 by omega, Int.toNat_natCast, ← List.map_drop, ← List.map_take, bl_slice _ _ _ _ (by omega)]
  rintro r o rfl
  exact sat_ret tabOk Tryz.func27 rfl trivial rfl
theorem rSlice_no (w x : Nat) (lo hi : Int) (h : lo < 0 ∨ hi < lo ∨ (w : Int) ≤ hi) : ACall Tryz.prog 27 [.d (vN w x), vI .i64 hi, vI .i64 lo] [] (fun r o => r = tupOf [.d z24, vI .i64 5]) := by
  refine acall_enter Tryz.func27 rfl rfl (Nat.le_of_ble_eq_true rfl) fun C hC hCl => ?_
  refine sat_branch tabOk Tryz.func27 rfl trivial (fun _ => ?_) (fun h1 => ?_)
  · refine sat_branch tabOk Tryz.func27 rfl trivial (fun _ => ?_) (fun h => by cases h)
    refine sat_branch tabOk Tryz.func27 rfl trivial (fun _ => ?_) (fun h => by cases h)
    exact sat_ret tabOk Tryz.func27 rfl trivial rfl
  refine sat_branch tabOk Tryz.func27 rfl trivial (fun _ => ?_) (fun h2 => ?_)
  · refine sat_branch tabOk Tryz.func27 rfl trivial (fun _ => ?_) (fun h => by cases h)
    exact sat_ret tabOk Tryz.func27 rfl trivial rfl
  refine sat_branch tabOk Tryz.func27 rfl trivial (fun _ => ?_) (fun h3 => ?_)
  · exact sat_ret tabOk Tryz.func27 rfl trivial rfl
  · simp at h1 h2 h3
    omega
theorem rIte_ok (c w x y : Nat) (hc : c < 2 ^ 1) : ACall Tryz.prog 31 [.d (vN 1 c), .d (vN w x), .d (vN w y)] [] (fun r o => r = tupOf [.d (vN w (if c = 1 then x else y)), vI .i64 0]) := by
  refine acall_enter Tryz.func31 rfl rfl (Nat.le_of_ble_eq_true rfl) fun C hC hCl => ?_
  refine sat_branch tabOk Tryz.func31 rfl trivial (fun h => by cases h) (fun _ => ?_)
  refine sat_branch tabOk Tryz.func31 rfl trivial (fun h => ?_) (fun _ => ?_)
  · have h : ((w : Int) != (w : Int)) = true := h
    simp at h
  have h0 : (lmb (limbsN 1) c).getD 0 0 = c := by rw [lmb_get (by decide), lw, Nat.mod_eq_of_lt (by omega)]; simp
  refine sat_branch tabOk Tryz.func31 rfl ?_ (fun h => ?_) (fun h => ?_)
  · rw [List.length_map, lmb_len]
    exact ⟨⟨by decide, by decide⟩, trivial⟩
  · have h : ((((lmb (limbsN 1) c).getD 0 0 : Nat) : Int) == 1) = true := h
    rw [h0, beq_iff_eq] at h
    refine sat_ret tabOk Tryz.func31 rfl trivial ?_
    rw [if_pos (by omega)]
    rfl
  · have h : ((((lmb (limbsN 1) c).getD 0 0 : Nat) : Int) == 1) = false := h
    rw [h0, beq_eq_false_iff_ne] at h
    refine sat_ret tabOk Tryz.func31 rfl trivial ?_
    rw [if_neg (by omega)]
    rfl
theorem rIte_no (c u w v x y : Nat) (h : u ≠ 1 ∨ w ≠ v) : ACall Tryz.prog 31 [.d (vN u c), .d (vN w x), .d (vN v y)] [] (fun r o => r = tupOf [.d z24, vI .i64 5]) := by
  refine acall_enter Tryz.func31 rfl rfl (Nat.le_of_ble_eq_true rfl) fun C hC hCl => ?_
  refine sat_branch tabOk Tryz.func31 rfl trivial (fun _ => ?_) (fun h1 => ?_)
  · refine sat_branch tabOk Tryz.func31 rfl trivial (fun _ => ?_) (fun h => by cases h)
    exact sat_ret tabOk Tryz.func31 rfl trivial rfl
  refine sat_branch tabOk Tryz.func31 rfl trivial (fun _ => ?_) (fun h2 => ?_)
  · exact sat_ret tabOk Tryz.func31 rfl trivial rfl
  · have h1 : ((u : Int) != (1 : Int)) = false := h1
    have h2 : ((w : Int) != (v : Int)) = false := h2
    simp at h1 h2
    omega

theorem many_call (n : Nat) (f : Nat → Bool) (hb : n ≤ 1000000) : ACall Tryz.prog 48 [.d (eBs (bl n f))] [] (fun r o => r = vI .i64 (((bl n f).count true : Nat) : Int)) := by
  refine acall_enter Tryz.func48 rfl rfl (Nat.le_of_ble_eq_true rfl) fun C hC hCl => ?_
  refine sat_stop tabOk Tryz.func48 rfl trivial ?_
  refine sat_while (α := Nat) (fun i => [(0, .d (eBs (bl n f))), (3, vI .i64 (((bl i f).count true : Nat) : Int)), (4, vI .i64 i)]) (fun i => []) (fun i => i ≤ n) (fun i => n - i) 0 (Nat.zero_le _) ?_ ?_
  · exact fun h => sat_le h hC hCl ⟨⟨_, rfl, .refl _⟩, ⟨_, rfl, .refl _⟩, ⟨_, rfl, .refl _⟩, trivial⟩ trivial rfl rfl (Nat.zero_le _)
  rintro i hi ih
  have hcl : (bl i f).count true ≤ i := by
    have := List.count_le_length (a := true) (l := bl i f)
    rwa [bl_len] at this
  refine sat_branch tabOk Tryz.func48 rfl trivial (fun hb => ?_) (fun hb => ?_) <;> simp only [decide_eq_true_eq, decide_eq_false_iff_not, List.length_map, bl_len] at hb
  · have hbd : ((0 : Int) ≤ (i : Nat) ∧ ((i : Nat) : Int) < (n : Int)) ∧ True := ⟨⟨by omega, by omega⟩, trivial⟩
    have ef : ((bl n f).getD ((i : Nat) : Int).toNat false) = f i := bl_get (f := f) (show i < n by omega)
    refine sat_branch tabOk Tryz.func48 rfl (by simpa [bl_len] using hbd) (fun h1 => ?_) (fun h1 => ?_) <;> rw [ef] at h1
    · refine sat_stop tabOk Tryz.func48 rfl trivial ?_
      refine sat_le (ih (i + 1) (by omega) (by omega)) hC hCl ⟨⟨_, rfl, .refl _⟩, ⟨_, rfl, .of ?_⟩, ⟨_, rfl, .of (by rw [wrap_id (by omega) (by omega)]; rfl)⟩, trivial⟩ trivial rfl rfl (Nat.zero_le _)
      show vI .i64 (IntKind.i64.wrap ((((bl i f).count true : Nat) : Int) + 1)) = _
      rw [wrap_id (by omega) (by omega), bl_succ, List.count_append, h1]
      rfl
    · refine sat_stop tabOk Tryz.func48 rfl trivial ?_
      refine sat_le (ih (i + 1) (by omega) (by omega)) hC hCl ⟨⟨_, rfl, .refl _⟩, ⟨_, rfl, .of ?_⟩, ⟨_, rfl, .of (by rw [wrap_id (by omega) (by omega)]; rfl)⟩, trivial⟩ trivial rfl rfl (Nat.zero_le _)
      rw [bl_succ, List.count_append, h1]
      rfl
  · obtain rfl : i = n := by omega
    exact sat_ret tabOk Tryz.func48 rfl trivial rfl

theorem Bits_callO (w x : Nat) (hb : w ≤ 1000000) : ACall Tryz.prog 43 [.d (vN w x)] [] (fun r o => r = .gs 1 ∧ o = [none, some (gBs (bl w x.testBit))]) := by
  refine acall_enter Tryz.func43 rfl rfl (Nat.le_of_ble_eq_true rfl) fun C hC hCl => ?_
  refine sat_stop tabOk Tryz.func43 rfl trivial ?_
  refine sat_own (s := 1) (e := 4) (t := 3) (.inl rfl) (fun i => eB (([] : List Bool).getD i false)) ?_
  refine sat_while (α := Nat) (fun i => [(1, .ptr 0 0), (3, .gs 1), (4, vI .i64 i)]) (fun i => [some (bN w x), some (gBs (bl i x.testBit))]) (fun i => i ≤ w) (fun i => w - i) 0 (Nat.zero_le _) ?_ ?_
  · exact fun h => sat_le h hC hCl ⟨⟨_, rfl, .refl _⟩, ⟨_, rfl, .refl _⟩, ⟨_, rfl, .refl _⟩, trivial⟩ ⟨.refl _, .refl _, trivial⟩ rfl rfl (Nat.zero_le _)
  rintro i hi ih
  refine sat_branch tabOk Tryz.func43 rfl trivial (fun hb => ?_) (fun hb => ?_) <;> simp only [decide_eq_true_eq, decide_eq_false_iff_not] at hb
  · refine sat_call tabOk Tryz.func43 rfl trivial (rBit_call w x i (by omega)) (.refl _) rfl ⟨_, rfl⟩ (by rintro r o rfl; rfl) ?_
    rintro r o rfl
    rw [bitI'_nat (by omega)]
    refine sat_stop tabOk Tryz.func43 rfl ?_ ?_
    · simp only [List.length_map, bl_len, andP]
      exact ⟨show (i + 1) * 1 ≤ 140737488355328 by omega, trivial⟩
    refine sat_le (ih (i + 1) (by omega) (by omega)) hC hCl ⟨⟨_, rfl, .refl _⟩, ⟨_, rfl, .refl _⟩, ⟨_, rfl, .of (by rw [wrap_id (by omega) (by omega)]; rfl)⟩, trivial⟩ ⟨.refl _, .gL ?_, trivial⟩ rfl rfl (Nat.zero_le _)
    rw [bl_succ, List.map_append]
    rfl
  · obtain rfl : i = w := by omega
    exact sat_retL tabOk Tryz.func43 rfl trivial hC hCl (.refl _) (o2 := [none, some (gBs (bl i x.testBit))]) ⟨.refl _, trivial⟩ rfl rfl (Nat.zero_le _) ⟨rfl, rfl⟩

theorem rExt_ok (w x n : Nat) (s : Bool) (hw : 0 < w) (hwb : w ≤ 128) (hn : w + n ≤ 128) : ACall Tryz.prog 29 [.d (vN w x), vI .i64 n, vB s] [] (fun r o => r = tupOf [.d (vN (w + n) (exN w x n (s && x.testBit (w - 1)))), vI .i64 0]) := by
  refine acall_enter Tryz.func29 rfl rfl (Nat.le_of_ble_eq_true rfl) fun C hC hCl => ?_
  have e1 : IntKind.i64.wrap ((w : Int) - 1) = ((w - 1 : Nat) : Int) := by rw [wrap_id (by omega) (by omega)]; omega
  have e2 : IntKind.i64.wrap (128 - (w : Int)) = ((128 - w : Nat) : Int) := by rw [wrap_id (by omega) (by omega)]; omega
  refine sat_branch tabOk Tryz.func29 rfl trivial (fun h => by simp at h; omega) (fun _ => ?_)
  refine sat_branch tabOk Tryz.func29 rfl trivial (fun h => ?_) (fun _ => ?_)
  · have h : decide ((n : Int) > IntKind.i64.wrap (128 - (w : Int))) = true := h
    rw [e2, decide_eq_true_eq] at h
    omega
  refine sat_callG [] tabOk Tryz.func29 rfl trivial (Bits_callO w x (by omega)) trivial (.refl _) rfl rfl rfl ⟨_, rfl⟩ ?_
  rintro r o ⟨rfl, rfl⟩
  have ecg : bl w x.testBit = bl w fun i => if i < w then x.testBit i else (s && x.testBit (w - 1)) := bl_congr fun i hi => by rw [if_pos hi]
  have etop : (bl w x.testBit).getD (IntKind.i64.wrap ((w : Int) - 1)).toNat false = x.testBit (w - 1) := by
    rw [e1, Int.toNat_natCast]
    exact bl_get (by omega)
  cases s with
  | true =>
    rw [Bool.true_and] at ecg ⊢
    refine sat_branch tabOk Tryz.func29 rfl trivial (fun _ => ?_) (fun h => by cases h)
    refine sat_stop tabOk Tryz.func29 rfl ?_ ?_
    · simp only [List.length_map, bl_len, andP, e1]
      exact ⟨by omega, ⟨by omega, by omega⟩, trivial⟩
    refine sat_while (α := Nat) (fun i => [(1, vI .i64 n), (6, .ptr 1 0), (8, .gs 3), (9, vB (x.testBit (w - 1))), (10, vI .i64 i)]) (fun i => [some (bN w x), some zV, none, some (gBs (bl (w + i) fun i => if i < w then x.testBit i else x.testBit (w - 1)))]) (fun i => i ≤ n) (fun i => n - i) 0 (Nat.zero_le _) ?_ ?_
    · refine fun h => sat_le h hC hCl ⟨⟨_, rfl, .refl _⟩, ⟨_, rfl, .refl _⟩, ⟨_, rfl, .refl _⟩, ⟨_, rfl, .of ?_⟩, ⟨_, rfl, .refl _⟩, trivial⟩ ⟨.refl _, .refl _, .of (by rw [ecg]; rfl), trivial⟩ rfl rfl (Nat.zero_le _)
      show AV.d (eB ((bl w x.testBit).getD (IntKind.i64.wrap ((w : Int) - 1)).toNat false)) = _
      rw [etop]
      rfl
    rintro i hi ih
    refine sat_branch tabOk Tryz.func29 rfl trivial (fun hb => ?_) (fun hb => ?_) <;> simp only [decide_eq_true_eq, decide_eq_false_iff_not] at hb
    · refine sat_stop tabOk Tryz.func29 rfl ?_ ?_
      · simp only [List.length_map, bl_len, andP]
        exact ⟨show (w + i + 1) * 1 ≤ 140737488355328 by omega, trivial⟩
      refine sat_le (ih (i + 1) (by omega) (by omega)) hC hCl ⟨⟨_, rfl, .refl _⟩, ⟨_, rfl, .refl _⟩, ⟨_, rfl, .refl _⟩, ⟨_, rfl, .refl _⟩, ⟨_, rfl, .of (by rw [wrap_id (by omega) (by omega)]; rfl)⟩, trivial⟩ ⟨.refl _, .refl _, .gL ?_, trivial⟩ rfl rfl (Nat.zero_le _)
      rw [← Nat.add_assoc, bl_succ, List.map_append, if_neg (by omega)]
      rfl
    · obtain rfl : i = n := by omega
      refine sat_freeze 3 rfl ?_
      refine sat_call tabOk Tryz.func29 rfl trivial (Of_call (w + i) _ (by omega)) (.refl _) rfl ⟨_, rfl⟩ (by rintro r o rfl; rfl) ?_
      rintro r o rfl
      exact sat_ret tabOk Tryz.func29 rfl trivial rfl
  | false =>
    rw [Bool.false_and] at ecg ⊢
    refine sat_branch tabOk Tryz.func29 rfl trivial (fun h => by cases h) (fun _ => ?_)
    refine sat_stop tabOk Tryz.func29 rfl trivial ?_
    refine sat_while (α := Nat) (fun i => [(1, vI .i64 n), (6, .ptr 1 0), (8, .gs 3), (9, vB (false)), (10, vI .i64 i)]) (fun i => [some (bN w x), some zV, none, some (gBs (bl (w + i) fun i => if i < w then x.testBit i else false))]) (fun i => i ≤ n) (fun i => n - i) 0 (Nat.zero_le _) ?_ ?_
    · exact fun h => sat_le h hC hCl ⟨⟨_, rfl, .refl _⟩, ⟨_, rfl, .refl _⟩, ⟨_, rfl, .refl _⟩, ⟨_, rfl, .refl _⟩, ⟨_, rfl, .refl _⟩, trivial⟩ ⟨.refl _, .refl _, .of (by rw [ecg]; rfl), trivial⟩ rfl rfl (Nat.zero_le _)
    rintro i hi ih
    refine sat_branch tabOk Tryz.func29 rfl trivial (fun hb => ?_) (fun hb => ?_) <;> simp only [decide_eq_true_eq, decide_eq_false_iff_not] at hb
    · refine sat_stop tabOk Tryz.func29 rfl ?_ ?_
      · simp only [List.length_map, bl_len, andP]
        exact ⟨show (w + i + 1) * 1 ≤ 140737488355328 by omega, trivial⟩
      refine sat_le (ih (i + 1) (by omega) (by omega)) hC hCl ⟨⟨_, rfl, .refl _⟩, ⟨_, rfl, .refl _⟩, ⟨_, rfl, .refl _⟩, ⟨_, rfl, .refl _⟩, ⟨_, rfl, .of (by rw [wrap_id (by omega) (by omega)]; rfl)⟩, trivial⟩ ⟨.refl _, .refl _, .gL ?_, trivial⟩ rfl rfl (Nat.zero_le _)
      rw [← Nat.add_assoc, bl_succ, List.map_append, if_neg (by omega)]
      rfl
    · obtain rfl : i = n := by omega
      refine sat_freeze 3 rfl ?_
      refine sat_call tabOk Tryz.func29 rfl trivial (Of_call (w + i) _ (by omega)) (.refl _) rfl ⟨_, rfl⟩ (by rintro r o rfl; rfl) ?_
      rintro r o rfl
      exact sat_ret tabOk Tryz.func29 rfl trivial rfl
theorem rExt_no (w x : Nat) (n : Int) (s : Bool) (hwb : w ≤ 128) (h : n < 0 ∨ (128 : Int) < w + n) : ACall Tryz.prog 29 [.d (vN w x), vI .i64 n, vB s] [] (fun r o => r = tupOf [.d z24, vI .i64 5]) := by
  refine acall_enter Tryz.func29 rfl rfl (Nat.le_of_ble_eq_true rfl) fun C hC hCl => ?_
  have e2 : IntKind.i64.wrap (128 - (w : Int)) = 128 - (w : Int) := wrap_id (by omega) (by omega)
  refine sat_branch tabOk Tryz.func29 rfl trivial (fun _ => ?_) (fun h1 => ?_)
  · refine sat_branch tabOk Tryz.func29 rfl trivial (fun _ => ?_) (fun h => by cases h)
    exact sat_ret tabOk Tryz.func29 rfl trivial rfl
  refine sat_branch tabOk Tryz.func29 rfl trivial (fun _ => ?_) (fun h2 => ?_)
  · exact sat_ret tabOk Tryz.func29 rfl trivial rfl
  · have h2 : decide (n > IntKind.i64.wrap (128 - (w : Int))) = false := h2
    rw [e2] at h2
    simp at h1 h2
    omega
end Go.Proofs.YtclamogkchdkgaaGreatDoor
namespace Go.Proofs.YtclamogkchdkgaaGreatDoor
open Go Ab
set_option maxRecDepth 100000
set_option linter.unusedVariables false
set_option linter.unusedSimpArgs false
set_option maxHeartbeats 400000

/-- strings.Repeat of one digit. -/
def RepOk : Prop := ∀ (c : UInt8) (n : Nat), n ≤ 127 → ACall Tryz.prog 53 [vSL [c], vI .i64 n] [] (fun r o => r = vSL (List.replicate n c))
@[reducible] def cutD (w' : Int) (q : D) : D := .ag [eI w', q]
@[reducible] def cD (w : Int) (q : D) : AObj := .cells 24 [.d (eI w), .d q]
theorem vlen (w x : Nat) (hw : w ≤ 128) : (lmb (limbsN w) x).length ≤ 1000 := by rw [lmb_len]; unfold limbsN; omega
theorem Slice_both (w x : Nat) (lo hi : Int) (hwb : w ≤ 128) : ∃ (w' : Int) (q : D) (l' : List Nat) (f : Int), ACall Tryz.prog 26 [.d (vN w x), vI .i64 hi, vI .i64 lo] [] (fun r o => r = tupOf [.d (cutD w' q), vI .i64 f]) ∧ ACall Tryz.prog 27 [.d (vN w x), vI .i64 hi, vI .i64 lo] [] (fun r o => r = tupOf [.d (cutD w' q), vI .i64 f]) ∧ VLe (.d (cutD w' q)) (.d (eV w' l')) ∧ l'.length ≤ 1000 := by
  by_cases h : lo < 0 ∨ hi < lo ∨ (w : Int) ≤ hi
  · exact ⟨0, .v (.slice none 0 0), [], 5, Slice_no w x lo hi h, rSlice_no w x lo hi h, z24_le, by simp⟩
  · obtain ⟨a, rfl⟩ : ∃ a : Nat, lo = a := ⟨lo.toNat, by omega⟩
    obtain ⟨b, rfl⟩ : ∃ b : Nat, hi = b := ⟨hi.toNat, by omega⟩
    exact ⟨_, _, _, 0, Slice_ok w x a b hwb (by omega) (by omega), rSlice_ok w x a b hwb (by omega) (by omega), .refl _, vlen _ _ (by omega)⟩
theorem Ext_both (hr : RepOk) (w x : Nat) (n : Int) (s : Bool) (hw : 0 < w) (hwb : w ≤ 128) : ∃ (w' : Int) (q : D) (l' : List Nat) (f : Int), ACall Tryz.prog 28 [.d (vN w x), vI .i64 n, vB s] [] (fun r o => r = tupOf [.d (cutD w' q), vI .i64 f]) ∧ ACall Tryz.prog 29 [.d (vN w x), vI .i64 n, vB s] [] (fun r o => r = tupOf [.d (cutD w' q), vI .i64 f]) ∧ VLe (.d (cutD w' q)) (.d (eV w' l')) ∧ l'.length ≤ 1000 := by
  by_cases h : n < 0 ∨ (128 : Int) < w + n
  · exact ⟨0, .v (.slice none 0 0), [], 5, Ext_no w x n s hwb h, rExt_no w x n s hwb h, z24_le, by simp⟩
  · obtain ⟨a, rfl⟩ : ∃ a : Nat, n = a := ⟨n.toNat, by omega⟩
    exact ⟨_, _, _, 0, Ext_ok w x a s hw hwb (by omega) (hr _ a (by omega)), rExt_ok w x a s hw hwb (by omega), .refl _, vlen _ _ (by omega)⟩
theorem Ite_both (u c w x v y : Nat) (hc : c < 2 ^ u) (hwb : w ≤ 128) : ∃ (w' : Int) (q : D) (l' : List Nat) (f : Int), ACall Tryz.prog 30 [.d (vN u c), .d (vN w x), .d (vN v y)] [] (fun r o => r = tupOf [.d (cutD w' q), vI .i64 f]) ∧ ACall Tryz.prog 31 [.d (vN u c), .d (vN w x), .d (vN v y)] [] (fun r o => r = tupOf [.d (cutD w' q), vI .i64 f]) ∧ VLe (.d (cutD w' q)) (.d (eV w' l')) ∧ l'.length ≤ 1000 := by
  by_cases h : u ≠ 1 ∨ w ≠ v
  · exact ⟨0, .v (.slice none 0 0), [], 5, Ite_no c u w v x y h, rIte_no c u w v x y h, z24_le, by simp⟩
  · obtain ⟨rfl, rfl⟩ : u = 1 ∧ w = v := by omega
    exact ⟨_, _, _, 0, Ite_ok c w x y hc, rIte_ok c w x y hc, .refl _, vlen _ _ hwb⟩

theorem VecCuts_law (hr : RepOk) (w v u i0 i1 i2 : Int) (s : Bool) (l k m : List Nat) (hl : lims l) (hk : lims k) (hm : lims m) (hll : l.length ≤ maxLen) (hkl : k.length ≤ maxLen) (hml : m.length ≤ maxLen) : ACall Tryz.prog 5 [.d (.ag [eI w, eUs l, eI v, eUs k, eI u, eUs m, eI i0, eI i1, eI i2, .v (.bool s)])] [] (fun r o => r = vB true) := by
  refine acall_enter Tryz.func5 rfl rfl (Nat.le_of_ble_eq_true rfl) fun C hC hCl => ?_
  refine sat_call tabOk Tryz.func5 rfl trivial shown_call (.refl _) rfl ⟨_, rfl⟩ (by rintro r o rfl; rfl) ?_
  rintro r o rfl
  refine sat_le (env' := [(3, .ptr 1 0), (4, .ptr 2 0), (5, .ptr 3 0), (6, .ptr 4 0), (7, vB s), (31, vB true)]) (objs' := [none, some (bV w l), some (bV v k), some (bV u m), some (.cells 43 [vI .i64 i0, vI .i64 i1, vI .i64 i2])]) ?_ hC hCl ⟨⟨_, rfl, .refl _⟩, ⟨_, rfl, .refl _⟩, ⟨_, rfl, .refl _⟩, ⟨_, rfl, .refl _⟩, ⟨_, rfl, .refl _⟩, ⟨_, rfl, .refl _⟩, trivial⟩ ⟨.refl _, .refl _, .refl _, .refl _, trivial⟩ rfl rfl (Nat.zero_le _)
  refine sat_call tabOk Tryz.func5 rfl trivial (rRight_call w l hl hll) (.refl _) rfl ⟨_, rfl⟩ (by rintro r o rfl; rfl) ?_
  rintro r o rfl
  refine sat_branch tabOk Tryz.func5 rfl trivial (fun h1 => ?_) (fun h1 => ?_)
  · refine sat_branch tabOk Tryz.func5 rfl trivial (fun _ => ?_) (fun h => by cases h)
    refine sat_branch tabOk Tryz.func5 rfl trivial (fun _ => ?_) (fun h => by cases h)
    exact sat_ret tabOk Tryz.func5 rfl trivial rfl
  refine sat_call tabOk Tryz.func5 rfl trivial (rRight_call v k hk hkl) (.refl _) rfl ⟨_, rfl⟩ (by rintro r o rfl; rfl) ?_
  rintro r o rfl
  refine sat_branch tabOk Tryz.func5 rfl trivial (fun h2 => ?_) (fun h2 => ?_)
  · refine sat_branch tabOk Tryz.func5 rfl trivial (fun _ => ?_) (fun h => by cases h)
    exact sat_ret tabOk Tryz.func5 rfl trivial rfl
  refine sat_call tabOk Tryz.func5 rfl trivial (rRight_call u m hm hml) (.refl _) rfl ⟨_, rfl⟩ (by rintro r o rfl; rfl) ?_
  rintro r o rfl
  refine sat_branch tabOk Tryz.func5 rfl trivial (fun h3 => ?_) (fun h3 => ?_)
  · exact sat_ret tabOk Tryz.func5 rfl trivial rfl
  have r1 : rightV w l = true := by cases h : rightV w l with | true => rfl | false => rw [h] at h1; cases h1
  have r2 : rightV v k = true := by cases h : rightV v k with | true => rfl | false => rw [h] at h2; cases h2
  have r3 : rightV u m = true := by cases h : rightV u m with | true => rfl | false => rw [h] at h3; cases h3
  obtain ⟨n, x, rfl, n1, n2, hx, rfl⟩ := right_lmb hl r1
  obtain ⟨p, y, rfl, p1, p2, hy, rfl⟩ := right_lmb hk r2
  obtain ⟨q, z, rfl, q1, q2, hz, rfl⟩ := right_lmb hm r3
  obtain ⟨wa, qa, la, fa, a1, a2, a3, a4⟩ := Slice_both n x i1 i0 n2
  obtain ⟨wb, qb, lb, fb, b1, b2, b3, b4⟩ := Ext_both hr n x i2 s (by omega) n2
  obtain ⟨wc, qc, lc, fc, c1, c2, c3, c4⟩ := Ite_both q z n x p y hz n2
  refine sat_call tabOk Tryz.func5 rfl trivial a1 (.refl _) rfl ⟨_, rfl⟩ (by rintro r o rfl; rfl) ?_
  rintro r o rfl
  refine sat_le (env' := [(3, .ptr 1 0), (4, .ptr 2 0), (5, .ptr 3 0), (6, .ptr 4 0), (7, vB s), (8, vB true), (52, tupOf [.d (cutD wa qa), vI .i64 fa])]) (objs' := [none, some (bN n x), some (bN p y), some (bN q z), some (.cells 43 [vI .i64 i0, vI .i64 i1, vI .i64 i2])]) ?_ hC hCl ⟨⟨_, rfl, .refl _⟩, ⟨_, rfl, .refl _⟩, ⟨_, rfl, .refl _⟩, ⟨_, rfl, .refl _⟩, ⟨_, rfl, .refl _⟩, ⟨_, rfl, .refl _⟩, ⟨_, rfl, .refl _⟩, trivial⟩ ⟨.refl _, .refl _, .refl _, .refl _, trivial⟩ rfl rfl (Nat.zero_le _)
  refine sat_call tabOk Tryz.func5 rfl trivial a2 (.refl _) rfl ⟨_, rfl⟩ (by rintro r o rfl; rfl) ?_
  rintro r o rfl
  refine sat_le (env' := [(3, .ptr 1 0), (4, .ptr 2 0), (5, .ptr 3 0), (6, .ptr 4 0), (7, vB s), (8, vB true), (9, .ptr 5 0), (10, vI .i64 fa), (61, tupOf [.d (cutD wa qa), vI .i64 fa])]) (objs' := [none, some (bN n x), some (bN p y), some (bN q z), some (.cells 43 [vI .i64 i0, vI .i64 i1, vI .i64 i2]), some (cD wa qa)]) ?_ hC hCl ⟨⟨_, rfl, .refl _⟩, ⟨_, rfl, .refl _⟩, ⟨_, rfl, .refl _⟩, ⟨_, rfl, .refl _⟩, ⟨_, rfl, .refl _⟩, ⟨_, rfl, .refl _⟩, ⟨_, rfl, .refl _⟩, ⟨_, rfl, .refl _⟩, ⟨_, rfl, .refl _⟩, trivial⟩ ⟨.refl _, .refl _, .refl _, .refl _, .refl _, trivial⟩ rfl rfl (Nat.zero_le _)
  refine sat_call tabOk Tryz.func5 rfl trivial b1 (.refl _) rfl ⟨_, rfl⟩ (by rintro r o rfl; rfl) ?_
  rintro r o rfl
  refine sat_le (env' := [(3, .ptr 1 0), (4, .ptr 2 0), (5, .ptr 3 0), (6, .ptr 4 0), (7, vB s), (8, vB true), (9, .ptr 5 0), (10, vI .i64 fa), (11, .ptr 6 0), (12, vI .i64 fa), (69, tupOf [.d (cutD wb qb), vI .i64 fb])]) (objs' := [none, some (bN n x), some (bN p y), some (bN q z), some (.cells 43 [vI .i64 i0, vI .i64 i1, vI .i64 i2]), some (cD wa qa), some (cD wa qa)]) ?_ hC hCl ⟨⟨_, rfl, .refl _⟩, ⟨_, rfl, .refl _⟩, ⟨_, rfl, .refl _⟩, ⟨_, rfl, .refl _⟩, ⟨_, rfl, .refl _⟩, ⟨_, rfl, .refl _⟩, ⟨_, rfl, .refl _⟩, ⟨_, rfl, .refl _⟩, ⟨_, rfl, .refl _⟩, ⟨_, rfl, .refl _⟩, ⟨_, rfl, .refl _⟩, trivial⟩ ⟨.refl _, .refl _, .refl _, .refl _, .refl _, .refl _, trivial⟩ rfl rfl (Nat.zero_le _)
  refine sat_call tabOk Tryz.func5 rfl trivial b2 (.refl _) rfl ⟨_, rfl⟩ (by rintro r o rfl; rfl) ?_
  rintro r o rfl
  refine sat_le (env' := [(3, .ptr 1 0), (4, .ptr 2 0), (5, .ptr 3 0), (6, .ptr 4 0), (7, vB s), (8, vB true), (9, .ptr 5 0), (10, vI .i64 fa), (11, .ptr 6 0), (12, vI .i64 fa), (13, .ptr 7 0), (14, vI .i64 fb), (77, tupOf [.d (cutD wb qb), vI .i64 fb])]) (objs' := [none, some (bN n x), some (bN p y), some (bN q z), some (.cells 43 [vI .i64 i0, vI .i64 i1, vI .i64 i2]), some (cD wa qa), some (cD wa qa), some (cD wb qb)]) ?_ hC hCl ⟨⟨_, rfl, .refl _⟩, ⟨_, rfl, .refl _⟩, ⟨_, rfl, .refl _⟩, ⟨_, rfl, .refl _⟩, ⟨_, rfl, .refl _⟩, ⟨_, rfl, .refl _⟩, ⟨_, rfl, .refl _⟩, ⟨_, rfl, .refl _⟩, ⟨_, rfl, .refl _⟩, ⟨_, rfl, .refl _⟩, ⟨_, rfl, .refl _⟩, ⟨_, rfl, .refl _⟩, ⟨_, rfl, .refl _⟩, trivial⟩ ⟨.refl _, .refl _, .refl _, .refl _, .refl _, .refl _, .refl _, trivial⟩ rfl rfl (Nat.zero_le _)
  refine sat_call tabOk Tryz.func5 rfl trivial c1 (.refl _) rfl ⟨_, rfl⟩ (by rintro r o rfl; rfl) ?_
  rintro r o rfl
  refine sat_le (env' := [(3, .ptr 1 0), (4, .ptr 2 0), (5, .ptr 3 0), (6, .ptr 4 0), (7, vB s), (8, vB true), (9, .ptr 5 0), (10, vI .i64 fa), (11, .ptr 6 0), (12, vI .i64 fa), (13, .ptr 7 0), (14, vI .i64 fb), (15, .ptr 8 0), (16, vI .i64 fb), (84, tupOf [.d (cutD wc qc), vI .i64 fc])]) (objs' := [none, some (bN n x), some (bN p y), some (bN q z), some (.cells 43 [vI .i64 i0, vI .i64 i1, vI .i64 i2]), some (cD wa qa), some (cD wa qa), some (cD wb qb), some (cD wb qb)]) ?_ hC hCl ⟨⟨_, rfl, .refl _⟩, ⟨_, rfl, .refl _⟩, ⟨_, rfl, .refl _⟩, ⟨_, rfl, .refl _⟩, ⟨_, rfl, .refl _⟩, ⟨_, rfl, .refl _⟩, ⟨_, rfl, .refl _⟩, ⟨_, rfl, .refl _⟩, ⟨_, rfl, .refl _⟩, ⟨_, rfl, .refl _⟩, ⟨_, rfl, .refl _⟩, ⟨_, rfl, .refl _⟩, ⟨_, rfl, .refl _⟩, ⟨_, rfl, .refl _⟩, ⟨_, rfl, .refl _⟩, trivial⟩ ⟨.refl _, .refl _, .refl _, .refl _, .refl _, .refl _, .refl _, .refl _, trivial⟩ rfl rfl (Nat.zero_le _)
  refine sat_call tabOk Tryz.func5 rfl trivial c2 (.refl _) rfl ⟨_, rfl⟩ (by rintro r o rfl; rfl) ?_
  rintro r o rfl
  refine sat_le (env' := [(3, .ptr 1 0), (4, .ptr 2 0), (5, .ptr 3 0), (6, .ptr 4 0), (7, vB s), (8, vB true), (9, .ptr 5 0), (10, vI .i64 fa), (11, .ptr 6 0), (12, vI .i64 fa), (13, .ptr 7 0), (14, vI .i64 fb), (15, .ptr 8 0), (16, vI .i64 fb), (17, .ptr 9 0), (18, vI .i64 fc), (91, tupOf [.d (cutD wc qc), vI .i64 fc])]) (objs' := [none, some (bN n x), some (bN p y), some (bN q z), some (.cells 43 [vI .i64 i0, vI .i64 i1, vI .i64 i2]), some (cD wa qa), some (cD wa qa), some (cD wb qb), some (cD wb qb), some (cD wc qc)]) ?_ hC hCl ⟨⟨_, rfl, .refl _⟩, ⟨_, rfl, .refl _⟩, ⟨_, rfl, .refl _⟩, ⟨_, rfl, .refl _⟩, ⟨_, rfl, .refl _⟩, ⟨_, rfl, .refl _⟩, ⟨_, rfl, .refl _⟩, ⟨_, rfl, .refl _⟩, ⟨_, rfl, .refl _⟩, ⟨_, rfl, .refl _⟩, ⟨_, rfl, .refl _⟩, ⟨_, rfl, .refl _⟩, ⟨_, rfl, .refl _⟩, ⟨_, rfl, .refl _⟩, ⟨_, rfl, .refl _⟩, ⟨_, rfl, .refl _⟩, ⟨_, rfl, .refl _⟩, trivial⟩ ⟨.refl _, .refl _, .refl _, .refl _, .refl _, .refl _, .refl _, .refl _, .refl _, trivial⟩ rfl rfl (Nat.zero_le _)
  refine sat_branch tabOk Tryz.func5 rfl trivial (fun _ => ?_) (fun h => by cases h)
  refine sat_call tabOk Tryz.func5 rfl trivial (rSame_call wa wa la la (by omega)) ⟨a3, a3, trivial⟩ rfl ⟨_, rfl⟩ (by rintro r o rfl; rfl) ?_
  rintro r o rfl
  rw [sameV_self]
  refine sat_branch tabOk Tryz.func5 rfl trivial (fun _ => ?_) (fun h => by cases h)
  refine sat_branch tabOk Tryz.func5 rfl trivial (fun _ => ?_) (fun h => by simp at h)
  refine sat_call tabOk Tryz.func5 rfl trivial (rSame_call wb wb lb lb (by omega)) ⟨b3, b3, trivial⟩ rfl ⟨_, rfl⟩ (by rintro r o rfl; rfl) ?_
  rintro r o rfl
  rw [sameV_self]
  refine sat_branch tabOk Tryz.func5 rfl trivial (fun _ => ?_) (fun h => by cases h)
  refine sat_branch tabOk Tryz.func5 rfl trivial (fun _ => ?_) (fun h => by simp at h)
  refine sat_call tabOk Tryz.func5 rfl trivial (rSame_call wc wc lc lc (by omega)) ⟨c3, c3, trivial⟩ rfl ⟨_, rfl⟩ (by rintro r o rfl; rfl) ?_
  rintro r o rfl
  rw [sameV_self]
  refine sat_branch tabOk Tryz.func5 rfl trivial (fun _ => ?_) (fun h => by cases h)
  refine sat_ret tabOk Tryz.func5 rfl trivial ?_
  show vB (fc == fc) = _
  simp
end Go.Proofs.YtclamogkchdkgaaGreatDoor
