/- A part of the proof: Y5. -/
import Derived.Test.YtcenfhcemmlaeaaGreatDoorP19
set_option linter.unusedVariables false
set_option linter.unusedSimpArgs false
namespace Go.Proofs.YtcenfhcemmlaeaaGreatDoor
open Go Ab
set_option maxRecDepth 100000
set_option linter.unusedVariables false
set_option linter.unusedSimpArgs false
set_option maxHeartbeats 4000000

theorem valL_pre (l : List Nd) (st inp : List (Nat × Nat)) : ∀ n m j, j < n → n ≤ m → nm (valL l st inp m) j = nm (valL l st inp n) j := fun n m j h1 h2 => by
  rw [valL_at _ _ _ _ _ h1, valL_at _ _ _ _ _ (by omega)]
/-- A line of two: joined, or of the same width and reckoned. -/
theorem two_val {l : List Nd} (ty : Ty l) {st inp : List (Nat × Nat)} (hs : Fit l kState st) (hi : Fit l kInput inp) {v : List (Nat × Nat)} (hv : valL l st inp l.length = v) {i : Nat} (hlt : i < l.length) (hx : isVal (nd l i).op = true) (h2 : (nd l i).a.length = 2) {A B : Nat × Nat} (hA : nm v ((nd l i).a.getD 0 0 - 1).toNat = A) (hB : nm v ((nd l i).a.getD 1 0 - 1).toNat = B) :
    (1 ≤ (nd l i).a.getD 0 0 ∧ (nd l i).a.getD 0 0 ≤ l.length ∧ 1 ≤ (nd l i).a.getD 1 0 ∧ (nd l i).a.getD 1 0 ≤ l.length) ∧ A.2 < 2 ^ A.1 ∧ B.2 < 2 ^ B.1 ∧ 0 < A.1 ∧ 0 < B.1 ∧ A.1 ≤ 128 ∧ B.1 ≤ 128 ∧
    (((nd l i).op = kConcat ∧ A.1 + B.1 ≤ 128 ∧ nm v i = (A.1 + B.1, jnN A.1 A.2 B.1 B.2)) ∨ ((nd l i).op ≠ kConcat ∧ A.1 = B.1 ∧ binR (nd l i).op A.1 A.2 B.2 = some (nm v i))) := by
  have hk := ty.node i hlt
  have k1 : (nd l i).op ≠ kState := fun e => by
    have := hk.al
    rw [h2, e] at this
    exact absurd this (by decide)
  have k2 : (nd l i).op ≠ kInput := fun e => by
    have := hk.al
    rw [h2, e] at this
    exact absurd this (by decide)
  have b0 := hk.ab _ (getD_mem (i := 0) (l := (nd l i).a) 0 (by omega))
  have b1 := hk.ab _ (getD_mem (i := 1) (l := (nd l i).a) 0 (by omega))
  have hop := (opV_ok ty hlt (valL_ok ty hs hi i (by omega)) hx k1 k2).1
  have hvi : nm v i = opV (nd l i) (takes (nd l i) (valL l st inp i)) := by
    rw [← hv, valL_at _ _ _ _ _ hlt, val1, if_neg (by rw [hx]; decide), if_neg k1, if_neg k2]
  have t0 : nm (takes (nd l i) (valL l st inp i)) 0 = A := by
    rw [takes_get (by omega), ← valL_pre l st inp i l.length _ (by omega) (by omega), hv]
    exact hA
  have t1 : nm (takes (nd l i) (valL l st inp i)) 1 = B := by
    rw [takes_get (by omega), ← valL_pre l st inp i l.length _ (by omega) (by omega), hv]
    exact hB
  have htl := takes_len (nd l i) (valL l st inp i)
  rw [hvi]
  generalize takes (nd l i) (valL l st inp i) = a at *
  generalize opV (nd l i) a = p at *
  refine ⟨⟨b0.1, by omega, b1.1, by omega⟩, ?_⟩
  rw [h2] at htl
  cases hop with
  | const h hm => cases htl
  | ite h hc hy hz => cases htl
  | slice h hwb g1 g2 hn e0 e1 => cases htl
  | ext h hw hwb hnb hy hn e0 => cases htl
  | un h hal hw hwb hy hp => cases htl
  | cat h hal hw hv hb hy hz =>
    rename_i w y u z
    subst t0 t1
    exact ⟨hy, hz, hw, hv, (by show w ≤ 128; omega), (by show u ≤ 128; omega), .inl ⟨h, hb, rfl⟩⟩
  | bin h g2 hal hw hwb hy hz hp =>
    subst t0 t1
    exact ⟨hy, hz, hw, hw, hwb, hwb, .inr ⟨g2, rfl, hp⟩⟩
theorem add_back {M x y : Nat} (hx : x < M) (hy : y < M) : ((x + y) % M + (M - (y + 1)) + 1) % M = x := by
  rw [show (x + y) % M + (M - (y + 1)) + 1 = (x + y) % M + (M - y) by omega, Nat.mod_add_mod, show x + y + (M - y) = x + M by omega, Nat.add_mod_right, Nat.mod_eq_of_lt hx]
theorem app_list (a b : List UInt8) : ((⟨a.toArray⟩ : ByteArray) ++ (⟨b.toArray⟩ : ByteArray)) = ⟨(a ++ b).toArray⟩ := by
  apply ByteArray.ext
  simp
theorem slt_irr (b : Bool) (x : Nat) : ((b && !b) || ((b == b) && decide (x < x))) = false := by cases b <;> simp

theorem WordOps_law (l : List Nd) (st inp : List Vr) (hm : MdB l) (hl : l.length < 2000000000000) (hq : ∀ a ∈ st, QVr a) (hi : ∀ a ∈ inp, QVr a) : ACall Tryz.prog 7 [.d (eBt l), .d (eRow st), .d (eRow inp)] [] (fun r o => r = vB true) := by
  refine acall_enter Tryz.func7 rfl rfl (Nat.le_of_ble_eq_true rfl) fun C hC hCl hDs => ?_
  refine sat_call tabOk Tryz.func7 rfl trivial shown15_call (.refl _) rfl ⟨_, rfl⟩ (by rintro r o rfl; rfl) ?_
  rintro _ o rfl
  refine sat_call tabOk Tryz.func7 rfl trivial (typed14_call l hm 40 (by decide) hl) (.refl _) rfl ⟨_, rfl⟩ (by rintro r o ⟨b, rfl, -⟩; rfl) ?_
  rintro r o ⟨b, rfl, hb⟩
  refine sat_branch tabOk Tryz.func7 rfl trivial (fun h1 => ?_) (fun h1 => ?_)
  · refine sat_branch tabOk Tryz.func7 rfl trivial (fun _ => ?_) (fun h => by cases h)
    exact sat_ret tabOk Tryz.func7 rfl trivial rfl
  have ty := (hb (by simpa using h1)).2
  have hlb := ty.small
  refine sat_call tabOk Tryz.func7 rfl trivial (Few_call [st, inp] 2 (by decide)) ⟨VLe.eL_c (CLes.refl _), .refl _, trivial⟩ rfl ⟨_, rfl⟩ (by rintro r o ⟨b, rfl, -⟩; rfl) ?_
  rintro r o ⟨b2, rfl, -⟩
  refine sat_branch tabOk Tryz.func7 rfl trivial (fun h2 => ?_) (fun h2 => ?_)
  · exact sat_ret tabOk Tryz.func7 rfl trivial rfl
  cases hF : (fitB l kState st && fitB l kInput inp) with
  | false =>
    refine sat_call tabOk Tryz.func7 rfl trivial (Values_no l hm ty st inp hq hi hF) (.refl _) rfl ⟨_, rfl⟩ (by rintro r o rfl; rfl) ?_
    rintro _ o rfl
    refine sat_branch tabOk Tryz.func7 rfl trivial (fun _ => ?_) (fun h => by cases h)
    exact sat_ret tabOk Tryz.func7 rfl trivial rfl
  | true =>
    rw [Bool.and_eq_true] at hF
    obtain ⟨e1, f1⟩ := fit_nums hq hF.1
    obtain ⟨e2, f2⟩ := fit_nums hi hF.2
    have hv := valL_ok ty f1 f2 l.length (Nat.le_refl _)
    have c1 := Values_ok l hm ty _ _ f1 f2
    have hvs := vok_ns ty hv
    rw [e1, e2, eRow_nums, eRow_nums]
    obtain ⟨v, hve⟩ : ∃ v, valL l (numsOf st) (numsOf inp) l.length = v := ⟨_, rfl⟩
    have htwo := fun i hlt hx h2 => two_val (i := i) ty f1 f2 hve hlt hx h2 rfl rfl
    rw [hve] at hv c1 hvs
    have hvl := hv.len
    refine sat_call tabOk Tryz.func7 rfl trivial c1 (.refl _) rfl ⟨_, rfl⟩ (by rintro r o rfl; rfl) ?_
    rintro _ o rfl
    refine sat_branch tabOk Tryz.func7 rfl trivial (fun h => by cases h) (fun _ => ?_)
    refine sat_branch tabOk Tryz.func7 rfl trivial (fun h3 => ?_) (fun _ => ?_)
    · have h3 : (((v.map fun p : Nat × Nat => vN p.1 p.2).length : Int) != ((l.map eNd).length : Int)) = true := h3
      rw [List.length_map, List.length_map, hvl] at h3
      simp at h3
    refine sat_stop tabOk Tryz.func7 rfl trivial ?_
    refine sat_while (α := Nat) (fun i => [(3, .ptr 0 0), (7, vB true), (8, .d (eNums v)), (10, vI .i64 (i : Int))]) (fun i => [some (bBt l)]) (fun i => i ≤ l.length) (fun i => l.length - i) 0 (Nat.zero_le _) ?_ ?_
    · exact fun h => sat_le h hC hCl ⟨⟨_, rfl, .refl _⟩, ⟨_, rfl, .refl _⟩, ⟨_, rfl, .refl _⟩, ⟨_, rfl, .refl _⟩, trivial⟩ ⟨.refl _, trivial⟩ rfl rfl (Nat.zero_le _)
    rintro i hi2 ih
    refine sat_branch tabOk Tryz.func7 rfl trivial (fun hb => ?_) (fun hb => ?_) <;> simp only [List.length_map, decide_eq_true_eq, decide_eq_false_iff_not] at hb
    rotate_left
    · exact sat_ret tabOk Tryz.func7 rfl trivial rfl
    have hlt : i < l.length := by omega
    refine sat_branch tabOk Tryz.func7 rfl (by simp only [andP, and_true, true_and, Int.toNat_natCast, List.length_map, List.length_append, List.length_cons, List.length_nil, List.length_replicate]; omega) (fun h2 => ?_) (fun h2 => ?_)
    · refine sat_branch tabOk Tryz.func7 rfl trivial (fun _ => ?_) (fun h => by cases h)
      refine sat_stop tabOk Tryz.func7 rfl trivial ?_
      exact sat_le (ih (i + 1) (by omega) (by omega)) hC hCl ⟨⟨_, rfl, .refl _⟩, ⟨_, rfl, .refl _⟩, ⟨_, rfl, .refl _⟩, ⟨_, rfl, .of (by rw [wrap_id (by omega) (by omega)]; rfl)⟩, trivial⟩ ⟨.refl _, trivial⟩ rfl rfl (Nat.zero_le _)
    have h2 : (((((nd l i).a.map eI).length : Nat) : Int) != 2) = false := h2
    have h2 : (nd l i).a.length = 2 := by
      rw [List.length_map, bne_eq_false_iff_eq] at h2
      omega
    refine sat_call tabOk Tryz.func7 rfl trivial (IsValue_call (nd l i)) (.refl _) rfl ⟨_, rfl⟩ (by rintro r o rfl; rfl) ?_
    rintro _ o rfl
    refine sat_branch tabOk Tryz.func7 rfl trivial (fun hx => ?_) (fun hx => ?_)
    · refine sat_stop tabOk Tryz.func7 rfl trivial ?_
      exact sat_le (ih (i + 1) (by omega) (by omega)) hC hCl ⟨⟨_, rfl, .refl _⟩, ⟨_, rfl, .refl _⟩, ⟨_, rfl, .refl _⟩, ⟨_, rfl, .of (by rw [wrap_id (by omega) (by omega)]; rfl)⟩, trivial⟩ ⟨.refl _, trivial⟩ rfl rfl (Nat.zero_le _)
    have hx : isVal (nd l i).op = true := by simpa using hx
    obtain ⟨⟨b1, b2, b3, b4⟩, hA, hB, wA, wB, uA, uB, hval⟩ := htwo i hlt hx h2
    have oi := okNs_nm hvs i
    have w0 : IntKind.i64.wrap ((nd l i).a.getD 0 0 - 1) = (nd l i).a.getD 0 0 - 1 := wrap_id (by omega) (by omega)
    have w1 : IntKind.i64.wrap ((nd l i).a.getD 1 0 - 1) = (nd l i).a.getD 1 0 - 1 := wrap_id (by omega) (by omega)
    generalize hAe : nm v ((nd l i).a.getD 0 0 - 1).toNat = A at *
    generalize hBe : nm v ((nd l i).a.getD 1 0 - 1).toNat = B at *
    generalize hPe : nm v i = P at *
    refine sat_call tabOk Tryz.func7 rfl ?nd (rSameN_call A.1 A.2 B.1 B.2 hA hB (by omega)) ⟨.of ?a0, .of ?a1, trivial⟩ rfl ⟨_, rfl⟩ (by rintro r o rfl; rfl) ?kk
    case nd =>
      simp only [andP, Int.toNat_natCast, show Int.toNat 0 = 0 from rfl, show Int.toNat 1 = 1 from rfl, w0, w1, List.length_map, h2, hvl]
      exact ⟨⟨by omega, by omega⟩, ⟨by decide, by decide⟩, ⟨by omega, by omega⟩, ⟨by decide, by decide⟩, trivial⟩
    case a0 => exact arg_eq w0 hAe
    case a1 => exact arg_eq w1 hBe
    case kk =>
    rintro _ o rfl
    have kLoop : ASat Tryz.prog 7 Tryz.f7.ntmps C _ [(3, .ptr 0 0), (7, vB true), (8, .d (eNums v)), (10, vI .i64 ((i + 1 : Nat) : Int))] [some (bBt l)] (fun r o => r = vB true) := ih (i + 1) (by omega) (by omega)
    refine sat_branch tabOk Tryz.func7 rfl trivial (fun g => ?_) (fun g => ?_) <;> rw [show ((⟨#[97, 100, 100]⟩ : ByteArray)) = ⟨kAdd.toArray⟩ from rfl, strB] at g
    · have g : (nd l i).op = kAdd := of_decide_eq_true g
      rcases hval with ⟨g2, _⟩ | ⟨_, hw, hP⟩
      · rw [g] at g2
        exact absurd g2 (by decide)
      rw [g] at hP
      obtain rfl := Option.some.inj (hP.symm.trans (show binR kAdd A.1 A.2 B.2 = some (A.1, (A.2 + B.2) % 2 ^ A.1) from rfl))
      have hB' : B.2 < 2 ^ A.1 := by rw [hw]; exact hB
      have hsub := rBin_call sSub A.1 ((A.2 + B.2) % 2 ^ A.1) B.2 (by decide) (Nat.mod_lt _ (Nat.two_pow_pos _)) hB' wA uA
      rw [show binR sSub A.1 ((A.2 + B.2) % 2 ^ A.1) B.2 = some (A.1, ((A.2 + B.2) % 2 ^ A.1 + (2 ^ A.1 - (B.2 + 1)) + 1) % 2 ^ A.1) from rfl, add_back hA hB', show rbinA (some (A.1, A.2)) = tupOf [.d (vN A.1 A.2), vI .i64 0] from rfl] at hsub
      refine sat_draw1S 11 9 10 (c := none) (a := .dead) (o2 := bN A.1 A.2) tabOk Tryz.func7 rfl rfl trivial (by kernel_rfl) (by kernel_rfl) rfl rfl rfl (by kernel_rfl) (by rw [hCl, hC]; exact Nat.zero_le _) rfl rfl rfl rfl rfl rfl
        (fun _ => ds_call tabOk rfl (by simp only [List.length_map, hvl]; exact ⟨⟨by omega, by omega⟩, trivial⟩) hsub (callFunc_run Tryz.func30 rfl rfl) (by rintro r o rfl; rfl) ⟨.refl _, .of (by show AV.d (vN (nm v i).1 (nm v i).2) = _; rw [hPe]), .of ((arg_eq w1 hBe).trans (by rw [hw])), trivial⟩ rfl rfl ⟨_, rfl⟩ (ds_done tabOk rfl trivial rfl))
        (by rfl) (by rfl) (by rfl) (by rfl) trivial ?_
      refine sat_call tabOk Tryz.func7 rfl trivial (rSame_self ⟨hA, uA⟩) ⟨.refl _, .of (arg_eq w0 hAe), trivial⟩ rfl ⟨_, rfl⟩ (by rintro r o rfl; rfl) ?_
      rintro _ o rfl
      refine sat_branch tabOk Tryz.func7 rfl trivial (fun h => by cases h) (fun _ => ?_)
      refine sat_stop tabOk Tryz.func7 rfl trivial ?_
      exact sat_le kLoop hC hCl ⟨⟨_, rfl, .refl _⟩, ⟨_, rfl, .refl _⟩, ⟨_, rfl, .refl _⟩, ⟨_, rfl, .of (by rw [wrap_id (by omega) (by omega)]; rfl)⟩, trivial⟩ ⟨.refl _, trivial⟩ rfl rfl (Nat.zero_le _)
    have n1 : ¬ (nd l i).op = kAdd := of_decide_eq_false g
    refine sat_branch tabOk Tryz.func7 rfl trivial (fun g => ?_) (fun g => ?_) <;> rw [show ((⟨#[101, 113]⟩ : ByteArray)) = ⟨kEq.toArray⟩ from rfl, strB] at g
    · have g : (nd l i).op = kEq := of_decide_eq_true g
      rcases hval with ⟨g2, _⟩ | ⟨_, hw, hP⟩
      · rw [g] at g2
        exact absurd g2 (by decide)
      rw [g] at hP
      obtain rfl := Option.some.inj (hP.symm.trans (show binR kEq A.1 A.2 B.2 = some (1, if A.2 = B.2 then 1 else 0) from rfl))
      refine sat_call tabOk Tryz.func7 rfl (by simp only [List.length_map, hvl]; exact ⟨⟨by omega, by omega⟩, trivial⟩) (rBit_call 1 (if A.2 = B.2 then 1 else 0) 0 (by decide)) ⟨.of (by show AV.d (vN (nm v i).1 (nm v i).2) = _; rw [hPe]), .refl _, trivial⟩ rfl ⟨_, rfl⟩ (by rintro r o rfl; rfl) ?_
      rintro _ o rfl
      refine sat_branch tabOk Tryz.func7 rfl trivial (fun h => ?_) (fun h => ?_)
      · have h : (bitI' 1 (if A.2 = B.2 then 1 else 0) 0 != (decide (A.1 = B.1) && decide (A.2 = B.2))) = true := h
        rw [decide_eq_true hw] at h
        by_cases he : A.2 = B.2
        · rw [if_pos he, decide_eq_true he] at h
          exact absurd h (by decide)
        · rw [if_neg he, decide_eq_false he] at h
          exact absurd h (by decide)
      refine sat_stop tabOk Tryz.func7 rfl trivial ?_
      exact sat_le kLoop hC hCl ⟨⟨_, rfl, .refl _⟩, ⟨_, rfl, .refl _⟩, ⟨_, rfl, .refl _⟩, ⟨_, rfl, .of (by rw [wrap_id (by omega) (by omega)]; rfl)⟩, trivial⟩ ⟨.refl _, trivial⟩ rfl rfl (Nat.zero_le _)
    have n2 : ¬ (nd l i).op = kEq := of_decide_eq_false g
    refine sat_branch tabOk Tryz.func7 rfl trivial (fun g => ?_) (fun g => ?_) <;> rw [show ((⟨#[117, 108, 116]⟩ : ByteArray)) = ⟨kUlt.toArray⟩ from rfl, strB] at g
    · have g : (nd l i).op = kUlt := of_decide_eq_true g
      rcases hval with ⟨g2, _⟩ | ⟨_, hw, hP⟩
      · rw [g] at g2
        exact absurd g2 (by decide)
      rw [g] at hP
      obtain rfl := Option.some.inj (hP.symm.trans (show binR kUlt A.1 A.2 B.2 = some (1, if A.2 < B.2 then 1 else 0) from rfl))
      refine sat_branch tabOk Tryz.func7 rfl trivial (fun h => ?_) (fun h => ?_)
      · have h : (decide (A.1 = B.1) && decide (A.2 = B.2)) = true := h
        rw [Bool.and_eq_true, decide_eq_true_eq, decide_eq_true_eq] at h
        refine sat_call tabOk Tryz.func7 rfl (by simp only [List.length_map, hvl]; exact ⟨⟨by omega, by omega⟩, trivial⟩) (rBit_call 1 0 0 (by decide)) ⟨.of (by show AV.d (vN (nm v i).1 (nm v i).2) = _; rw [hPe, if_neg (by omega)]), .refl _, trivial⟩ rfl ⟨_, rfl⟩ (by rintro r o rfl; rfl) ?_
        rintro _ o rfl
        refine sat_branch tabOk Tryz.func7 rfl trivial (fun h => absurd h (by decide)) (fun _ => ?_)
        refine sat_stop tabOk Tryz.func7 rfl trivial ?_
        exact sat_le kLoop hC hCl ⟨⟨_, rfl, .refl _⟩, ⟨_, rfl, .refl _⟩, ⟨_, rfl, .refl _⟩, ⟨_, rfl, .of (by rw [wrap_id (by omega) (by omega)]; rfl)⟩, trivial⟩ ⟨.refl _, trivial⟩ rfl rfl (Nat.zero_le _)
      · refine sat_branch tabOk Tryz.func7 rfl trivial (fun h => by cases h) (fun _ => ?_)
        refine sat_stop tabOk Tryz.func7 rfl trivial ?_
        exact sat_le kLoop hC hCl ⟨⟨_, rfl, .refl _⟩, ⟨_, rfl, .refl _⟩, ⟨_, rfl, .refl _⟩, ⟨_, rfl, .of (by rw [wrap_id (by omega) (by omega)]; rfl)⟩, trivial⟩ ⟨.refl _, trivial⟩ rfl rfl (Nat.zero_le _)
    have n3 : ¬ (nd l i).op = kUlt := of_decide_eq_false g
    refine sat_branch tabOk Tryz.func7 rfl trivial (fun g => ?_) (fun g => ?_) <;> rw [show ((⟨#[115, 108, 116]⟩ : ByteArray)) = ⟨kSlt.toArray⟩ from rfl, strB] at g
    · have g : (nd l i).op = kSlt := of_decide_eq_true g
      rcases hval with ⟨g2, _⟩ | ⟨_, hw, hP⟩
      · rw [g] at g2
        exact absurd g2 (by decide)
      rw [g] at hP
      obtain rfl := Option.some.inj (hP.symm.trans (show binR kSlt A.1 A.2 B.2 = some (1, if (A.2.testBit (A.1 - 1) && !B.2.testBit (A.1 - 1)) || ((A.2.testBit (A.1 - 1) == B.2.testBit (A.1 - 1)) && decide (A.2 < B.2)) then 1 else 0) from rfl))
      refine sat_branch tabOk Tryz.func7 rfl trivial (fun h => ?_) (fun h => ?_)
      · have h : (decide (A.1 = B.1) && decide (A.2 = B.2)) = true := h
        rw [Bool.and_eq_true, decide_eq_true_eq, decide_eq_true_eq] at h
        refine sat_call tabOk Tryz.func7 rfl (by simp only [List.length_map, hvl]; exact ⟨⟨by omega, by omega⟩, trivial⟩) (rBit_call 1 0 0 (by decide)) ⟨.of (by show AV.d (vN (nm v i).1 (nm v i).2) = _; rw [hPe, h.2, slt_irr]; rfl), .refl _, trivial⟩ rfl ⟨_, rfl⟩ (by rintro r o rfl; rfl) ?_
        rintro _ o rfl
        refine sat_branch tabOk Tryz.func7 rfl trivial (fun h => absurd h (by decide)) (fun _ => ?_)
        refine sat_stop tabOk Tryz.func7 rfl trivial ?_
        exact sat_le kLoop hC hCl ⟨⟨_, rfl, .refl _⟩, ⟨_, rfl, .refl _⟩, ⟨_, rfl, .refl _⟩, ⟨_, rfl, .of (by rw [wrap_id (by omega) (by omega)]; rfl)⟩, trivial⟩ ⟨.refl _, trivial⟩ rfl rfl (Nat.zero_le _)
      · refine sat_branch tabOk Tryz.func7 rfl trivial (fun h => by cases h) (fun _ => ?_)
        refine sat_stop tabOk Tryz.func7 rfl trivial ?_
        exact sat_le kLoop hC hCl ⟨⟨_, rfl, .refl _⟩, ⟨_, rfl, .refl _⟩, ⟨_, rfl, .refl _⟩, ⟨_, rfl, .of (by rw [wrap_id (by omega) (by omega)]; rfl)⟩, trivial⟩ ⟨.refl _, trivial⟩ rfl rfl (Nat.zero_le _)
    refine sat_branch tabOk Tryz.func7 rfl trivial (fun g => ?_) (fun g => ?_) <;> rw [show ((⟨#[99, 111, 110, 99, 97, 116]⟩ : ByteArray)) = ⟨kConcat.toArray⟩ from rfl, strB] at g
    · have g : (nd l i).op = kConcat := of_decide_eq_true g
      rcases hval with ⟨_, hs, hP⟩ | ⟨g2, _⟩
      rotate_left
      · exact absurd g g2
      subst hP
      refine sat_drawT 8 tabOk Tryz.func7 rfl rfl trivial (by kernel_rfl) ?_
      refine ds_call tabOk rfl (by simp only [List.length_map, hvl]; exact ⟨⟨by omega, by omega⟩, trivial⟩) (rText_call (A.1 + B.1) (jnN A.1 A.2 B.1 B.2) (by omega)) (callFunc_run Tryz.func28 rfl rfl) (by rintro r o rfl; rfl) ⟨.of (by show AV.d (vN (nm v i).1 (nm v i).2) = _; rw [hPe]), trivial⟩ rfl rfl ⟨_, rfl⟩ ?_
      refine ds_call tabOk rfl trivial (rText_call A.1 A.2 (by omega)) (callFunc_run Tryz.func28 rfl rfl) (by rintro r o rfl; rfl) ⟨.of (arg_eq w0 hAe), trivial⟩ rfl rfl ⟨_, rfl⟩ ?_
      refine ds_done tabOk rfl trivial ?_
      refine sat_call tabOk Tryz.func7 rfl trivial (rText_call B.1 B.2 (by omega)) ⟨.of (arg_eq w1 hBe), trivial⟩ rfl ⟨_, rfl⟩ (by rintro r o rfl; rfl) ?_
      rintro _ o rfl
      refine sat_branch tabOk Tryz.func7 rfl ?nd (fun h => ?_) (fun h => ?_)
      case nd => exact ⟨by rw [size_list, size_list, txt_len, txt_len]; omega, trivial⟩
      · have h : (!((⟨(txt (A.1 + B.1) (jnN A.1 A.2 B.1 B.2)).toArray⟩ : ByteArray).toList == ((⟨(txt A.1 A.2).toArray⟩ : ByteArray) ++ (⟨(txt B.1 B.2).toArray⟩ : ByteArray)).toList)) = true := h
        rw [app_list, txt_jn, strB] at h
        simp at h
      refine sat_stop tabOk Tryz.func7 rfl trivial ?_
      exact sat_le kLoop hC hCl ⟨⟨_, rfl, .refl _⟩, ⟨_, rfl, .refl _⟩, ⟨_, rfl, .refl _⟩, ⟨_, rfl, .of (by rw [wrap_id (by omega) (by omega)]; rfl)⟩, trivial⟩ ⟨.refl _, trivial⟩ rfl rfl (Nat.zero_le _)
    · refine sat_stop tabOk Tryz.func7 rfl trivial ?_
      exact sat_le kLoop hC hCl ⟨⟨_, rfl, .refl _⟩, ⟨_, rfl, .refl _⟩, ⟨_, rfl, .refl _⟩, ⟨_, rfl, .of (by rw [wrap_id (by omega) (by omega)]; rfl)⟩, trivial⟩ ⟨.refl _, trivial⟩ rfl rfl (Nat.zero_le _)
end Go.Proofs.YtcenfhcemmlaeaaGreatDoor
