/- A part of the proof: V5, V6, Ab47, V7. -/
import Derived.Test.YtcenfhcemmlaeaaGreatDoorP8
import Derived.Laws.Externs
set_option linter.unusedVariables false
set_option linter.unusedSimpArgs false
namespace Go.Proofs.YtcenfhcemmlaeaaGreatDoor
open Go Ab
set_option maxRecDepth 100000
set_option linter.unusedVariables false
set_option linter.unusedSimpArgs false

theorem Add64_call (x y c : Nat) (hx : x < 18446744073709551616) (hy : y < 18446744073709551616) (hc : c ≤ 1) : ACall Tryz.prog 170 [vU x, vU y, vU c] [] (fun r o => r = .tp [vU ((x + y + c) % 18446744073709551616), vU ((x + y + c) / 18446744073709551616)]) := by
  intro X π w vs hm hv
  cases hv with | cons h1 hv => cases hv with | cons h2 hv => cases hv with | cons h3 hv =>
  cases hv
  cases h1 with | d h1 => cases h1 with | v _ =>
  cases h2 with | d h2 => cases h2 with | v _ =>
  cases h3 with | d h3 => cases h3 with | v _ =>
  refine .inr ⟨.tuple #[.int .u64 (Int.ofNat ((x + y + c) % 18446744073709551616)), .int .u64 (Int.ofNat ((x + y + c) / 18446744073709551616))], w, ?_, ?_⟩
  · show (callFunc 170 #[.int .u64 (x : Int), .int .u64 (y : Int), .int .u64 (c : Int)]).run Tryz.prog w = _
    rw [run_callFunc_extern (e := add64Entry) Tryz.func170 rfl rfl (by kernel_rfl) (by kernel_rfl), run_add64 _ _ _ (by omega) (by omega) (by omega) (by omega)]
    rfl
  · exact ⟨_, _, _, π, rfl, rfl, hm, .tp (.cons (.d (.v rfl)) (.cons (.d (.v rfl)) .nil)), .refl _ _ _⟩

@[reducible] def cU (c : Nat) : AObj := .cells 95 [vU c]
theorem sum1_call (x y c : Nat) (hx : x < 18446744073709551616) (hy : y < 18446744073709551616) (hc : c ≤ 1) : ACall Tryz.prog 169 [vU x, vU y, .ptr 0 0] [some (cU c)] (fun r o => r = vU ((x + y + c) % 18446744073709551616) ∧ o = [some (cU ((x + y + c) / 18446744073709551616))]) := by
  refine acall_enter Tryz.func169 rfl rfl (Nat.le_of_ble_eq_true rfl) fun C hC hCl hDs => ?_
  refine sat_call tabOk Tryz.func169 rfl trivial (Add64_call x y c hx hy hc) (.refl _) rfl ⟨_, rfl⟩ (by rintro r o rfl; rfl) ?_
  rintro r o rfl
  refine sat_retL tabOk Tryz.func169 rfl trivial hC hCl (.refl _) (o2 := [some (cU ((x + y + c) / 18446744073709551616))]) ⟨.refl _, trivial⟩ rfl rfl (Nat.le_refl _) ⟨rfl, rfl⟩
end Go.Proofs.YtcenfhcemmlaeaaGreatDoor
namespace Go.Proofs.YtcenfhcemmlaeaaGreatDoor
open Go Ab
set_option maxRecDepth 100000
set_option linter.unusedVariables false
set_option linter.unusedSimpArgs false

/-- The carry ahead of each number, and the sums. -/
def crN (c : Nat) (a b : List Nat) : Nat → Nat
  | 0 => c
  | i + 1 => (a.getD i 0 + b.getD i 0 + crN c a b i) / 18446744073709551616
def sumN (c : Nat) (a b : List Nat) (i : Nat) : Nat := (a.getD i 0 + b.getD i 0 + crN c a b i) % 18446744073709551616
def sumV (c : Nat) (a b : List Nat) (n : Nat) : List Nat := (List.range n).map (sumN c a b)
theorem crN_le {c : Nat} {a b : List Nat} (ha : lims a) (hb : lims b) (hc : c ≤ 1) : ∀ i, crN c a b i ≤ 1
  | 0 => hc
  | i + 1 => by
    have := crN_le ha hb hc i
    have h1 := lims_get ha i
    have h2 := lims_get hb i
    simp only [crN]
    omega
theorem sumV_lims (c : Nat) (a b : List Nat) (n : Nat) : lims (sumV c a b n) := by
  intro x hx
  obtain ⟨i, _, rfl⟩ := List.mem_map.1 hx
  exact Nat.mod_lt _ (by decide)

theorem eachC_call (w : Nat) (v : Int) (a b : List Nat) (c : Nat) (ha : lims a) (hb : lims b) (hla : a.length = limbsN w) (hlb : b.length = limbsN w) (hw : 0 < w) (hwb : w ≤ 1000000) (hc : c ≤ 1) :
    ACall Tryz.prog 167 [.d (eV w a), .d (eV v b), .fn (.func 169) [.ptr 0 0]] [some (cU c)] (fun r o => r = .d (eV w (cutL w (sumV c a b (limbsN w)))) ∧ o = [some (cU (crN c a b (limbsN w)))]) := by
  refine acall_enter Tryz.func167 rfl rfl (Nat.le_of_ble_eq_true rfl) fun C hC hCl hDs => ?_
  have hln : 0 < limbsN w ∧ limbsN w ≤ 1000000 := by unfold limbsN; omega
  have hzl : (sumV c a b (limbsN w)).length = limbsN w := by simp [sumV]
  refine sat_callG [] tabOk Tryz.func167 rfl trivial (none_call w hwb) trivial (.refl _) rfl rfl rfl ⟨_, rfl⟩ ?_
  rintro r o ⟨rfl, rfl⟩
  refine sat_stop tabOk Tryz.func167 rfl trivial ?_
  refine sat_while (α := Nat) (fun i => [(2, .fn (.func 169) [.ptr 0 0]), (3, .ptr 1 0), (4, .ptr 2 0), (6, .ptr 3 0), (7, .ptr 6 0), (14, vI .i64 (limbsN w)), (15, vI .i64 i)]) (fun i => [some (cU (crN c a b i)), some (bV w a), some (bV v b), some zV, none, some (gUs ((sumV c a b (limbsN w)).take i ++ List.replicate (limbsN w - i) 0)), some (cV w 5)]) (fun i => i ≤ limbsN w) (fun i => limbsN w - i) 0 (Nat.zero_le _) ?_ ?_
  · refine fun h => sat_le h hC hCl ⟨⟨_, rfl, .refl _⟩, ⟨_, rfl, .refl _⟩, ⟨_, rfl, .refl _⟩, ⟨_, rfl, .refl _⟩, ⟨_, rfl, .refl _⟩, ⟨_, rfl, .of ?_⟩, ⟨_, rfl, .refl _⟩, trivial⟩ ⟨.refl _, .refl _, .refl _, .refl _, .gL (by simp), .refl _, trivial⟩ rfl rfl (Nat.le_of_ble_eq_true rfl)
    show vI .i64 ((List.map eU (List.replicate (limbsN w) 0)).length : Int) = _
    rw [List.length_map, List.length_replicate]
  rintro i hi ih
  refine sat_branch tabOk Tryz.func167 rfl trivial (fun hb2 => ?_) (fun hb2 => ?_) <;> simp only [decide_eq_true_eq, decide_eq_false_iff_not, List.length_map] at hb2
  · have hlt : i < limbsN w := by omega
    have hx := lims_get ha i
    have hy := lims_get hb i
    have hcr := crN_le ha hb hc i
    have hzi : (sumV c a b (limbsN w))[i]'(by omega) = sumN c a b i := by simp [sumV]
    have hset := fill_set (sumV c a b (limbsN w)) 0 i (by omega)
    rw [hzi, hzl] at hset
    refine sat_drawE 14 [0] tabOk Tryz.func167 rfl rfl (objs1 := [some (cU (crN c a b (i + 1))), some (bV w a), some (bV v b), some zV, none, some (gUs ((sumV c a b (limbsN w)).take i ++ List.replicate (limbsN w - i) 0)), some (cV w 5)]) (r0 := vU (sumN c a b i)) trivial (by kernel_rfl) rfl (ds_done tabOk rfl ?_ rfl) (ds_done tabOk rfl ?_ rfl) rfl rfl rfl rfl (callFunc_run Tryz.func169 rfl rfl) (sum1_call _ _ _ hx hy hcr) ⟨⟨_, rfl, .refl _⟩, trivial⟩ (.refl _) rfl rfl rfl ?_ rfl ?_
    · exact (by simp only [andP, and_true, true_and, Int.toNat_natCast, List.length_map, List.length_append, List.length_cons, List.length_nil, List.length_replicate]; omega)
    · exact (by simp only [andP, and_true, true_and, Int.toNat_natCast, List.length_map, List.length_append, List.length_cons, List.length_nil, List.length_replicate]; omega)
    · rintro r o ⟨rfl, rfl⟩
      exact ⟨rfl, rfl⟩
    refine sat_stop tabOk Tryz.func167 rfl ?_ ?_
    · exact (by simp only [andP, and_true, true_and, Int.toNat_natCast, List.length_map, List.length_append, List.length_cons, List.length_nil, List.length_replicate, List.length_take, hzl]; omega)
    refine sat_le (ih (i + 1) (by omega) (by omega)) hC hCl ⟨⟨_, rfl, .refl _⟩, ⟨_, rfl, .refl _⟩, ⟨_, rfl, .refl _⟩, ⟨_, rfl, .refl _⟩, ⟨_, rfl, .refl _⟩, ⟨_, rfl, .refl _⟩, ⟨_, rfl, .of (by rw [wrap_id (by omega) (by omega)]; rfl)⟩, trivial⟩ ⟨.refl _, .refl _, .refl _, .refl _, .gL ?_, .refl _, trivial⟩ rfl rfl (Nat.le_of_ble_eq_true rfl)
    rw [← hset, List.map_set]
    rfl
  · obtain rfl : i = limbsN w := by omega
    have e1 : (sumV c a b (limbsN w)).take (limbsN w) ++ List.replicate (limbsN w - limbsN w) 0 = sumV c a b (limbsN w) := by
      rw [Nat.sub_self, List.replicate_zero, List.append_nil, List.take_of_length_le (by omega)]
    rw [e1]
    refine sat_callG [6, 5] tabOk Tryz.func167 rfl trivial (cut_call w (sumV c a b (limbsN w)) (sumV_lims c a b _) (by omega) (by omega) hwb) ⟨⟨_, rfl, .refl _⟩, ⟨_, rfl, .refl _⟩, trivial⟩ (.refl _) rfl rfl rfl ⟨_, rfl⟩ ?_
    rintro r o ⟨rfl, rfl⟩
    refine sat_freeze 5 rfl ?_
    exact sat_retL tabOk Tryz.func167 rfl trivial hC hCl (.refl _) (o2 := [some (cU (crN c a b (limbsN w)))]) ⟨.refl _, trivial⟩ rfl rfl (Nat.le_refl _) ⟨rfl, rfl⟩
end Go.Proofs.YtcenfhcemmlaeaaGreatDoor
set_option linter.unusedSimpArgs false
set_option linter.unusedVariables false
namespace Ab
open Go

theorem ACall.frz (ι : List Nat) {P : Program} {f : FuncId} {az : List AV} {objs o1 o2 : List (Option AObj)} {r1 r2 r3 : AV} {env2 : Env} (h : ACall P f az objs (fun r o => r = r1 ∧ o = o1)) (hz : frzI ι [] o1 [r1] = some (env2, o2, [r2])) (hle : VLe r2 r3) : ACall P f az objs (fun r o => r = r3) := by
  intro X π w vs m hv
  refine (h X π w vs m hv).mono ?_
  rintro e w' ⟨v, r, o, π', rfl, ⟨rfl, rfl⟩, hm, hrel, hh⟩
  obtain ⟨m2, h2, _, r2⟩ := freeze_all (C := ⟨X, π, objs, w, []⟩) (tmps := #[]) ι hz hm hh (fun t a ht => by simp [look] at ht) (.cons hrel .nil)
  cases r2 with | cons hr _ => exact ⟨v, _, o2, π', rfl, rfl, m2, hle _ _ _ _ hr, h2⟩
end Ab
namespace Go.Proofs.YtcenfhcemmlaeaaGreatDoor
open Go Ab
set_option maxRecDepth 100000
set_option linter.unusedVariables false
set_option linter.unusedSimpArgs false

def sumR (w c : Nat) (a b : List Nat) : List Nat := cutL w (sumV c a b (limbsN w))
theorem sum_call (w : Nat) (v : Int) (a b : List Nat) (c : Nat) (ha : lims a) (hb : lims b) (hla : a.length = limbsN w) (hlb : b.length = limbsN w) (hw : 0 < w) (hwb : w ≤ 1000000) (hc : c ≤ 1) : ACall Tryz.prog 159 [.d (eV w a), .d (eV v b), vU c] [] (fun r o => r = .d (eV w (sumR w c a b))) := by
  refine acall_enter Tryz.func159 rfl rfl (Nat.le_of_ble_eq_true rfl) fun C hC hCl hDs => ?_
  refine sat_callG [2] tabOk Tryz.func159 rfl trivial (eachC_call w v a b c ha hb hla hlb hw hwb hc) ⟨⟨_, rfl, .refl _⟩, trivial⟩ (.refl _) rfl rfl rfl ⟨_, rfl⟩ ?_
  rintro r o ⟨rfl, rfl⟩
  exact sat_ret tabOk Tryz.func159 rfl trivial rfl

def notN (x _ : Nat) : Nat := 18446744073709551615 - x
theorem turned1_call (x y : Nat) (hx : x < 18446744073709551616) : ACall Tryz.prog 168 [vU x, vU y] [] (fun r o => r = vU (notN x y)) := by
  refine acall_enter Tryz.func168 rfl rfl (Nat.le_of_ble_eq_true rfl) fun C hC hCl hDs => ?_
  refine sat_ret tabOk Tryz.func168 rfl trivial ?_
  show vI .u64 _ = vI .u64 _
  rw [notU hx]
  rfl
theorem turned_call (w : Nat) (a : List Nat) (ha : lims a) (hla : a.length = limbsN w) (hw : 0 < w) (hwb : w ≤ 1000000) : ACall Tryz.prog 157 [.d (eV w a)] [] (fun r o => r = .d (eV w (cutL w (List.zipWith notN a a)))) := by
  refine acall_enter Tryz.func157 rfl rfl (Nat.le_of_ble_eq_true rfl) fun C hC hCl hDs => ?_
  refine sat_call tabOk Tryz.func157 rfl trivial (each_call w w a a 168 notN ha ha hla hla hw hwb (callFunc_run Tryz.func168 rfl rfl) (fun x y hx _ => by unfold notN; omega) (fun x y hx _ => turned1_call x y hx)) (.refl _) rfl ⟨_, rfl⟩ (by rintro r o rfl; rfl) ?_
  rintro r o rfl
  exact sat_ret tabOk Tryz.func157 rfl trivial rfl

theorem and1_call (x y : Nat) (hx : x < 18446744073709551616) (hy : y < 18446744073709551616) : ACall Tryz.prog 181 [vU x, vU y] [] (fun r o => r = vU (x &&& y)) := by
  refine acall_enter Tryz.func181 rfl rfl (Nat.le_of_ble_eq_true rfl) fun C hC hCl hDs => ?_
  refine sat_ret tabOk Tryz.func181 rfl trivial ?_
  show vI .u64 _ = vI .u64 _
  rw [andU hx hy]
theorem or1_call (x y : Nat) (hx : x < 18446744073709551616) (hy : y < 18446744073709551616) : ACall Tryz.prog 183 [vU x, vU y] [] (fun r o => r = vU (x ||| y)) := by
  refine acall_enter Tryz.func183 rfl rfl (Nat.le_of_ble_eq_true rfl) fun C hC hCl hDs => ?_
  refine sat_ret tabOk Tryz.func183 rfl trivial ?_
  show vI .u64 _ = vI .u64 _
  rw [orU hx hy]
theorem xor1_call (x y : Nat) (hx : x < 18446744073709551616) (hy : y < 18446744073709551616) : ACall Tryz.prog 185 [vU x, vU y] [] (fun r o => r = vU (x ^^^ y)) := by
  refine acall_enter Tryz.func185 rfl rfl (Nat.le_of_ble_eq_true rfl) fun C hC hCl hDs => ?_
  refine sat_ret tabOk Tryz.func185 rfl trivial ?_
  show vI .u64 _ = vI .u64 _
  rw [xorU hx hy]
theorem and_call (w : Nat) (v : Int) (a b : List Nat) (ha : lims a) (hb : lims b) (hla : a.length = limbsN w) (hlb : b.length = limbsN w) (hw : 0 < w) (hwb : w ≤ 1000000) : ACall Tryz.prog 180 [.d (eV w a), .d (eV v b)] [] (fun r o => r = .d (eV w (cutL w (List.zipWith (· &&& ·) a b)))) := by
  refine acall_enter Tryz.func180 rfl rfl (Nat.le_of_ble_eq_true rfl) fun C hC hCl hDs => ?_
  refine sat_call tabOk Tryz.func180 rfl trivial (each_call w v a b 181 (· &&& ·) ha hb hla hlb hw hwb (callFunc_run Tryz.func181 rfl rfl) (fun x y hx _ => Nat.lt_of_le_of_lt Nat.and_le_left hx) (fun x y hx hy => and1_call x y hx hy)) (.refl _) rfl ⟨_, rfl⟩ (by rintro r o rfl; rfl) ?_
  rintro r o rfl
  exact sat_ret tabOk Tryz.func180 rfl trivial rfl
theorem or_call (w : Nat) (v : Int) (a b : List Nat) (ha : lims a) (hb : lims b) (hla : a.length = limbsN w) (hlb : b.length = limbsN w) (hw : 0 < w) (hwb : w ≤ 1000000) : ACall Tryz.prog 182 [.d (eV w a), .d (eV v b)] [] (fun r o => r = .d (eV w (cutL w (List.zipWith (· ||| ·) a b)))) := by
  refine acall_enter Tryz.func182 rfl rfl (Nat.le_of_ble_eq_true rfl) fun C hC hCl hDs => ?_
  refine sat_call tabOk Tryz.func182 rfl trivial (each_call w v a b 183 (· ||| ·) ha hb hla hlb hw hwb (callFunc_run Tryz.func183 rfl rfl) (fun x y hx hy => Nat.or_lt_two_pow (n := 64) hx hy) (fun x y hx hy => or1_call x y hx hy)) (.refl _) rfl ⟨_, rfl⟩ (by rintro r o rfl; rfl) ?_
  rintro r o rfl
  exact sat_ret tabOk Tryz.func182 rfl trivial rfl
theorem xor_call (w : Nat) (v : Int) (a b : List Nat) (ha : lims a) (hb : lims b) (hla : a.length = limbsN w) (hlb : b.length = limbsN w) (hw : 0 < w) (hwb : w ≤ 1000000) : ACall Tryz.prog 184 [.d (eV w a), .d (eV v b)] [] (fun r o => r = .d (eV w (cutL w (List.zipWith (· ^^^ ·) a b)))) := by
  refine acall_enter Tryz.func184 rfl rfl (Nat.le_of_ble_eq_true rfl) fun C hC hCl hDs => ?_
  refine sat_call tabOk Tryz.func184 rfl trivial (each_call w v a b 185 (· ^^^ ·) ha hb hla hlb hw hwb (callFunc_run Tryz.func185 rfl rfl) (fun x y hx hy => Nat.xor_lt_two_pow (n := 64) hx hy) (fun x y hx hy => xor1_call x y hx hy)) (.refl _) rfl ⟨_, rfl⟩ (by rintro r o rfl; rfl) ?_
  rintro r o rfl
  exact sat_ret tabOk Tryz.func184 rfl trivial rfl

theorem flag_callO (b : Bool) : ACall Tryz.prog 163 [vB b] [] (fun r o => r = .ag [vI .i64 1, .gs 2] ∧ o = [none, none, some (gUs [if b then 1 else 0])]) := by
  refine acall_enter Tryz.func163 rfl rfl (Nat.le_of_ble_eq_true rfl) fun C hC hCl hDs => ?_
  refine sat_callG [] tabOk Tryz.func163 rfl trivial (none_call 1 (by decide)) trivial (.refl _) rfl rfl rfl ⟨_, rfl⟩ ?_
  rintro r o ⟨rfl, rfl⟩
  refine sat_branch tabOk Tryz.func163 rfl trivial (fun h => ?_) (fun h => ?_)
  · subst h
    exact sat_retL tabOk Tryz.func163 rfl (by simp [andP, limbsN]) hC hCl (.refl _) (o2 := [none, none, some (gUs [1])]) ⟨.gL rfl, trivial⟩ rfl rfl (Nat.zero_le _) ⟨rfl, rfl⟩
  · subst h
    exact sat_retL tabOk Tryz.func163 rfl trivial hC hCl (.refl _) (o2 := [none, none, some (gUs [0])]) ⟨.gL rfl, trivial⟩ rfl rfl (Nat.zero_le _) ⟨rfl, rfl⟩
theorem flag_call (b : Bool) : ACall Tryz.prog 163 [vB b] [] (fun r o => r = .d (eV 1 [if b then 1 else 0])) := (flag_callO b).frz [2] rfl (.agL (.refl _))

def upI (a : List Nat) (w n : Nat) : Nat → List Nat
  | 0 => List.replicate (limbsN w) 0
  | i + 1 => if bitN a i then setB (upI a w n i) (i + n) else upI a w n i
theorem upI_len (a : List Nat) (w n : Nat) : ∀ i, (upI a w n i).length = limbsN w
  | 0 => by simp [upI]
  | i + 1 => by
    simp only [upI]
    split
    · rw [setB_len, upI_len]
    · exact upI_len a w n i
theorem lims_zero (n : Nat) : lims (List.replicate n 0) := fun x hx => by rw [(List.mem_replicate.1 hx).2]; decide
theorem upI_lims (a : List Nat) (w n : Nat) : ∀ i, lims (upI a w n i)
  | 0 => lims_zero _
  | i + 1 => by
    simp only [upI]
    split
    · exact setB_lims (upI_lims a w n i) _
    · exact upI_lims a w n i

theorem up_callO (w n : Nat) (a : List Nat) (ha : lims a) (hla : a.length = limbsN w) (hw : w ≤ 100000) (hn : n ≤ 100000) : ACall Tryz.prog 178 [.d (eV w a), vI .i64 n] [] (fun r o => r = .ag [vI .i64 w, .gs 3] ∧ o = [none, none, none, some (gUs (upI a w n (w - n)))]) := by
  refine acall_enter Tryz.func178 rfl rfl (Nat.le_of_ble_eq_true rfl) fun C hC hCl hDs => ?_
  refine sat_callG [] tabOk Tryz.func178 rfl trivial (none_call w (by omega)) trivial (.refl _) rfl rfl rfl ⟨_, rfl⟩ ?_
  rintro r o ⟨rfl, rfl⟩
  refine sat_stop tabOk Tryz.func178 rfl trivial ?_
  refine sat_while (α := Nat) (fun i => [(1, vI .i64 n), (2, .ptr 0 0), (4, .ptr 1 0), (5, .ptr 4 0), (14, vI .i64 ((w - n : Nat) : Int)), (15, vI .i64 i)]) (fun i => [some (bV w a), some zV, none, some (gUs (upI a w n i)), some (cV w 3)]) (fun i => i ≤ w - n) (fun i => w - n - i) 0 (Nat.zero_le _) ?_ ?_
  · refine fun h => sat_le h hC hCl ⟨⟨_, rfl, .refl _⟩, ⟨_, rfl, .refl _⟩, ⟨_, rfl, .refl _⟩, ⟨_, rfl, .refl _⟩, ⟨_, rfl, .of ?_⟩, ⟨_, rfl, .refl _⟩, trivial⟩ ⟨.refl _, .refl _, .gL rfl, .refl _, trivial⟩ rfl rfl (Nat.zero_le _)
    show vI .i64 (max (IntKind.i64.wrap ((w : Int) - n)) 0) = _
    rw [wrap_id (by omega) (by omega)]
    congr 4
    omega
  rintro i hi ih
  refine sat_branch tabOk Tryz.func178 rfl trivial (fun hb2 => ?_) (fun hb2 => ?_)
  · have hlt : i < w - n := by simp at hb2; omega
    refine sat_call tabOk Tryz.func178 rfl trivial (Bit_call w a i ha (by omega) (by omega)) (.refl _) rfl ⟨_, rfl⟩ (by rintro r o rfl; rfl) ?_
    rintro r o rfl
    have hbv : bitV w a (i : Int) = bitN a i := by
      have : (i : Int) < w := by omega
      simp [bitV, this]
    rw [hbv]
    refine sat_branch tabOk Tryz.func178 rfl trivial (fun h => ?_) (fun h => ?_)
    · have e1 : IntKind.i64.wrap ((i : Int) + n) = ((i + n : Nat) : Int) := by rw [wrap_id (by omega) (by omega)]; omega
      refine sat_callG [4, 3] tabOk Tryz.func178 rfl trivial (set_call w (i + n) (upI a w n i) (upI_lims a w n i) (by rw [upI_len]; exact limbs_at (by omega)) (by omega)) ⟨⟨_, rfl, .refl _⟩, ⟨_, rfl, .refl _⟩, trivial⟩ ⟨.refl _, .of (by show vI .i64 (IntKind.i64.wrap ((i : Int) + n)) = _; rw [e1]; rfl), trivial⟩ rfl rfl rfl ⟨_, rfl⟩ ?_
      rintro r o ⟨rfl, rfl⟩
      refine sat_stop tabOk Tryz.func178 rfl trivial ?_
      refine sat_le (ih (i + 1) (by omega) (by omega)) hC hCl ⟨⟨_, rfl, .refl _⟩, ⟨_, rfl, .refl _⟩, ⟨_, rfl, .refl _⟩, ⟨_, rfl, .refl _⟩, ⟨_, rfl, .refl _⟩, ⟨_, rfl, .of (by rw [wrap_id (by omega) (by omega)]; rfl)⟩, trivial⟩ ⟨.refl _, .refl _, .of (by rw [upI, if_pos h]; rfl), .refl _, trivial⟩ rfl rfl (Nat.zero_le _)
    · refine sat_stop tabOk Tryz.func178 rfl trivial ?_
      refine sat_le (ih (i + 1) (by omega) (by omega)) hC hCl ⟨⟨_, rfl, .refl _⟩, ⟨_, rfl, .refl _⟩, ⟨_, rfl, .refl _⟩, ⟨_, rfl, .refl _⟩, ⟨_, rfl, .refl _⟩, ⟨_, rfl, .of (by rw [wrap_id (by omega) (by omega)]; rfl)⟩, trivial⟩ ⟨.refl _, .refl _, .of (by rw [upI, if_neg (by simp [h])]), .refl _, trivial⟩ rfl rfl (Nat.zero_le _)
  · obtain rfl : i = w - n := by simp at hb2; omega
    exact sat_retL tabOk Tryz.func178 rfl trivial hC hCl (.refl _) (o2 := [none, none, none, some (gUs (upI a w n (w - n)))]) ⟨.refl _, trivial⟩ rfl rfl (Nat.zero_le _) ⟨rfl, rfl⟩
theorem up_call (w n : Nat) (a : List Nat) (ha : lims a) (hla : a.length = limbsN w) (hw : w ≤ 100000) (hn : n ≤ 100000) : ACall Tryz.prog 178 [.d (eV w a), vI .i64 n] [] (fun r o => r = .d (eV w (upI a w n (w - n)))) :=
  (up_callO w n a ha hla hw hn).frz [3] rfl (.agL (.refl _))
end Go.Proofs.YtcenfhcemmlaeaaGreatDoor
