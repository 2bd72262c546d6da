/- A part of the proof: LYS, K7, K8, K9, K10, K11, K12, K15, K16, K17, K18, K24, K26, K31, K32, K33, K34, K35, K36, K38, K42, K43, K44, K49, K52, K53, K54, K55, K72, C1, C2. -/
import Derived.Test.YtkemmijjpclckaaGreatDoorP14
import Derived.Ground.SlsfProg
import Derived.Shelf.SlSortCmp.NoneTotal
import Derived.Shelf.SlGeneric
import Derived.Test.YtkemmijjpclckaaGreatDoorProg
set_option linter.unusedVariables false
set_option linter.unusedSimpArgs false
namespace Go.Proofs
open Go.Shelf
def Tryz.sortL_ren : Go.Shelf.Ren := ⟨fun | 6 => 211 | 15 => 215 | 14 => 214 | 28 => 226 | 29 => 168 | 20 => 218 | 21 => 219 | 22 => 220 | 23 => 221 | 24 => 222 | 25 => 223 | 26 => 224 | 27 => 225 | 46 => 228 | 47 => 229 | 48 => 230 | 49 => 231 | 50 => 232 | 57 => 233 | n => n, fun | 22 => 24 | 24 => 3 | 25 => 272 | 3 => 3 | 39 => 238 | 0 => 0 | 53 => 236 | 55 => 218 | 4 => 4 | 46 => 277 | 45 => 276 | 50 => 165 | 5 => 5 | 9 => 9 | 66 => 282 | 70 => 286 | 76 => 288 | 77 => 52 | n => n, fun | n => n⟩
theorem Tryz.sortL : Go.Proofs.SlLaysF.n6 Tryz.prog Tryz.sortL_ren := {
  mixed := by kernel_rfl
  f6 := ⟨Tryz.f211.name, by decide, Tryz.func211.trans (congrArg some (by kernel_rfl))⟩
  f14 := ⟨Tryz.f214.name, by decide, Tryz.func214.trans (congrArg some (by kernel_rfl))⟩
  f15 := Tryz.func215.trans (congrArg some (by kernel_rfl))
  f20 := ⟨Tryz.f218.name, by decide, Tryz.func218.trans (congrArg some (by kernel_rfl))⟩
  f21 := ⟨Tryz.f219.name, by decide, Tryz.func219.trans (congrArg some (by kernel_rfl))⟩
  f22 := ⟨Tryz.f220.name, by decide, Tryz.func220.trans (congrArg some (by kernel_rfl))⟩
  f23 := ⟨Tryz.f221.name, by decide, Tryz.func221.trans (congrArg some (by kernel_rfl))⟩
  f24 := ⟨Tryz.f222.name, by decide, Tryz.func222.trans (congrArg some (by kernel_rfl))⟩
  f25 := ⟨Tryz.f223.name, by decide, Tryz.func223.trans (congrArg some (by kernel_rfl))⟩
  f26 := ⟨Tryz.f224.name, by decide, Tryz.func224.trans (congrArg some (by kernel_rfl))⟩
  f27 := ⟨Tryz.f225.name, by decide, Tryz.func225.trans (congrArg some (by kernel_rfl))⟩
  f28 := Tryz.func226.trans (congrArg some (by kernel_rfl))
  f29 := Tryz.func168.trans (congrArg some (by kernel_rfl))
  f46 := ⟨Tryz.f228.name, by decide, Tryz.func228.trans (congrArg some (by kernel_rfl))⟩
  f47 := Tryz.func229.trans (congrArg some (by kernel_rfl))
  f48 := Tryz.func230.trans (congrArg some (by kernel_rfl))
  f49 := ⟨Tryz.f231.name, by decide, Tryz.func231.trans (congrArg some (by kernel_rfl))⟩
  f50 := ⟨Tryz.f232.name, by decide, Tryz.func232.trans (congrArg some (by kernel_rfl))⟩
  f57 := ⟨Tryz.f233.name, by decide, Tryz.func233.trans (congrArg some (by kernel_rfl))⟩
  t0 := Tryz.underlying0
  a0 := Tryz.isAgg0
  z0 := Tryz.sizeOf0
  v0 := Tryz.zeroValue0
  t3 := Tryz.underlying3
  a3 := Tryz.isAgg3
  z3 := Tryz.sizeOf3
  v3 := Tryz.zeroValue3
  t4 := Tryz.underlying4
  a4 := Tryz.isAgg4
  z4 := Tryz.sizeOf4
  v4 := Tryz.zeroValue4
  t5 := Tryz.underlying5
  a5 := Tryz.isAgg5
  z5 := Tryz.sizeOf5
  v5 := Tryz.zeroValue5
  t9 := Tryz.underlying9
  a9 := Tryz.isAgg9
  z9 := Tryz.sizeOf9
  v9 := Tryz.zeroValue9
  t22 := Tryz.underlying24
  a22 := Tryz.isAgg24
  z22 := Tryz.sizeOf24
  v22 := Tryz.zeroValue24
  a24 := Tryz.isAgg3
  z24 := Tryz.sizeOf3
  t25 := Tryz.underlying272
  a25 := Tryz.isAgg272
  z25 := Tryz.sizeOf272
  v25 := Tryz.zeroValue272
  t39 := Tryz.underlying238
  a39 := Tryz.isAgg238
  z39 := Tryz.sizeOf238
  v39 := Tryz.zeroValue238
  t45 := Tryz.underlying276
  a45 := Tryz.isAgg276
  z45 := Tryz.sizeOf276
  v45 := Tryz.zeroValue276
  t46 := Tryz.underlying277
  a46 := Tryz.isAgg277
  z46 := Tryz.sizeOf277
  v46 := Tryz.zeroValue277
  t50 := Tryz.underlying165
  a50 := Tryz.isAgg165
  z50 := Tryz.sizeOf165
  v50 := Tryz.zeroValue165
  t53 := Tryz.underlying236
  a53 := Tryz.isAgg236
  z53 := Tryz.sizeOf236
  v53 := Tryz.zeroValue236
  t55 := Tryz.underlying218
  a55 := Tryz.isAgg218
  z55 := Tryz.sizeOf218
  v55 := Tryz.zeroValue218
  t66 := Tryz.underlying282
  a66 := Tryz.isAgg282
  z66 := Tryz.sizeOf282
  v66 := Tryz.zeroValue282
  t70 := Tryz.underlying286
  a70 := Tryz.isAgg286
  z70 := Tryz.sizeOf286
  v70 := Tryz.zeroValue286
  t76 := Tryz.underlying288
  a76 := Tryz.isAgg288
  z76 := Tryz.sizeOf288
  v76 := Tryz.zeroValue288
  t77 := Tryz.underlying52
  a77 := Tryz.isAgg52
  z77 := Tryz.sizeOf52
  v77 := Tryz.zeroValue52 }
end Go.Proofs
namespace Go.Proofs.YtkemmijjpclckaaGreatDoor
open Go Ab
set_option maxRecDepth 100000
set_option linter.unusedVariables false
set_option linter.unusedSimpArgs false

theorem Clone_call (c : List Int) (hlen : c.length ≤ 1000000) : ACall Tryz.prog 210 [.d (eIs c)] [] (fun r o => r = .gs 0 ∧ o = [some (gIs c)]) := by
  refine acall_enter Tryz.func210 rfl rfl (Nat.le_of_ble_eq_true rfl) fun C hC hCl hDs hGk => ?_
  have hC0 : C.objs.length ≤ [some (gIs c)].length := by rw [hC]; exact Nat.zero_le _
  refine sat_goto tabOk Tryz.func210 rfl trivial ?_
  refine sat_isnil tabOk rfl rfl rfl rfl rfl rfl rfl rfl (fun hx => ?_) ?_
  · have hc : c = [] := List.map_eq_nil_iff.1 hx
    subst hc
    refine sat_steps 6 tabOk Tryz.func210 rfl trivial ?_
    refine sat_own (e := 3) (s := 1) (t := 2) (.inl rfl) (fun i => eI (([] : List Int).getD i 0)) ?_
    refine sat_retL tabOk Tryz.func210 rfl trivial hC hCl (.refl _) (o2 := [some (gIs [])]) ⟨.refl _, trivial⟩ rfl rfl (Nat.zero_le _) ⟨rfl, rfl⟩
  · refine sat_retL tabOk Tryz.func210 rfl ?_ hC hCl (.refl _) (o2 := [some (gIs c)]) ⟨.gL rfl, trivial⟩ rfl rfl (Nat.zero_le _) ⟨rfl, rfl⟩
    simp only [andP, List.length_map]
    exact ⟨by show c.length * 8 ≤ _; omega, trivial⟩

abbrev Sm := {x : Int // -1000000 ≤ x ∧ x ≤ 1000000}
instance : Inhabited Sm := ⟨⟨0, by omega, by omega⟩⟩
def encS (x : Sm) : Value := .int .i64 x.1
def cfS (x y : Sm) : Int := byI x.1 y.1
theorem cmpI_lt (a b : Int) : cmpI a b < 0 ↔ a < b := by
  unfold cmpI
  split
  · simp; assumption
  · split <;> simp <;> omega
theorem cmpI_eq (a b : Int) : cmpI a b = 0 ↔ a = b := by
  unfold cmpI
  split
  · simp; omega
  · split
    · simp; omega
    · simp; omega
/-- By their variables, the one below 0 first. -/
def ltI (a b : Int) : Prop := max a (-a) < max b (-b) ∨ (max a (-a) = max b (-b) ∧ a < b)
instance (a b : Int) : Decidable (ltI a b) := by unfold ltI; infer_instance
theorem byI_lt (a b : Int) : byI a b < 0 ↔ ltI a b := by
  unfold byI ltI
  split
  · rename_i h
    rw [cmpI_eq] at h
    rw [cmpI_lt]
    omega
  · rename_i h
    rw [cmpI_eq] at h
    rw [cmpI_lt]
    omega
theorem ltS (x y : Sm) : Go.Proofs.ltOf cfS x y = decide (ltI x.1 y.1) := by
  have : Go.Proofs.ltOf cfS x y = decide (byI x.1 y.1 < 0) := rfl
  rw [this]
  simp only [byI_lt]
theorem ltI_trans {x y z : Int} (h : ltI x y) (k : ltI y z) : ltI x z := by unfold ltI at *; omega
theorem ltI_ntrans {x y z : Int} (h : ¬ ltI x y) (k : ¬ ltI y z) : ¬ ltI x z := by unfold ltI at *; omega
theorem ltI_tot {x y : Int} (h : ¬ ltI x y) (k : ¬ ltI y x) : x = y := by unfold ltI at *; omega
theorem ltI_irr (x : Int) : ¬ ltI x x := by unfold ltI; omega
theorem swoS : Go.Sort.SWO (Go.Proofs.ltOf cfS) where
  irrefl x := by rw [ltS]; simpa using ltI_irr x.1
  trans x y z h1 h2 := by
    rw [ltS, decide_eq_true_eq] at h1 h2 ⊢
    exact ltI_trans h1 h2
  ntrans x y z h1 h2 := by
    rw [ltS, decide_eq_false_iff_not] at h1 h2 ⊢
    exact ltI_ntrans h1 h2
theorem totS (x y : Sm) (h1 : Go.Proofs.ltOf cfS x y = false) (h2 : Go.Proofs.ltOf cfS y x = false) : x = y := by
  rw [ltS, decide_eq_false_iff_not] at h1 h2
  exact Subtype.ext (ltI_tot h1 h2)
def leI (x y : Int) : Bool := !decide (ltI y x)
def sortU (c : List Int) : List Int := Lib.compact (c.mergeSort leI)

def toS (x : Int) : Sm := if h : -1000000 ≤ x ∧ x ≤ 1000000 then ⟨x, h⟩ else default
theorem toS_val {x : Int} (h : -1000000 ≤ x ∧ x ≤ 1000000) : (toS x).1 = x := by simp [toS, h]
theorem sorted_val (cs : List Sm) : (cs.mergeSort fun x y => !(Go.Proofs.ltOf cfS) y x).map (·.1) = (cs.map (·.1)).mergeSort leI := by
  refine List.map_mergeSort fun a _ b _ => ?_
  rw [ltS]
  rfl

theorem SortFunc_call (c : List Int) (hc : ∀ x ∈ c, -1000000 ≤ x ∧ x ≤ 1000000) (hlen : c.length ≤ 1000000) (v : Value) :
    ACall Tryz.prog 211 [.gs 0, .d (.v (.func (.func 212) #[] #[]))] [some (gIs c), some (.hold (.gs 0) v)] (fun r o => r = .tp [] ∧ o = [some (gIs (c.mergeSort leI)), some (.hold (.gs 0) v)]) := by
  have e0 : (c.map toS).map (·.1) = c := by
    rw [List.map_map]
    conv => rhs; rw [← List.map_id c]
    exact List.map_congr_left fun x hx => toS_val (hc x hx)
  have h := sortFunc_acall Tryz.sortL (enc := encS) (fun _ => rfl) (fun _ => rfl) swoS totS (g := 212) (fun args w => callFunc_run Tryz.func212 rfl rfl args w) (fun args w => callFunc_run Tryz.func211 rfl rfl args w) (fun x y => @by_call Draws.all x.1 y.1 x.2 y.2) 3 (c.map toS) (fun i => eI (c.getD i 0)) (by simp; omega) v
  have e1 : ∀ l : List Sm, l.map (fun x => D.v (encS x)) = (l.map (·.1)).map eI := by intro l; rw [List.map_map]; rfl
  rw [e1, e0] at h
  refine h.less ?_
  rintro r o ⟨rfl, rfl⟩
  refine ⟨.tp [], [some (gIs (c.mergeSort leI)), some (.hold (.gs 0) v)], ⟨rfl, rfl⟩, .refl _, ⟨.gL ?_, .refl _, trivial⟩, rfl, rfl, Nat.le_refl _⟩
  rw [e1, sorted_val, e0]

theorem Sort_call (c : List Int) (hc : ∀ x ∈ c, -1000000 ≤ x ∧ x ≤ 1000000) (hlen : c.length ≤ 1000000) : ACall Tryz.prog 207 [.d (eIs c)] [] (fun r o => r = .d (eIs (sortU c))) := by
  refine acall_enter Tryz.func207 rfl rfl (Nat.le_of_ble_eq_true rfl) fun C hC hCl hDs hGk => ?_
  refine sat_callG [] tabOk Tryz.func207 rfl trivial (Clone_call c hlen) trivial (.refl _) rfl rfl rfl ⟨_, rfl⟩ ?_
  rintro r o ⟨rfl, rfl⟩
  refine sat_steps 5 tabOk Tryz.func207 rfl trivial ?_
  refine sat_hold 3 0 rfl fun v hv => ?_
  refine sat_callG [0, 1] tabOk Tryz.func207 rfl trivial (SortFunc_call c hc hlen v) ⟨⟨_, rfl, .refl _⟩, ⟨_, rfl, .refl _⟩, trivial⟩ (.refl _) rfl rfl rfl ⟨_, rfl⟩ ?_
  rintro r o ⟨rfl, rfl⟩
  refine sat_unhold 3 1 rfl rfl ?_
  refine sat_callG [0] tabOk Tryz.func207 rfl trivial (compact_call (c.mergeSort leI)) ⟨⟨_, rfl, .refl _⟩, trivial⟩ (.refl _) rfl rfl rfl ⟨_, rfl⟩ ?_
  rintro r o ⟨rfl, rfl⟩
  refine sat_freeze 0 rfl ?_
  refine sat_ret tabOk Tryz.func207 rfl trivial ?_
  rfl
end Go.Proofs.YtkemmijjpclckaaGreatDoor
namespace Go.Proofs.YtkemmijjpclckaaGreatDoor
open Go Ab
set_option maxRecDepth 100000
set_option linter.unusedVariables false
set_option linter.unusedSimpArgs false

/-! ### Formulas -/
@[reducible] def eCnf (n : Int) (l : List (List Int)) : D := .ag [eI n, eIss l]
end Go.Proofs.YtkemmijjpclckaaGreatDoor
namespace Go.Proofs.YtkemmijjpclckaaGreatDoor
open Go Ab
set_option maxRecDepth 100000
set_option linter.unusedVariables false
set_option linter.unusedSimpArgs false

instance (n x : Int) : Decidable (litOk n x) := by unfold litOk; infer_instance
def clOk (n : Int) (c : List Int) : Bool := decide (c.length ≤ 1000) && c.all (fun x => decide (litOk n x))
end Go.Proofs.YtkemmijjpclckaaGreatDoor
namespace Go.Proofs.YtkemmijjpclckaaGreatDoor
open Go Ab
set_option maxRecDepth 100000
set_option linter.unusedVariables false
set_option linter.unusedSimpArgs false

theorem negs_set (c : List Int) (i : Nat) (hi : i < c.length) : ((c.take i).map (fun x => -x) ++ List.replicate (c.length - i) 0).set i (-c[i]) = (c.take (i + 1)).map (fun x => -x) ++ List.replicate (c.length - (i + 1)) 0 := by
  apply List.ext_getElem?
  intro j
  have hl : ((c.take i).map (fun x => -x)).length = i := by simp; omega
  have hl1 : ((c.take (i + 1)).map (fun x => -x)).length = i + 1 := by simp; omega
  rw [List.getElem?_set]
  by_cases e : i = j
  · subst e
    rw [if_pos rfl, if_pos (by simp; omega), List.getElem?_append_left (by omega)]
    simp [hi]
  · rw [if_neg e]
    rcases Nat.lt_or_ge j i with h | h
    · rw [List.getElem?_append_left (by omega), List.getElem?_append_left (by omega)]
      simp [List.getElem?_take, h, Nat.lt_succ_of_lt h]
    · rw [List.getElem?_append_right (by omega), List.getElem?_append_right (by omega), hl, hl1]
      rw [List.getElem?_replicate, List.getElem?_replicate]
      by_cases h2 : j < c.length
      · rw [if_pos (by omega), if_pos (by omega)]
      · rw [if_neg (by omega), if_neg (by omega)]

theorem litOk_neg {n x : Int} (h : litOk n x) : litOk n (-x) := by unfold litOk at *; omega

theorem Refutes_call (n : Int) (l : List (List Int)) (c : List Int) (hn : 0 ≤ n ∧ n ≤ 100000) (hl : ∀ c ∈ l, ∀ x ∈ c, litOk n x) (hc : ∀ x ∈ c, litOk n x) (hb : lits l ≤ 1000000) (hcl : c.length ≤ 1000000) :
    ACall Tryz.prog 200 [vI .i64 n, .d (eIss l), .d (eIs c)] [] (fun r o => ∃ s, CloseRel n l (c.map fun x => -x) s ∧ WkV n s ∧ r = vB s.clash) := by
  refine acall_enter Tryz.func200 rfl rfl (Nat.le_of_ble_eq_true rfl) fun C hC hCl hDs hGk => ?_
  refine sat_stop tabOk Tryz.func200 rfl ?_ ?_
  · refine ⟨?_, trivial⟩
    rw [List.length_map]
    refine ⟨by omega, Int.le_refl _, ?_⟩
    show (c.length : Int) * (8 : Int) ≤ _
    omega
  refine sat_while (α := Nat) (fun i => [(0, vI .i64 n), (1, .d (eIss l)), (2, .d (eIs c)), (7, .gs 0), (15, .d (eIs c)), (16, vI .i64 c.length), (17, vI .i64 i)]) (fun i => [some (gIs ((c.take i).map (fun x => -x) ++ List.replicate (c.length - i) 0))]) (fun i => i ≤ c.length) (fun i => c.length - i) 0 (Nat.zero_le _) ?_ ?_
  · refine fun h => sat_le h hC hCl ?_ ⟨.gL ?_, trivial⟩ rfl rfl (Nat.zero_le _)
    · exact ⟨⟨_, rfl, .refl _⟩, ⟨_, rfl, .refl _⟩, ⟨_, rfl, .refl _⟩, ⟨_, rfl, .refl _⟩, ⟨_, rfl, .refl _⟩, ⟨_, rfl, .of (by rw [List.length_map])⟩, ⟨_, rfl, .refl _⟩, trivial⟩
    · simp only [List.take_zero, List.map_nil, List.nil_append, List.length_map, Int.toNat_natCast, Nat.sub_zero, List.map_replicate]
      rfl
  · rintro i hi ih
    refine sat_branch tabOk Tryz.func200 rfl trivial (fun hbr => ?_) (fun hbr => ?_) <;> simp only [decide_eq_true_eq, decide_eq_false_iff_not] at hbr
    · have hlt : i < c.length := by omega
      have hget : c.getD i 0 = c[i] := by simp [hlt]
      have hx := hc _ (List.getElem_mem hlt)
      obtain ⟨x0, x1, x2⟩ := hx
      have w1 : IntKind.i64.wrap (0 - c.getD i 0) = -c[i] := by rw [hget, wrap_id (by omega) (by omega), Int.zero_sub]
      refine sat_stop tabOk Tryz.func200 rfl ?_ ?_
      · simp only [andP, Int.toNat_natCast, List.length_map, List.length_append, List.length_replicate, List.length_take]
        exact ⟨by omega, ⟨by omega, by omega⟩, ⟨by omega, by omega⟩, trivial⟩
      refine sat_le (ih (i + 1) (by omega) (by omega)) hC hCl ?_ ⟨.gL ?_, trivial⟩ rfl rfl (Nat.zero_le _)
      · exact ⟨⟨_, rfl, .refl _⟩, ⟨_, rfl, .refl _⟩, ⟨_, rfl, .refl _⟩, ⟨_, rfl, .refl _⟩, ⟨_, rfl, .refl _⟩, ⟨_, rfl, .refl _⟩, ⟨_, rfl, .of (by rw [wrap_id (by omega) (by omega)]; rfl)⟩, trivial⟩
      · rw [← negs_set c i hlt, List.map_set, ← w1]
        rfl
    · obtain rfl : i = c.length := by omega
      refine sat_freeze 0 rfl ?_
      have e1 : (c.take c.length).map (fun x => -x) ++ List.replicate (c.length - c.length) 0 = c.map fun x => -x := by simp
      rw [e1]
      refine sat_call tabOk Tryz.func200 rfl trivial (Close_call n l (c.map fun x => -x) hn hl (by intro x hx; obtain ⟨y, hy, rfl⟩ := List.mem_map.1 hx; exact litOk_neg (hc y hy)) hb delOk) (.refl _) rfl ⟨_, rfl⟩ ?_ ?_
      · rintro r o ⟨s, _, _, rfl⟩
        unfold closeEnd
        split <;> rfl
      · rintro r o ⟨s, h1, h2, rfl⟩
        cases hcl : s.clash with
        | true =>
          have : closeEnd s = .tp [.d (.v (.slice none 0 0)), vB true] := by simp [closeEnd, hcl]
          rw [this]
          exact sat_ret tabOk Tryz.func200 rfl trivial ⟨s, h1, h2, by rw [hcl]; rfl⟩
        | false =>
          have : closeEnd s = .tp [.d (eIs (s.forced.filter (· ≠ 0))), vB false] := by simp [closeEnd, hcl]
          rw [this]
          exact sat_ret tabOk Tryz.func200 rfl trivial ⟨s, h1, h2, by rw [hcl]; rfl⟩
end Go.Proofs.YtkemmijjpclckaaGreatDoor
namespace Go.Proofs.YtkemmijjpclckaaGreatDoor
open Go Ab
set_option maxRecDepth 100000
set_option linter.unusedVariables false
set_option linter.unusedSimpArgs false

/-! ### The steps, one by one -/
end Go.Proofs.YtkemmijjpclckaaGreatDoor
namespace Go.Proofs.YtkemmijjpclckaaGreatDoor
open Go Ab Go.Lib
set_option linter.unusedVariables false
set_option linter.unusedSimpArgs false

end Go.Proofs.YtkemmijjpclckaaGreatDoor
namespace Go.Proofs.YtkemmijjpclckaaGreatDoor
open Go Ab
set_option linter.unusedVariables false
set_option linter.unusedSimpArgs false

/-! ### What is forced, by definition -/
inductive Fo (l : List (List Int)) (a : List Int) : Int → Prop
  | mem {x : Int} (h : x ∈ a) : Fo l a x
  | unit {c : List Int} {x : Int} (hc : c ∈ l) (hx : x ∈ c) (h : ∀ y ∈ c, y ≠ x → Fo l a (-y)) : Fo l a x
def Cf (l : List (List Int)) (a : List Int) : Prop := (∃ x, Fo l a x ∧ Fo l a (-x)) ∨ ∃ c ∈ l, ∀ y ∈ c, Fo l a (-y)

theorem va_neg (x : Int) : va (-x) = va x := by unfold va; congr 1; omega
theorem va_eq {x y : Int} (h : va x = va y) : x = y ∨ x = -y := by unfold va at h; omega

/-- What stands is right: each entry at its own place, each forced. -/
structure Snd (l : List (List Int)) (a : List Int) (n : Int) (s : Wk) : Prop where
  v : WkV n s
  at_ : ∀ i, i < s.forced.length → s.forced.getD i 0 ≠ 0 → va (s.forced.getD i 0) = i ∧ Fo l a (s.forced.getD i 0) ∧ litOk n (s.forced.getD i 0)
  cl : s.clash = true → Cf l a
theorem getD_set (l : List Int) (i j : Nat) (x : Int) (hi : i < l.length) : (l.set i x).getD j 0 = if i = j then x else l.getD j 0 := by
  by_cases h : i = j
  · subst h; simp [List.getD_eq_getElem?_getD, hi]
  · simp [List.getD_eq_getElem?_getD, List.getElem?_set, h]
theorem force_snd {l : List (List Int)} {a : List Int} {n x : Int} {s : Wk} (h : Snd l a n s) (hx : litOk n x) (hf : Fo l a x) : Snd l a n (forceW s x) := by
  have hlt : va x < s.forced.length := by rw [h.v.len]; exact va_lt hx
  refine ⟨forceW_V hx h.v, ?_, ?_⟩
  · unfold forceW
    split
    · exact h.at_
    · split
      · intro i hi hne
        simp only [List.length_set] at hi
        simp only [getD_set _ _ _ _ hlt] at hne ⊢
        split at hne
        · rename_i e
          rw [if_pos e]
          exact ⟨e, hf, hx⟩
        · rename_i e
          rw [if_neg e]
          exact h.at_ i hi hne
      · exact h.at_
  · unfold forceW
    split
    · exact h.cl
    · split
      · exact h.cl
      · rename_i h1 h2
        intro _
        obtain ⟨e1, e2, e3⟩ := h.at_ _ hlt h2
        rcases va_eq e1 with e | e
        · exact absurd e h1
        · exact .inl ⟨x, hf, by rw [← e]; exact e2⟩

theorem scan_spec (f : List Int) : ∀ (r : List Int) (only o : Int), (∀ y ∈ r, y ≠ 0) → scanW f only r = some o → (∀ y ∈ r, f.getD (va y) 0 = -y ∨ y = o) ∧ (only ≠ 0 → o = only) ∧ (o = only ∨ o ∈ r)
  | [], only, o, _, h => by
    simp only [scanW, Option.some.injEq] at h
    subst h
    exact ⟨by simp, fun _ => rfl, .inl rfl⟩
  | x :: r, only, o, h0, h => by
    simp only [scanW] at h
    split at h
    · cases h
    · split at h
      · rename_i hx
        obtain ⟨a1, a2, a3⟩ := scan_spec f r only o (fun y hy => h0 y (List.mem_cons_of_mem _ hy)) h
        refine ⟨fun y hy => ?_, a2, a3.imp id (List.mem_cons_of_mem _)⟩
        rcases List.mem_cons.1 hy with rfl | hy
        · exact .inl hx
        · exact a1 y hy
      · split at h
        · cases h
        · rename_i hno
          obtain ⟨a1, a2, a3⟩ := scan_spec f r x o (fun y hy => h0 y (List.mem_cons_of_mem _ hy)) h
          have hox : o = x := a2 (h0 x List.mem_cons_self)
          refine ⟨fun y hy => ?_, fun hne => ?_, .inr (by rw [hox]; exact List.mem_cons_self)⟩
          · rcases List.mem_cons.1 hy with rfl | hy
            · exact .inr hox.symm
            · exact a1 y hy
          · have : only = x := Decidable.not_not.1 fun hh => hno ⟨hne, hh⟩
            rw [hox, this]

theorem Snd.neg {l : List (List Int)} {a : List Int} {n : Int} {s : Wk} (h : Snd l a n s) {y : Int} (hy : litOk n y) (hf : s.forced.getD (va y) 0 = -y) : Fo l a (-y) := by
  have hlt : va y < s.forced.length := by rw [h.v.len]; exact va_lt hy
  have hne : s.forced.getD (va y) 0 ≠ 0 := by rw [hf]; have := hy.1; omega
  have := (h.at_ _ hlt hne).2.1
  rwa [hf] at this
theorem look_snd {l : List (List Int)} {a : List Int} {n : Int} {s : Wk} {c : List Int} (h : Snd l a n s) (hc : c ∈ l) (hx : ∀ x ∈ c, litOk n x) : Snd l a n (lookW s c) := by
  refine ⟨lookW_V hx h.v, ?_, ?_⟩ <;> unfold lookW
  all_goals
    split
    · first | exact h.at_ | exact h.cl
    · rename_i only ho
      obtain ⟨a1, a2, a3⟩ := scan_spec s.forced c 0 only (fun y hy => (hx y hy).1) ho
      split
      · rename_i h0
        first
        | exact h.at_
        | exact fun _ => .inr ⟨c, hc, fun y hy => h.neg (hx y hy) ((a1 y hy).resolve_right (by rw [h0]; exact (hx y hy).1))⟩
      · rename_i h0
        have hm : only ∈ c := a3.resolve_left h0
        have hfo : Fo l a only := .unit hc hm fun y hy hne => h.neg (hx y hy) ((a1 y hy).resolve_right hne)
        first
        | exact (force_snd h (hx only hm) hfo).at_
        | exact (force_snd h (hx only hm) hfo).cl

theorem foldl_inv {α β : Type} (I : β → Prop) (f : β → α → β) : ∀ (r : List α) (b : β), I b → (∀ b a, a ∈ r → I b → I (f b a)) → I (r.foldl f b)
  | [], b, h, _ => h
  | a :: r, b, h, hs => foldl_inv I f r (f b a) (hs b a List.mem_cons_self h) fun b' a' ha hb => hs b' a' (List.mem_cons_of_mem _ ha) hb

structure Okl (n : Int) (l : List (List Int)) (a : List Int) : Prop where
  n0 : 0 ≤ n
  cl : ∀ c ∈ l, ∀ x ∈ c, litOk n x
  asm : ∀ x ∈ a, litOk n x

theorem at_mem {l : List (List Int)} {i : Int} {x : Int} (h : i ∈ gget x (gatherL l 0 [])) : l.getD i.toNat [] ∈ l ∧ -x ∈ l.getD i.toNat [] := by
  rw [gget_gatherL, gget, List.nil_append] at h
  obtain ⟨j, h1, h2, h3⟩ := idxs_mem.1 h
  have : i.toNat = j := by omega
  rw [this]
  refine ⟨?_, h3⟩
  simp [h1]

theorem first_snd {n : Int} {l : List (List Int)} {a : List Int} (h : Okl n l a) : Snd l a n (firstW n l a) := by
  unfold firstW
  refine foldl_inv (Snd l a n) lookW l _ ?_ fun s c hc hs => look_snd hs hc (h.cl c hc)
  refine foldl_inv (Snd l a n) forceW a _ ?_ fun s x hx hs => force_snd hs (h.asm x hx) (.mem hx)
  refine ⟨⟨by simp, by simp⟩, fun i hi hne => ?_, fun h => by cases h⟩
  exact absurd (by simp only [List.length_replicate] at hi; simp only [List.getD_eq_getElem?_getD, List.getElem?_replicate]; split <;> rfl) hne
theorem pop_snd {n : Int} {l : List (List Int)} {a : List Int} (h : Okl n l a) {s : Wk} {x : Int} {q : List Int} (hs : Snd l a n s) (hq : s.queue = x :: q) : Snd l a n (popW l (gatherL l 0 []) s x q) := by
  unfold popW
  refine foldl_inv (Snd l a n) (lookAt l) _ _ ?_ fun t i hi ht => look_snd ht (at_mem hi).1 (h.cl _ (at_mem hi).1)
  refine ⟨⟨hs.v.len, ?_⟩, hs.at_, hs.cl⟩
  have := hs.v.sz
  rw [hq] at this
  simp only [List.length_cons] at this
  simp only
  omega
theorem close_snd {n : Int} {l : List (List Int)} {a : List Int} {s : Wk} (h : Okl n l a) (hr : CloseRel n l a s) : Snd l a n s := by
  have : ∀ {t}, Star l (gatherL l 0 []) (firstW n l a) t → Snd l a n t := by
    intro t ht
    induction ht with
    | refl => exact first_snd h
    | step _ hc hq ih => exact pop_snd h ih hq
  exact this hr.1
end Go.Proofs.YtkemmijjpclckaaGreatDoor
namespace Go.Proofs.YtkemmijjpclckaaGreatDoor
open Go Ab
set_option linter.unusedVariables false
set_option linter.unusedSimpArgs false

/-! ### All that is forced is found -/
def Fine (f : List Int) (c : List Int) : Prop := (∃ y ∈ c, f.getD (va y) 0 = y) ∨ ∃ y ∈ c, ∃ z ∈ c, y ≠ z ∧ f.getD (va y) 0 ≠ -y ∧ f.getD (va z) 0 ≠ -z
def Pd (s : Wk) (c : List Int) : Prop := ∃ y ∈ c, -y ∈ s.queue
def J (l : List (List Int)) (s : Wk) (rest : List (List Int)) : Prop := s.clash = true ∨ ∀ c ∈ l, Fine s.forced c ∨ Pd s c ∨ c ∈ rest

theorem scan_none (f : List Int) : ∀ (r : List Int) (only : Int), (∀ y ∈ r, y ≠ 0) → scanW f only r = none → (∃ y ∈ r, f.getD (va y) 0 = y) ∨ (only ≠ 0 ∧ ∃ z ∈ r, only ≠ z ∧ f.getD (va z) 0 ≠ -z) ∨ ∃ y ∈ r, ∃ z ∈ r, y ≠ z ∧ f.getD (va y) 0 ≠ -y ∧ f.getD (va z) 0 ≠ -z
  | [], only, _, h => by simp [scanW] at h
  | x :: r, only, h0, h => by
    have hr := fun y hy => h0 y (List.mem_cons_of_mem x hy)
    have up : ∀ {p : Int → Prop}, (∃ y ∈ r, p y) → ∃ y ∈ x :: r, p y := fun ⟨y, hy, hp⟩ => ⟨y, List.mem_cons_of_mem _ hy, hp⟩
    simp only [scanW] at h
    split at h
    · rename_i hx
      exact .inl ⟨x, List.mem_cons_self, hx⟩
    · split at h
      · rcases scan_none f r only hr h with h | ⟨h1, h2⟩ | ⟨y, hy, z, hz, h2⟩
        · exact .inl (up h)
        · exact .inr (.inl ⟨h1, up h2⟩)
        · exact .inr (.inr ⟨y, List.mem_cons_of_mem _ hy, z, List.mem_cons_of_mem _ hz, h2⟩)
      · rename_i hnx
        split at h
        · rename_i hh
          exact .inr (.inl ⟨hh.1, x, List.mem_cons_self, hh.2, hnx⟩)
        · rcases scan_none f r x hr h with h | ⟨h1, z, hz, h3, h4⟩ | ⟨y, hy, z, hz, h2⟩
          · exact .inl (up h)
          · exact .inr (.inr ⟨x, List.mem_cons_self, z, List.mem_cons_of_mem _ hz, h3, hnx, h4⟩)
          · exact .inr (.inr ⟨y, List.mem_cons_of_mem _ hy, z, List.mem_cons_of_mem _ hz, h2⟩)
theorem scan_fine {f c : List Int} (h0 : ∀ y ∈ c, y ≠ 0) (h : scanW f 0 c = none) : Fine f c := by
  rcases scan_none f c 0 h0 h with h | ⟨h1, _⟩ | h
  · exact .inl h
  · exact absurd rfl h1
  · exact .inr h

theorem force_clash {s : Wk} {x : Int} (h : s.clash = true) : (forceW s x).clash = true := by
  unfold forceW
  split
  · exact h
  · split
    · exact h
    · rfl
theorem look_clash {s : Wk} {c : List Int} (h : s.clash = true) : (lookW s c).clash = true := by
  unfold lookW
  split
  · exact h
  · split
    · rfl
    · exact force_clash h
/-- What is forced stays. -/
def Grows (f g : List Int) : Prop := ∀ i, f.getD i 0 ≠ 0 → g.getD i 0 = f.getD i 0
theorem force_grows {s : Wk} {x : Int} (hlt : va x < s.forced.length) : Grows s.forced (forceW s x).forced := by
  intro i hi
  unfold forceW
  split
  · rfl
  · split
    · rename_i h2
      simp only [getD_set _ _ _ _ hlt]
      rw [if_neg (fun e => by subst e; exact hi h2)]
    · rfl
theorem force_at {s : Wk} {x : Int} (hlt : va x < s.forced.length) (hc : (forceW s x).clash = false) : (forceW s x).forced.getD (va x) 0 = x := by
  unfold forceW at hc ⊢
  split
  · assumption
  · rename_i h1
    rw [if_neg h1] at hc
    split
    · simp only [getD_set _ _ _ _ hlt, if_true]
    · rename_i h2
      rw [if_neg h2] at hc
      cases hc
theorem force_J {l rest : List (List Int)} {n x : Int} {s : Wk} (hl : ∀ c ∈ l, ∀ y ∈ c, litOk n y) (hv : WkV n s) (hx : litOk n x) (h : J l s rest) : J l (forceW s x) rest := by
  rcases h with h | h
  · exact .inl (force_clash h)
  have hlt : va x < s.forced.length := by rw [hv.len]; exact va_lt hx
  unfold forceW
  split
  · exact .inr h
  · split
    · rename_i h1 h2
      refine .inr fun c hc => ?_
      rcases h c hc with h | ⟨y, hy, hq⟩ | h
      · rcases h with ⟨y, hy, hf⟩ | ⟨y, hy, z, hz, hne, hfy, hfz⟩
        · refine .inl (.inl ⟨y, hy, ?_⟩)
          simp only [getD_set _ _ _ _ hlt]
          rw [if_neg ?_]
          · exact hf
          · intro e
            rw [← e, h2] at hf
            exact (hl c hc y hy).1 hf.symm
        · by_cases e1 : x = -y
          · exact .inr (.inl ⟨y, hy, by rw [← e1]; simp⟩)
          · by_cases e2 : x = -z
            · exact .inr (.inl ⟨z, hz, by rw [← e2]; simp⟩)
            · refine .inl (.inr ⟨y, hy, z, hz, hne, ?_, ?_⟩)
              · simp only [getD_set _ _ _ _ hlt]
                split
                · exact e1
                · exact hfy
              · simp only [getD_set _ _ _ _ hlt]
                split
                · exact e2
                · exact hfz
      · exact .inr (.inl ⟨y, hy, List.mem_append_left _ hq⟩)
      · exact .inr (.inr h)
    · exact .inl rfl
theorem look_J {l rest : List (List Int)} {n : Int} {s : Wk} {c : List Int} (hl : ∀ c ∈ l, ∀ y ∈ c, litOk n y) (hv : WkV n s) (hcl : c ∈ l) (h : J l s (c :: rest)) : J l (lookW s c) rest := by
  rcases h with h | h
  · exact .inl (look_clash h)
  have hc0 := hl c hcl
  unfold lookW
  split
  · rename_i hs
    refine .inr fun d hd => ?_
    rcases h d hd with h | h | h
    · exact .inl h
    · exact .inr (.inl h)
    · rcases List.mem_cons.1 h with rfl | h
      · exact .inl (scan_fine (fun y hy => (hc0 y hy).1) hs)
      · exact .inr (.inr h)
  · rename_i only ho
    split
    · exact .inl rfl
    · rename_i hne
      obtain ⟨a1, a2, a3⟩ := scan_spec s.forced c 0 only (fun y hy => (hc0 y hy).1) ho
      have hm : only ∈ c := a3.resolve_left hne
      have hj := force_J hl hv (hc0 only hm) (.inr h : J l s (c :: rest))
      rcases hj with hj | hj
      · exact .inl hj
      · cases hcf : (forceW s only).clash with
        | true => exact .inl hcf
        | false =>
          refine .inr fun d hd => ?_
          rcases hj d hd with h | h | h
          · exact .inl h
          · exact .inr (.inl h)
          · rcases List.mem_cons.1 h with rfl | h
            · exact .inl (.inl ⟨only, hm, force_at (by rw [hv.len]; exact va_lt (hc0 only hm)) hcf⟩)
            · exact .inr (.inr h)

theorem foldl_J {l : List (List Int)} {n : Int} (hl : ∀ c ∈ l, ∀ y ∈ c, litOk n y) : ∀ (r : List (List Int)) (s : Wk), (∀ c ∈ r, c ∈ l) → WkV n s → J l s r → J l (r.foldl lookW s) []
  | [], s, _, _, h => h
  | c :: r, s, hr, hv, h => foldl_J hl r (lookW s c) (fun d hd => hr d (List.mem_cons_of_mem _ hd)) (lookW_V (hl c (hr c List.mem_cons_self)) hv) (look_J hl hv (hr c List.mem_cons_self) h)
theorem popW_eq (l : List (List Int)) (G : List (Int × List Int)) (s : Wk) (x : Int) (q : List Int) : popW l G s x q = ((gget x G).map fun i => l.getD i.toNat []).foldl lookW ⟨s.forced, q, s.clash⟩ := by
  rw [popW, List.foldl_map]
  rfl
theorem first_J {n : Int} {l : List (List Int)} {a : List Int} (h : Okl n l a) : J l (firstW n l a) [] := by
  unfold firstW
  refine foldl_J h.cl l _ (fun c hc => hc) ?_ (.inr fun c hc => .inr (.inr hc))
  exact foldl_inv (WkV n) forceW a _ ⟨by simp, by simp⟩ fun s x hx hs => forceW_V (h.asm x hx) hs
theorem pop_J {n : Int} {l : List (List Int)} {a : List Int} (h : Okl n l a) {s : Wk} {x : Int} {q : List Int} (hv : WkV n s) (hj : J l s []) (hq : s.queue = x :: q) : J l (popW l (gatherL l 0 []) s x q) [] := by
  rw [popW_eq]
  refine foldl_J h.cl _ _ (fun c hc => ?_) ⟨hv.len, ?_⟩ ?_
  · obtain ⟨i, hi, rfl⟩ := List.mem_map.1 hc
    exact (at_mem hi).1
  · have := hv.sz
    rw [hq] at this
    simp only [List.length_cons] at this
    simp only
    omega
  · rcases hj with hj | hj
    · exact .inl hj
    · refine .inr fun c hc => ?_
      rcases hj c hc with h1 | ⟨y, hy, hm⟩ | h1
      · exact .inl h1
      · rw [hq] at hm
        rcases List.mem_cons.1 hm with e | hm
        · refine .inr (.inr (List.mem_map.2 ?_))
          obtain ⟨j, hj1, hj2⟩ := List.mem_iff_getElem.1 hc
          refine ⟨(j : Int), ?_, by simp [hj1, hj2]⟩
          rw [gget_gatherL, gget, List.nil_append]
          refine idxs_mem.2 ⟨j, hj1, by simp, ?_⟩
          have : -x = y := by omega
          rw [this]
          simpa [hj1, hj2] using hy
        · exact .inr (.inl ⟨y, hy, hm⟩)
      · simp at h1
theorem close_J {n : Int} {l : List (List Int)} {a : List Int} {s : Wk} (h : Okl n l a) (hr : CloseRel n l a s) : J l s [] := by
  have : ∀ {t}, Star l (gatherL l 0 []) (firstW n l a) t → J l t [] ∧ WkV n t := by
    intro t ht
    induction ht with
    | refl => exact ⟨first_J h, (first_snd h).v⟩
    | step hst hc hq ih => exact ⟨pop_J h ih.2 ih.1 hq, (pop_snd h (by
        have : ∀ {t}, Star l (gatherL l 0 []) (firstW n l a) t → Snd l a n t := by
          intro t ht
          induction ht with
          | refl => exact first_snd h
          | step _ hc hq ih => exact pop_snd h ih hq
        exact this hst) hq).v⟩
  exact (this hr.1).1
end Go.Proofs.YtkemmijjpclckaaGreatDoor
namespace Go.Proofs.YtkemmijjpclckaaGreatDoor
open Go Ab
set_option linter.unusedVariables false
set_option linter.unusedSimpArgs false

/-- What is told stays told. -/
def Kp (x : Int) (s : Wk) : Prop := s.clash = true ∨ s.forced.getD (va x) 0 = x
theorem kp_force {n x y : Int} {s : Wk} (hv : WkV n s) (hy : litOk n y) (hx : x ≠ 0) (h : Kp x s) : Kp x (forceW s y) := by
  rcases h with h | h
  · exact .inl (force_clash h)
  · exact .inr (by rw [force_grows (by rw [hv.len]; exact va_lt hy) _ (by rw [h]; exact hx)]; exact h)
theorem kp_look {n x : Int} {s : Wk} {c : List Int} (hv : WkV n s) (hc : ∀ y ∈ c, litOk n y) (hx : x ≠ 0) (h : Kp x s) : Kp x (lookW s c) := by
  unfold lookW
  split
  · exact h
  · rename_i only ho
    split
    · exact .inl rfl
    · rename_i hne
      exact kp_force hv (hc only ((scan_spec s.forced c 0 only (fun y hy => (hc y hy).1) ho).2.2.resolve_left hne)) hx h
theorem kp_first {n : Int} {l : List (List Int)} {a : List Int} (h : Okl n l a) {x : Int} (hx : x ∈ a) : Kp x (firstW n l a) := by
  have hx0 := (h.asm x hx).1
  have key : ∀ (r : List Int) (s : Wk), WkV n s → (∀ y ∈ r, litOk n y) → (x ∈ r ∨ Kp x s) → Kp x (r.foldl forceW s) := by
    intro r
    induction r with
    | nil => intro s _ _ h; exact h.resolve_left (by simp)
    | cons y r ih =>
      intro s hv hr h
      have hy := hr y List.mem_cons_self
      refine ih _ (forceW_V hy hv) (fun z hz => hr z (List.mem_cons_of_mem _ hz)) ?_
      rcases h with h | h
      · rcases List.mem_cons.1 h with rfl | h
        · right
          cases hc : (forceW s x).clash with
          | true => exact .inl hc
          | false => exact .inr (force_at (by rw [hv.len]; exact va_lt hy) hc)
        · exact .inl h
      · exact .inr (kp_force hv hy hx0 h)
  unfold firstW
  have h1 := key a ⟨List.replicate (n + 1).toNat 0, [], false⟩ ⟨by simp, by simp⟩ h.asm (.inl hx)
  have h2 : WkV n (a.foldl forceW ⟨List.replicate (n + 1).toNat 0, [], false⟩) := foldl_inv (WkV n) forceW a _ ⟨by simp, by simp⟩ fun s x hx hs => forceW_V (h.asm x hx) hs
  exact (foldl_inv (fun s => WkV n s ∧ Kp x s) lookW l _ ⟨h2, h1⟩ fun s c hc hs => ⟨lookW_V (h.cl c hc) hs.1, kp_look hs.1 (h.cl c hc) hx0 hs.2⟩).2
theorem kp_star {n : Int} {l : List (List Int)} {a : List Int} (h : Okl n l a) {x : Int} (hx : x ∈ a) {t : Wk} (ht : Star l (gatherL l 0 []) (firstW n l a) t) : Snd l a n t ∧ Kp x t := by
  have hx0 := (h.asm x hx).1
  induction ht with
  | refl => exact ⟨first_snd h, kp_first h hx⟩
  | step _ hc hq ih =>
    refine ⟨pop_snd h ih.1 hq, ?_⟩
    rename_i t y q _
    have hv1 : WkV n ⟨t.forced, q, t.clash⟩ := ⟨ih.1.v.len, by
      have := ih.1.v.sz
      rw [hq] at this
      simp only [List.length_cons] at this
      simp only
      omega⟩
    rw [popW_eq]
    refine (foldl_inv (fun s => WkV n s ∧ Kp x s) lookW _ _ ⟨hv1, ih.2⟩ fun s c hc hs => ?_).2
    obtain ⟨i, hi, rfl⟩ := List.mem_map.1 hc
    have hcl := h.cl _ (at_mem hi).1
    exact ⟨lookW_V hcl hs.1, kp_look hs.1 hcl hx0 hs.2⟩

theorem fo_lit {n : Int} {l : List (List Int)} {a : List Int} (h : Okl n l a) {x : Int} (hf : Fo l a x) : litOk n x := by
  cases hf with
  | mem hx => exact h.asm x hx
  | unit hc hx _ => exact h.cl _ hc x hx

theorem close_fo {n : Int} {l : List (List Int)} {a : List Int} {s : Wk} (h : Okl n l a) (hr : CloseRel n l a s) (hc : s.clash = false) {x : Int} (hf : Fo l a x) : s.forced.getD (va x) 0 = x := by
  have hj : ∀ c ∈ l, Fine s.forced c := by
    intro c hcl
    rcases close_J h hr with hj | hj
    · rw [hc] at hj; cases hj
    · rcases hj c hcl with h1 | ⟨y, _, hq⟩ | h1
      · exact h1
      · rcases hr.2 with e | e
        · rw [e] at hq; simp at hq
        · rw [hc] at e; cases e
      · simp at h1
  induction hf with
  | mem hx =>
    rcases (kp_star h hx hr.1).2 with e | e
    · rw [hc] at e; cases e
    · exact e
  | unit hcl hx _ ih =>
    rename_i c x hrest
    have hneg : ∀ y ∈ c, y ≠ x → s.forced.getD (va y) 0 = -y := fun y hy hne => by rw [← va_neg]; exact ih y hy hne
    rcases hj c hcl with ⟨y, hy, he⟩ | ⟨y, hy, z, hz, hne, h1, h2⟩
    · by_cases e : y = x
      · rw [← e]; exact he
      · have := hneg y hy e
        have := (h.cl c hcl y hy).1
        omega
    · by_cases e : y = x
      · exact absurd (hneg z hz (fun e2 => hne (e.trans e2.symm))) h2
      · exact absurd (hneg y hy e) h1

theorem close_cf {n : Int} {l : List (List Int)} {a : List Int} {s : Wk} (h : Okl n l a) (hr : CloseRel n l a s) : s.clash = true ↔ Cf l a := by
  constructor
  · exact (close_snd h hr).cl
  · intro hcf
    cases hc : s.clash with
    | true => rfl
    | false =>
      exfalso
      rcases hcf with ⟨x, h1, h2⟩ | ⟨c, hcl, hall⟩
      · have e1 := close_fo h hr hc h1
        have e2 := close_fo h hr hc h2
        rw [va_neg, e1] at e2
        have := (fo_lit h h1).1
        omega
      · have hneg : ∀ y ∈ c, s.forced.getD (va y) 0 = -y := fun y hy => by rw [← va_neg]; exact close_fo h hr hc (hall y hy)
        rcases close_J h hr with hj | hj
        · rw [hc] at hj; cases hj
        · rcases hj c hcl with h1 | ⟨y, _, hq⟩ | h1
          · rcases h1 with ⟨y, hy, he⟩ | ⟨y, hy, z, hz, hne, h1, h2⟩
            · have := hneg y hy
              have := (h.cl c hcl y hy).1
              omega
            · exact h1 (hneg y hy)
          · rcases hr.2 with e | e
            · rw [e] at hq; simp at hq
            · rw [hc] at e; cases e
          · simp at h1
end Go.Proofs.YtkemmijjpclckaaGreatDoor
namespace Go.Proofs.YtkemmijjpclckaaGreatDoor
open Go Ab
set_option maxRecDepth 100000
set_option linter.unusedVariables false
set_option linter.unusedSimpArgs false

theorem okl_neg {n : Int} {l : List (List Int)} {c : List Int} (h : Okl n l c) : Okl n l (c.map fun x => -x) :=
  ⟨h.n0, h.cl, fun x hx => by obtain ⟨y, hy, rfl⟩ := List.mem_map.1 hx; exact litOk_neg (h.asm y hy)⟩
def refR (l : List (List Int)) (c : List Int) (r : AV) (_ : List (Option AObj)) : Prop := ∃ b, r = vB b ∧ (b = true ↔ Cf l (c.map fun x => -x))
theorem refutes_c {n : Int} {l : List (List Int)} {c : List Int} (h : Okl n l c) (hn : n ≤ 100000) (hb : lits l ≤ 1000000) (hc : c.length ≤ 1000000) : ACall Tryz.prog 200 [vI .i64 n, .d (eIss l), .d (eIs c)] [] (refR l c) := by
  refine (Refutes_call n l c ⟨h.n0, hn⟩ h.cl h.asm hb hc).mono ?_
  rintro r o ⟨s, h1, h2, rfl⟩
  exact ⟨_, rfl, close_cf (okl_neg h) h1⟩
theorem lits_le (m : Nat) : ∀ l : List (List Int), (∀ c ∈ l, c.length ≤ m) → lits l ≤ l.length * m
  | [], _ => by simp [lits]
  | c :: r, h => by
    have ih := lits_le m r fun d hd => h d (List.mem_cons_of_mem _ hd)
    have h1 := h c List.mem_cons_self
    simp only [lits, List.map_cons, List.sum_cons, List.length_cons] at ih ⊢
    rw [Nat.add_mul]
    omega
end Go.Proofs.YtkemmijjpclckaaGreatDoor
namespace Go.Proofs.YtkemmijjpclckaaGreatDoor
open Go Ab Go.RowKit
set_option linter.unusedVariables false

theorem litOk_b {n x : Int} (h : litOk n x) (hn : n ≤ 100000) : -1000000 ≤ x ∧ x ≤ 1000000 := by obtain ⟨_, h1, h2⟩ := h; omega
end Go.Proofs.YtkemmijjpclckaaGreatDoor
namespace Go.Proofs.YtkemmijjpclckaaGreatDoor
open Go Ab
set_option maxRecDepth 100000
set_option linter.unusedVariables false
set_option linter.unusedSimpArgs false

@[reducible] def eB (b : Bool) : D := .v (.bool b)
/-- A literal is true in a model (variables from 1 on). -/
def litAt (m : List Bool) (x : Int) (k : Nat) : Prop := (m.getD k false = true ∧ x = (k : Int) + 1) ∨ (m.getD k false = false ∧ x = -(k : Int) - 1)
def litT (m : List Bool) (x : Int) : Prop := ∃ k, k < m.length ∧ litAt m x k
def clT (c : List Int) (m : List Bool) : Prop := ∃ x ∈ c, litT m x
def holdsT (l : List (List Int)) (m : List Bool) : Prop := ∀ c ∈ l, clT c m
/-! ### SOUND -/
theorem litT_neg {m : List Bool} {x : Int} (h : litT m x) : ¬ litT m (-x) := by
  obtain ⟨k, hk, h⟩ := h
  rintro ⟨j, hj, h2⟩
  rcases h with ⟨h, e⟩ | ⟨h, e⟩ <;> rcases h2 with ⟨h2, e2⟩ | ⟨h2, e2⟩
  · omega
  · obtain rfl : k = j := by omega
    rw [h] at h2; cases h2
  · obtain rfl : k = j := by omega
    rw [h] at h2; cases h2
  · omega
theorem litT_or {n : Int} {m : List Bool} {x : Int} (hx : litOk n x) (hm : (m.length : Int) = n) : litT m x ∨ litT m (-x) := by
  obtain ⟨h0, h1, h2⟩ := hx
  have hk : va x - 1 < m.length := by unfold va; omega
  have hv : ((va x - 1 : Nat) : Int) = max x (-x) - 1 := by unfold va; omega
  cases hb : m.getD (va x - 1) false with
  | true =>
    rcases Int.lt_or_lt_of_ne h0 with h | h
    · exact .inr ⟨_, hk, .inl ⟨hb, by omega⟩⟩
    · exact .inl ⟨_, hk, .inl ⟨hb, by omega⟩⟩
  | false =>
    rcases Int.lt_or_lt_of_ne h0 with h | h
    · exact .inl ⟨_, hk, .inr ⟨hb, by omega⟩⟩
    · exact .inr ⟨_, hk, .inr ⟨hb, by omega⟩⟩
theorem fo_sound {l : List (List Int)} {a : List Int} {m : List Bool} (hl : holdsT l m) (ha : ∀ x ∈ a, litT m x) {x : Int} (h : Fo l a x) : litT m x := by
  induction h with
  | mem hx => exact ha _ hx
  | unit hc hx _ ih =>
    rename_i c x hr
    obtain ⟨z, hz, ht⟩ := hl c hc
    by_cases e : z = x
    · rw [← e]; exact ht
    · exact absurd (ih z hz e) (litT_neg ht)
theorem cf_sound {l : List (List Int)} {a : List Int} {m : List Bool} (hl : holdsT l m) (ha : ∀ x ∈ a, litT m x) : ¬ Cf l a := by
  rintro (⟨x, h1, h2⟩ | ⟨c, hc, hall⟩)
  · exact litT_neg (fo_sound hl ha h1) (fo_sound hl ha h2)
  · obtain ⟨z, hz, ht⟩ := hl c hc
    exact litT_neg ht (fo_sound hl ha (hall z hz))
theorem ref_sound {n : Int} {l : List (List Int)} {c : List Int} {m : List Bool} (hl : holdsT l m) (hc : ∀ x ∈ c, litOk n x) (hm : (m.length : Int) = n) (h : Cf l (c.map fun x => -x)) : clT c m := by
  apply Classical.byContradiction
  intro hn
  refine cf_sound hl (fun x hx => ?_) h
  obtain ⟨y, hy, rfl⟩ := List.mem_map.1 hx
  exact (litT_or (hc y hy) hm).resolve_left fun ht => hn ⟨y, hy, ht⟩
end Go.Proofs.YtkemmijjpclckaaGreatDoor
namespace Go.Proofs.YtkemmijjpclckaaGreatDoor
open Go Ab Go.RowKit
set_option maxRecDepth 100000
set_option linter.unusedVariables false

@[reducible] def eBy (l : List UInt8) : D := eL 1 eU8 0 l
theorem Dec_call (l : List UInt8) (hl : l ≠ []) : ACall Tryz.prog 181 [.d (eBy l)] [] (fun r o => r = tupOf [vI .i32 ((Go.Lib.decodeGo ⟨l.toArray⟩).1 : Int), vI .i64 ((Go.Lib.decodeGo ⟨l.toArray⟩).2 : Int)]) := by
  intro X π w us hgk m hv
  refine .inl ⟨callFunc_run Tryz.func181 rfl rfl _ _, ?_⟩
  cases hv with | cons hv ht => cases ht with | nil =>
  cases hv with | d hv =>
  have hv' : RelD w (okOf X π []) (.sl 1 (l.map fun x => D.v (.int .u8 (x.toNat : Int))) (fun i => eU8 (l.getD i 0))) _ := hv
  generalize hxs : (l.map fun x => D.v (.int .u8 (x.toNat : Int))) = xs at hv'
  cases hv' with
  | nil hb => exact absurd (List.map_eq_nil_iff.1 hxs) hl
  | sl he hm hc hb hr =>
    rename_i b o c us
    subst hxs
    obtain rfl := relE_enc (enc := fun x : UInt8 => Value.int .u8 (x.toNat : Int)) he
    have hsz : (⟨l.toArray⟩ : ByteArray).size = l.length := by show l.toArray.size = _; simp
    have hcall := Any7.utf8_DecodeRune Tryz.decL ⟨l.toArray⟩ b o c w (tb_utf hgk.tb) (fun j hj => by
      rw [hsz] at hj
      have h1 := (hm j (by simpa using hj)).2
      rw [h1]
      have e : (⟨l.toArray⟩ : ByteArray).get! j = l[j] := by
        show l.toArray[j]! = _
        simp [hj]
      rw [e]
      simp [hj])
    rw [hsz] at hcall
    have hll : (l.map fun x => D.v (Value.int .u8 (x.toNat : Int))).length = l.length := by simp
    rw [hll]
    refine Calls.mono hcall ?_
    rintro e w' ⟨rfl, bl⟩
    have t := tr_plain m bl.os bl.tape ⟨bl.output, Nat.le_refl _⟩ bl.size bl.block
    exact ⟨_, _, [], π, rfl, rfl, t.mem, .tp (.cons (.d (.v rfl)) (.cons (.d (.v rfl)) .nil)), t.hist⟩
end Go.Proofs.YtkemmijjpclckaaGreatDoor
namespace Go.Proofs.YtkemmijjpclckaaGreatDoor
open Go Ab Go.RowKit
set_option maxRecDepth 100000
set_option linter.unusedVariables false
set_option linter.unusedSimpArgs false
set_option maxHeartbeats 2000000

theorem strBy (a b : List UInt8) : ((⟨a.toArray⟩ : ByteArray).toList == (⟨b.toArray⟩ : ByteArray).toList) = decide (a = b) := by
  rw [Go.Lib.toList_data, Go.Lib.toList_data]
  simp only [List.toList_toArray]
  by_cases h : a = b
  · simp [h]
  · simp [h]
theorem sizeBy (l : List UInt8) : (⟨l.toArray⟩ : ByteArray).size = l.length := by
  show l.toArray.size = l.length
  simp

theorem isPlace_call (b : List UInt8) (at_ : Int) : ACall Tryz.prog 137 [.d (eBy b), vI .i64 at_] [] (fun r o => r = vB (decide (0 ≤ at_ ∧ at_ ≤ b.length))) := by
  refine acall_enter Tryz.func137 rfl rfl (Nat.le_of_ble_eq_true rfl) fun C hC hCl hDs hGk => ?_
  refine sat_branch tabOk Tryz.func137 rfl trivial (fun h => ?_) (fun h => ?_)
  · have h : decide (at_ ≥ 0) = true := h
    rw [decide_eq_true_eq] at h
    refine sat_ret tabOk Tryz.func137 rfl trivial ?_
    show vB (decide (at_ ≤ ((b.map eU8).length : Int))) = _
    rw [List.length_map]
    congr 2
    simp [h]
  · have h : decide (at_ ≥ 0) = false := h
    rw [decide_eq_false_iff_not] at h
    refine sat_ret tabOk Tryz.func137 rfl trivial ?_
    show vB false = _
    rw [decide_eq_false (fun hh => h hh.1)]
theorem exBy (l : List UInt8) (i j : Nat) : (⟨l.toArray⟩ : ByteArray).extract i j = ⟨((l.take j).drop i).toArray⟩ := by
  apply ByteArray.ext
  apply Array.ext'
  simp [ByteArray.data_extract, List.drop_take, List.extract_eq_take_drop]
theorem pre_take (s p : List UInt8) : p.isPrefixOf s = decide (p.length ≤ s.length ∧ s.take p.length = p) := by
  rw [Bool.eq_iff_iff, List.isPrefixOf_iff_prefix, decide_eq_true_eq]
  constructor
  · rintro ⟨r, rfl⟩
    simp
  · rintro ⟨_, h⟩
    rw [← h]
    exact List.take_prefix _ _
theorem iHasPrefix_call (s p : List UInt8) : ACall Tryz.prog 174 [vTx s, vTx p] [] (fun r o => r = vB (p.isPrefixOf s)) := by
  refine acall_enter Tryz.func174 rfl rfl (Nat.le_of_ble_eq_true rfl) fun C hC hCl hDs hGk => ?_
  refine sat_branch tabOk Tryz.func174 rfl trivial (fun h => ?_) (fun h => ?_)
  · have h : decide ((((⟨s.toArray⟩ : ByteArray).size : Nat) : Int) ≥ (((⟨p.toArray⟩ : ByteArray).size : Nat) : Int)) = true := h
    rw [decide_eq_true_eq, sizeBy, sizeBy] at h
    refine sat_ret tabOk Tryz.func174 rfl ?_ ?_
    · rw [sizeBy, sizeBy]
      exact ⟨⟨by omega, by omega, by omega⟩, trivial⟩
    · show vB (((⟨s.toArray⟩ : ByteArray).extract (Int.toNat 0) (((⟨p.toArray⟩ : ByteArray).size : Nat) : Int).toNat).toList == (⟨p.toArray⟩ : ByteArray).toList) = _
      rw [sizeBy, exBy, strBy, pre_take]
      have hle : p.length ≤ s.length := by omega
      simp [hle]
  · have h : decide ((((⟨s.toArray⟩ : ByteArray).size : Nat) : Int) ≥ (((⟨p.toArray⟩ : ByteArray).size : Nat) : Int)) = false := h
    rw [decide_eq_false_iff_not, sizeBy, sizeBy] at h
    refine sat_ret tabOk Tryz.func174 rfl trivial ?_
    show vB false = _
    rw [pre_take, decide_eq_false (fun hh => h (by have := hh.1; omega))]
theorem HasPrefix_call (s p : List UInt8) : ACall Tryz.prog 158 [vTx s, vTx p] [] (fun r o => r = vB (p.isPrefixOf s)) := by
  refine acall_enter Tryz.func158 rfl rfl (Nat.le_of_ble_eq_true rfl) fun C hC hCl hDs hGk => ?_
  refine sat_call tabOk Tryz.func158 rfl trivial (iHasPrefix_call s p) (.refl _) rfl ⟨_, rfl⟩ (by rintro r o rfl; rfl) ?_
  rintro _ o rfl
  exact sat_ret tabOk Tryz.func158 rfl trivial rfl
theorem byteD_eU8 (x : UInt8) : byteD (eU8 x) = x := by
  show UInt8.ofNat ((x.toNat : Int)).toNat = x
  simp
theorem strD_by (l : List UInt8) : strD (l.map eU8) = ⟨l.toArray⟩ := by
  unfold strD
  rw [List.map_map]
  congr 2
  conv => rhs; rw [← List.map_id l]
  exact List.map_congr_left fun x _ => byteD_eU8 x
theorem isByte_by (l : List UInt8) : ∀ x ∈ l.map eU8, isByteD x = true := by
  intro x hx
  obtain ⟨y, _, rfl⟩ := List.mem_map.1 hx
  rfl
theorem tail_by (b : List UInt8) (i : Nat) (n : Nat) (hn : b.length - i ≤ n) : List.take n (List.drop i (b.map eU8)) = (b.drop i).map eU8 := by
  rw [← List.map_drop, List.take_of_length_le (by simp; omega)]
/-- Does a word stand there? -/
def isAt (b : List UInt8) (at_ : Int) (s : List UInt8) : Bool := decide (0 ≤ at_ ∧ at_ ≤ b.length) && s.isPrefixOf (b.drop at_.toNat)
def isTo (b : List UInt8) (at_ : Int) (s : List UInt8) : Int := if ¬ (0 ≤ at_ ∧ at_ ≤ b.length) then 0 else if s.isPrefixOf (b.drop at_.toNat) = true then at_ + s.length else at_
theorem Is_call (b : List UInt8) (at_ : Int) (s : List UInt8) (hb : b.length ≤ 1000000) (hs : s.length ≤ 1000000) : ACall Tryz.prog 136 [.d (eBy b), vI .i64 at_, vTx s] [] (fun r o => r = tupOf [vI .i64 (isTo b at_ s), vB (isAt b at_ s)]) := by
  refine acall_enter Tryz.func136 rfl rfl (Nat.le_of_ble_eq_true rfl) fun C hC hCl hDs hGk => ?_
  refine sat_call tabOk Tryz.func136 rfl trivial (isPlace_call b at_) (.refl _) rfl ⟨_, rfl⟩ (by rintro r o rfl; rfl) ?_
  rintro _ o rfl
  refine sat_branch tabOk Tryz.func136 rfl trivial (fun h => ?_) (fun h => ?_)
  · rw [Bool.not_eq_true', decide_eq_false_iff_not] at h
    refine sat_ret tabOk Tryz.func136 rfl trivial ?_
    rw [isTo, isAt, if_pos h, decide_eq_false h]
    rfl
  have h : 0 ≤ at_ ∧ at_ ≤ b.length := by
    rw [Bool.not_eq_false', decide_eq_true_eq] at h
    exact h
  refine sat_call tabOk Tryz.func136 rfl ?nd (HasPrefix_call (b.drop at_.toNat) s) ⟨.of ?a0, .refl _, trivial⟩ rfl ⟨_, rfl⟩ (by rintro r o rfl; rfl) ?kk
  case nd =>
    rw [List.length_map, tail_by b _ _ (by omega)]
    exact ⟨isByte_by _, ⟨h.1, h.2, Int.le_refl _⟩, trivial⟩
  case a0 =>
    rw [List.length_map, tail_by b _ _ (by omega), strD_by]
  case kk =>
  rintro _ o rfl
  refine sat_branch tabOk Tryz.func136 rfl trivial (fun h2 => ?_) (fun h2 => ?_)
  · have h2 : s.isPrefixOf (b.drop at_.toNat) = false := by simpa using h2
    refine sat_ret tabOk Tryz.func136 rfl trivial ?_
    rw [isTo, isAt, h2, Bool.and_false, if_neg (fun hh => hh h), if_neg (by simp)]
  · have h2 : s.isPrefixOf (b.drop at_.toNat) = true := by simpa using h2
    refine sat_ret tabOk Tryz.func136 rfl trivial ?_
    rw [isTo, isAt, h2, Bool.and_true, decide_eq_true h, if_neg (fun hh => hh h), if_pos rfl]
    show tupOf [vI .i64 (IntKind.i64.wrap (at_ + (((⟨s.toArray⟩ : ByteArray).size : Nat) : Int))), vB true] = _
    rw [sizeBy, wrap_id (by omega) (by omega)]
end Go.Proofs.YtkemmijjpclckaaGreatDoor
namespace Go.Proofs.YtkemmijjpclckaaGreatDoor
open Go Ab Go.RowKit
set_option maxRecDepth 100000
set_option linter.unusedVariables false
set_option linter.unusedSimpArgs false
set_option maxHeartbeats 2000000

theorem dec_first (c : UInt8) (r : List UInt8) : (c.toNat < 128 → Go.Lib.decodeGo ⟨(c :: r).toArray⟩ = (c.toNat, 1)) ∧ (¬ c.toNat < 128 → 128 ≤ (Go.Lib.decodeGo ⟨(c :: r).toArray⟩).1) := by
  have hsz : (⟨(c :: r).toArray⟩ : ByteArray).size = r.length + 1 := by rw [sizeBy]; rfl
  have h0 : (⟨(c :: r).toArray⟩ : ByteArray).get! 0 = c := by
    show (c :: r).toArray[0]! = c
    simp
  unfold Go.Lib.decodeGo
  rw [if_neg (by rw [hsz]; omega), Go.Lib.decode_at, h0]
  generalize (⟨(c :: r).toArray⟩ : ByteArray).size - 0 = n
  generalize ((⟨(c :: r).toArray⟩ : ByteArray).get! (0 + 1)).toNat = b1
  generalize ((⟨(c :: r).toArray⟩ : ByteArray).get! (0 + 2)).toNat = b2
  generalize ((⟨(c :: r).toArray⟩ : ByteArray).get! (0 + 3)).toNat = b3
  generalize c.toNat = b0
  unfold Go.Lib.decodeN
  constructor
  · intro h
    rw [if_pos h]
  · intro h
    rw [if_neg h]
    repeat' split
    all_goals first | (show 128 ≤ 65533; decide) | (simp only; omega)

@[reducible] def vFn (g : FuncId) : AV := .d (.v (.func (.func g) #[] #[]))
@[reducible] def bFn (g : FuncId) : AObj := .cells 203 [vFn g]
theorem run1_call (g : FuncId) (p : UInt8 → Bool) (hp : ∀ c : UInt8, ACall Tryz.prog g [.d (eU8 c)] [] (fun r o => r = vB (p c))) (R : Nat) : ACall Tryz.prog 160 [vI .i32 (R : Int), .ptr 0 0] [some (bFn g)] (fun r o => r = vB (decide (128 ≤ R) || !p (UInt8.ofNat R)) ∧ o = [some (bFn g)]) := by
  refine acall_enter Tryz.func160 rfl rfl (Nat.le_of_ble_eq_true rfl) fun C hC hCl hDs hGk => ?_
  refine sat_branch tabOk Tryz.func160 rfl trivial (fun h => ?_) (fun h => ?_)
  · have h : decide ((R : Int) ≥ 128) = true := h
    rw [decide_eq_true_eq] at h
    refine sat_ret tabOk Tryz.func160 rfl trivial ⟨?_, rfl⟩
    rw [decide_eq_true (by omega : 128 ≤ R)]
    rfl
  have h : decide ((R : Int) ≥ 128) = false := h
  rw [decide_eq_false_iff_not] at h
  have hlt : R < 128 := by omega
  refine sat_call tabOk Tryz.func160 rfl trivial (hp (UInt8.ofNat R)) ⟨.of ?a0, trivial⟩ rfl ⟨_, rfl⟩ (by rintro r o rfl; rfl) ?kk
  case a0 =>
    show AV.d (.v (.int .u8 (IntKind.u8.wrap (R : Int)))) = AV.d (.v (.int .u8 ((UInt8.ofNat R).toNat : Int)))
    have e1 : (UInt8.ofNat R).toNat = R := by rw [UInt8.toNat_ofNat']; omega
    have e2 : IntKind.u8.wrap (R : Int) = (R : Int) := by simp [IntKind.wrap, IntKind.bits, IntKind.signed]; omega
    rw [e1, e2]
  case kk =>
  rintro _ o rfl
  refine sat_ret tabOk Tryz.func160 rfl trivial ⟨?_, rfl⟩
  rw [decide_eq_false (by omega : ¬ 128 ≤ R), Bool.false_or]
  rfl
/-- How far bytes go on that are so. -/
def runN (p : UInt8 → Bool) (l : List UInt8) : Nat := (l.takeWhile fun c => decide (c.toNat < 128) && p c).length
theorem runN_le (p : UInt8 → Bool) (l : List UInt8) : runN p l ≤ l.length := (List.takeWhile_sublist _).length_le
theorem runN_cons (p : UInt8 → Bool) (c : UInt8) (l : List UInt8) : runN p (c :: l) = if c.toNat < 128 ∧ p c = true then runN p l + 1 else 0 := by
  unfold runN
  rw [List.takeWhile_cons]
  by_cases h : c.toNat < 128 ∧ p c = true
  · rw [if_pos h, if_pos (by simp [h.1, h.2])]
    rfl
  · rw [if_neg h, if_neg (by simpa using h)]
    rfl
def idxA (p : UInt8 → Bool) (l : List UInt8) : Int := if runN p l < l.length then runN p l else -1
theorem indexFunc_call (g : FuncId) (p : UInt8 → Bool) (hp : ∀ c : UInt8, ACall Tryz.prog g [.d (eU8 c)] [] (fun r o => r = vB (p c))) (l : List UInt8) (hl : l.length ≤ 1000000) :
    ACall Tryz.prog 175 [.d (eBy l), .fn (.func 160) [.ptr 0 0], vB true] [some (bFn g)] (fun r o => r = vI .i64 (idxA p l) ∧ o = [some (bFn g)]) := by
  refine acall_enter Tryz.func175 rfl rfl (Nat.le_of_ble_eq_true rfl) fun C hC hCl hDs hGk => ?_
  refine sat_stop tabOk Tryz.func175 rfl trivial ?_
  refine sat_while (α := Nat) (fun i => [(0, .d (eBy l)), (1, .fn (.func 160) [.ptr 0 0]), (2, vB true), (7, vI .i64 (i : Int))]) (fun i => [some (bFn g)]) (fun i => i ≤ l.length ∧ runN p l = i + runN p (l.drop i)) (fun i => l.length - i) 0 ⟨Nat.zero_le _, by simp⟩ ?_ ?_
  · exact fun h => sat_le h hC hCl ⟨⟨_, rfl, .refl _⟩, ⟨_, rfl, .refl _⟩, ⟨_, rfl, .refl _⟩, ⟨_, rfl, .refl _⟩, trivial⟩ ⟨.refl _, trivial⟩ rfl rfl (Nat.le_refl _)
  rintro i ⟨hi, hr⟩ ih
  refine sat_branch tabOk Tryz.func175 rfl trivial (fun hb => ?_) (fun hb => ?_)
  · have hb : decide ((i : Int) < ((l.map eU8).length : Int)) = true := hb
    rw [List.length_map, decide_eq_true_eq] at hb
    have hlt : i < l.length := by omega
    obtain ⟨c, r, hcr⟩ : ∃ c r, l.drop i = c :: r := ⟨_, _, List.drop_eq_getElem_cons hlt⟩
    have hdr : l.drop (i + 1) = r := by rw [← List.drop_drop, hcr]; rfl
    obtain ⟨d1, d2⟩ := dec_first c r
    rw [hcr, runN_cons] at hr
    refine sat_call tabOk Tryz.func175 rfl ?nd (Dec_call (l.drop i) (by rw [hcr]; simp)) ⟨.eL ?a0, trivial⟩ rfl ⟨_, rfl⟩ (by rintro r o rfl; rfl) ?kk
    case nd =>
      simp only [List.length_map]
      exact ⟨⟨by omega, by omega, Int.le_refl _⟩, trivial⟩
    case a0 =>
      rw [List.length_map, Int.toNat_natCast, tail_by l _ _ (by omega)]
    case kk =>
    rintro _ o rfl
    rw [hcr]
    obtain ⟨⟨R, K⟩, hRK⟩ : ∃ q, Go.Lib.decodeGo ⟨(c :: r).toArray⟩ = q := ⟨_, rfl⟩
    rw [hRK] at d1 d2 ⊢
    refine sat_callG [0] tabOk Tryz.func175 rfl trivial (run1_call g p hp R) ⟨⟨_, rfl, .refl _⟩, trivial⟩ (.refl _) rfl rfl rfl ⟨_, rfl⟩ ?_
    rintro _ o ⟨rfl, rfl⟩
    refine sat_branch tabOk Tryz.func175 rfl trivial (fun h2 => ?_) (fun h2 => ?_)
    · have h2 : (decide (128 ≤ R) || !p (UInt8.ofNat R)) = true := by simpa using h2
      refine sat_ret tabOk Tryz.func175 rfl trivial ⟨?_, rfl⟩
      have hno : ¬ (c.toNat < 128 ∧ p c = true) := by
        rintro ⟨q1, q2⟩
        cases d1 q1
        rw [UInt8.ofNat_toNat, q2, decide_eq_false (by omega)] at h2
        exact absurd h2 (by decide)
      rw [if_neg hno] at hr
      rw [idxA, if_pos (by omega), hr]
      rfl
    · have h2 : (decide (128 ≤ R) || !p (UInt8.ofNat R)) = false := by simpa using h2
      rw [Bool.or_eq_false_iff, decide_eq_false_iff_not] at h2
      have hc : c.toNat < 128 := Decidable.byContradiction fun hh => h2.1 (d2 hh)
      cases d1 hc
      have hp2 : p c = true := by
        have := h2.2
        rw [UInt8.ofNat_toNat] at this
        simpa using this
      rw [if_pos ⟨hc, hp2⟩, ← hdr] at hr
      refine sat_stop tabOk Tryz.func175 rfl trivial ?_
      refine sat_le (ih (i + 1) ⟨by omega, by omega⟩ (by omega)) hC hCl ⟨⟨_, rfl, .refl _⟩, ⟨_, rfl, .refl _⟩, ⟨_, rfl, .refl _⟩, ⟨_, rfl, .of (by rw [wrap_id (by omega) (by omega)]; rfl)⟩, trivial⟩ ⟨.refl _, trivial⟩ rfl rfl (Nat.le_refl _)
  · have hb : decide ((i : Int) < ((l.map eU8).length : Int)) = false := hb
    rw [List.length_map, decide_eq_false_iff_not] at hb
    obtain rfl : i = l.length := by omega
    refine sat_ret tabOk Tryz.func175 rfl trivial ⟨?_, rfl⟩
    rw [List.drop_length] at hr
    rw [idxA, if_neg (by have : runN p ([] : List UInt8) = 0 := rfl; omega)]
    rfl
end Go.Proofs.YtkemmijjpclckaaGreatDoor
namespace Go.Proofs.YtkemmijjpclckaaGreatDoor
open Go Ab Go.RowKit
set_option maxRecDepth 100000
set_option linter.unusedVariables false
set_option linter.unusedSimpArgs false
set_option maxHeartbeats 2000000

theorem IndexFunc_call (g : FuncId) (p : UInt8 → Bool) (hp : ∀ c : UInt8, ACall Tryz.prog g [.d (eU8 c)] [] (fun r o => r = vB (p c))) (l : List UInt8) (hl : l.length ≤ 1000000) :
    ACall Tryz.prog 159 [.d (eBy l), .fn (.func 160) [.ptr 0 0]] [some (bFn g)] (fun r o => r = vI .i64 (idxA p l) ∧ o = [some (bFn g)]) := by
  refine acall_enter Tryz.func159 rfl rfl (Nat.le_of_ble_eq_true rfl) fun C hC hCl hDs hGk => ?_
  refine sat_callG [0] tabOk Tryz.func159 rfl trivial (indexFunc_call g p hp l hl) ⟨⟨_, rfl, .refl _⟩, trivial⟩ (.refl _) rfl rfl rfl ⟨_, rfl⟩ ?_
  rintro _ o ⟨rfl, rfl⟩
  exact sat_ret tabOk Tryz.func159 rfl trivial ⟨rfl, rfl⟩
theorem run_call (g : FuncId) (p : UInt8 → Bool) (hp : ∀ c : UInt8, ACall Tryz.prog g [.d (eU8 c)] [] (fun r o => r = vB (p c))) (b : List UInt8) (i : Nat) (hi : i ≤ b.length) (hb : b.length ≤ 1000000) :
    ACall Tryz.prog 138 [.d (eBy b), vI .i64 (i : Int), vFn g] [] (fun r o => r = vI .i64 ((i + runN p (b.drop i) : Nat) : Int)) := by
  refine acall_enter Tryz.func138 rfl rfl (Nat.le_of_ble_eq_true rfl) fun C hC hCl hDs hGk => ?_
  have hdl : (b.drop i).length = b.length - i := List.length_drop
  have hrl := runN_le p (b.drop i)
  refine sat_callG [0] tabOk Tryz.func138 rfl ?nd (IndexFunc_call g p hp (b.drop i) (by omega)) ⟨⟨_, rfl, .refl _⟩, trivial⟩ ⟨.eL ?a0, .refl _, trivial⟩ rfl rfl rfl ⟨_, rfl⟩ ?kk
  case nd =>
    rw [List.length_map]
    exact ⟨⟨by omega, by omega, Int.le_refl _⟩, trivial⟩
  case a0 =>
    rw [List.length_map, Int.toNat_natCast, tail_by b _ _ (by omega)]
  case kk =>
  rintro _ o ⟨rfl, rfl⟩
  have hcase : idxA p (b.drop i) = if runN p (b.drop i) < (b.drop i).length then (runN p (b.drop i) : Int) else -1 := rfl
  generalize idxA p (b.drop i) = q at *
  refine sat_branch tabOk Tryz.func138 rfl trivial (fun h => ?_) (fun h => ?_)
  · have h : decide (q < 0) = true := h
    rw [decide_eq_true_eq] at h
    refine sat_ret tabOk Tryz.func138 rfl trivial ?_
    show vI .i64 (((b.map eU8).length : Nat) : Int) = _
    rw [List.length_map]
    split at hcase
    · omega
    · rw [show i + runN p (b.drop i) = b.length by omega]
  · have h : decide (q < 0) = false := h
    rw [decide_eq_false_iff_not] at h
    refine sat_ret tabOk Tryz.func138 rfl trivial ?_
    show vI .i64 (IntKind.i64.wrap ((i : Int) + q)) = _
    split at hcase
    · rw [wrap_id (by omega) (by omega), hcase]
      rfl
    · omega
theorem digit_call (c : UInt8) : ACall Tryz.prog 139 [.d (eU8 c)] [] (fun r o => r = vB (decide (48 ≤ c.toNat ∧ c.toNat ≤ 57))) := by
  refine acall_enter Tryz.func139 rfl rfl (Nat.le_of_ble_eq_true rfl) fun C hC hCl hDs hGk => ?_
  refine sat_branch tabOk Tryz.func139 rfl trivial (fun h => ?_) (fun h => ?_)
  · have h : decide ((c.toNat : Int) ≥ 48) = true := h
    rw [decide_eq_true_eq] at h
    refine sat_ret tabOk Tryz.func139 rfl trivial ?_
    show vB (decide ((c.toNat : Int) ≤ 57)) = _
    congr 2
    simp only [eq_iff_iff]
    omega
  · have h : decide ((c.toNat : Int) ≥ 48) = false := h
    rw [decide_eq_false_iff_not] at h
    refine sat_ret tabOk Tryz.func139 rfl trivial ?_
    show vB false = _
    rw [decide_eq_false (by omega)]
end Go.Proofs.YtkemmijjpclckaaGreatDoor
namespace Go.Proofs.YtkemmijjpclckaaGreatDoor
open Go Ab Go.RowKit
set_option maxRecDepth 100000
set_option linter.unusedVariables false
set_option linter.unusedSimpArgs false
set_option maxHeartbeats 2000000

@[reducible] def isDig (c : UInt8) : Bool := decide (48 ≤ c.toNat ∧ c.toNat ≤ 57)
def numN (l : List UInt8) : Nat := l.foldl (fun n c => n * 10 + (c.toNat - 48)) 0
theorem numN_snoc (l : List UInt8) (c : UInt8) : numN (l ++ [c]) = numN l * 10 + (c.toNat - 48) := by simp [numN]
theorem foldl_ge (l : List UInt8) : ∀ n, n ≤ l.foldl (fun n c => n * 10 + (c.toNat - 48)) n := by
  induction l with
  | nil => exact fun n => Nat.le_refl _
  | cons c r ih =>
    intro n
    have := ih (n * 10 + (c.toNat - 48))
    simp only [List.foldl_cons]
    omega
theorem getD_at {α : Type} {d : α} {l : List α} {i : Nat} (h : i < l.length) : l.getD i d = l[i] := by simp [List.getD_eq_getElem?_getD, h]
theorem numN_pre (a b : List UInt8) : numN a ≤ numN (a ++ b) := by
  unfold numN
  rw [List.foldl_append]
  exact foldl_ge _ _
def numDs (b : List UInt8) (i : Nat) : List UInt8 := (b.drop i).take (runN isDig (b.drop i))
/-- A number that stands there: its value, the place behind, what is wrong. -/
def numR (b : List UInt8) (i most : Int) : Int × Int × Int :=
  if ¬ (0 ≤ i ∧ i ≤ b.length) then (0, 0, 2)
  else if runN isDig (b.drop i.toNat) = 0 ∨ (b.getD i.toNat 0 = 48 ∧ 1 < runN isDig (b.drop i.toNat)) then (0, i, 2)
  else if min most 2147483647 < numN (numDs b i.toNat) then (0, i, 3)
  else (numN (numDs b i.toNat), i + runN isDig (b.drop i.toNat), 0)
theorem takeW {l : List UInt8} {j : Nat} (h : j < runN isDig l) : ∃ c, l[j]? = some c ∧ isDig c = true := by
  induction l generalizing j with
  | nil => simp [runN] at h
  | cons c r ih =>
    rw [runN_cons] at h
    split at h
    · rename_i hc
      cases j with
      | zero => exact ⟨c, rfl, hc.2⟩
      | succ j => obtain ⟨d, h1, h2⟩ := ih (j := j) (by omega); exact ⟨d, by simpa using h1, h2⟩
    · omega
@[reducible] def numA (q : Int × Int × Int) : AV := tupOf [vI .i64 q.1, vI .i64 q.2.1, vI .i64 q.2.2]

theorem Number_call (b : List UInt8) (i most : Int) (hb : b.length ≤ 1000000) : ACall Tryz.prog 101 [.d (eBy b), vI .i64 i, vI .i64 most] [] (fun r o => r = numA (numR b i most)) := by
  refine acall_enter Tryz.func101 rfl rfl (Nat.le_of_ble_eq_true rfl) fun C hC hCl hDs hGk => ?_
  refine sat_call tabOk Tryz.func101 rfl trivial (isPlace_call b i) (.refl _) rfl ⟨_, rfl⟩ (by rintro r o rfl; rfl) ?_
  rintro _ o rfl
  refine sat_branch tabOk Tryz.func101 rfl trivial (fun h => ?_) (fun h => ?_)
  · rw [Bool.not_eq_true', decide_eq_false_iff_not] at h
    refine sat_ret tabOk Tryz.func101 rfl trivial ?_
    rw [numR, if_pos h]
  have h : 0 ≤ i ∧ i ≤ b.length := by
    rw [Bool.not_eq_false', decide_eq_true_eq] at h
    exact h
  obtain ⟨j, rfl⟩ : ∃ j : Nat, i = j := ⟨i.toNat, by omega⟩
  have hj : j ≤ b.length := by omega
  refine sat_call tabOk Tryz.func101 rfl trivial (run_call 139 isDig digit_call b j hj hb) (.refl _) rfl ⟨_, rfl⟩ (by rintro r o rfl; rfl) ?_
  rintro _ o rfl
  have hR : numR b j most = if runN isDig (b.drop j) = 0 ∨ (b.getD j 0 = 48 ∧ 1 < runN isDig (b.drop j)) then (0, (j : Int), 2) else if min most 2147483647 < numN (numDs b j) then (0, (j : Int), 3) else ((numN (numDs b j) : Int), (j : Int) + runN isDig (b.drop j), 0) := by
    rw [numR, if_neg (fun hh => hh h)]
    rfl
  rw [hR]
  have hkl := runN_le isDig (b.drop j)
  rw [List.length_drop] at hkl
  have htk := @takeW (b.drop j)
  have hds : numDs b j = (b.drop j).take (runN isDig (b.drop j)) := rfl
  clear hR
  generalize numDs b j = ds at *
  generalize runN isDig (b.drop j) = k at *
  refine sat_branch tabOk Tryz.func101 rfl trivial (fun h1 => ?_) (fun h1 => ?_)
  · have h1 : ((((j + k : Nat) : Int)) == (j : Int)) = true := h1
    have h1 : k = 0 := by
      rw [beq_iff_eq] at h1
      omega
    refine sat_branch tabOk Tryz.func101 rfl trivial (fun _ => ?_) (fun h => by cases h)
    refine sat_ret tabOk Tryz.func101 rfl trivial ?_
    rw [if_pos (.inl h1)]
  have h1 : ((((j + k : Nat) : Int)) == (j : Int)) = false := h1
  have hk : 0 < k := by
    rw [beq_eq_false_iff_ne] at h1
    omega
  have wj : IntKind.i64.wrap ((j : Int) + 1) = (j : Int) + 1 := wrap_id (by omega) (by omega)
  have hgo : (¬ (b.getD j 0 = 48 ∧ 1 < k)) → ∀ R0, R0 = (if min most 2147483647 < (numN ds : Int) then ((0 : Int), (j : Int), (3 : Int)) else ((numN ds : Int), (j : Int) + k, 0)) → (if k = 0 ∨ (b.getD j 0 = 48 ∧ 1 < k) then ((0 : Int), (j : Int), (2 : Int)) else if min most 2147483647 < (numN ds : Int) then (0, (j : Int), 3) else ((numN ds : Int), (j : Int) + k, 0)) = R0 := fun hh R0 e => by
    rw [if_neg (fun e => e.elim (fun e => by omega) hh), e]
  have hdl : ds.length = k := by rw [hds, List.length_take, List.length_drop]; omega
  have hdig : ∀ q, q < k → 48 ≤ (ds.getD q 0).toNat ∧ (ds.getD q 0).toNat ≤ 57 := fun q hq => by
    obtain ⟨c, g1, g2⟩ := htk hq
    have : ds.getD q 0 = c := by rw [hds, List.getD_eq_getElem?_getD, List.getElem?_take, if_pos hq, g1]; rfl
    rw [this]
    exact of_decide_eq_true g2
  have hsl : List.take (((j + k : Nat) : Int) - (j : Int)).toNat (List.drop (j : Int).toNat (b.map eU8)) = ds.map eU8 := by
    rw [show (((j + k : Nat) : Int) - (j : Int)).toNat = k by omega, Int.toNat_natCast, hds, List.map_take, List.map_drop]
  apply letK (p := ASat Tryz.prog 101 Tryz.f101.ntmps C _ [(1, vI .i64 (j : Int)), (2, vI .i64 most), (9, vI .i64 ((j + k : Nat) : Int)), (10, vI .i64 0), (40, .d (eBy ds)), (41, vI .i64 (k : Int)), (42, vI .i64 ((0 : Nat) : Int))] [] (fun r o => r = numA (if min most 2147483647 < (numN ds : Int) then ((0 : Int), (j : Int), (3 : Int)) else ((numN ds : Int), (j : Int) + k, 0))))
  · intro key
    refine sat_branch tabOk Tryz.func101 rfl ?nd (fun h2 => ?_) (fun h2 => ?_)
    case nd =>
      simp only [List.length_map]
      exact ⟨⟨by omega, by omega⟩, trivial⟩
    · have h2 : (((b.getD j 0).toNat : Int) == 48) = true := h2
      have h2 : b.getD j 0 = 48 := by
        rw [beq_iff_eq] at h2
        exact UInt8.toNat_inj.1 (by show (b.getD j 0).toNat = 48; omega)
      refine sat_branch tabOk Tryz.func101 rfl trivial (fun h3 => ?_) (fun h3 => ?_)
      · have h3 : decide (((j + k : Nat) : Int) > IntKind.i64.wrap ((j : Int) + 1)) = true := h3
        rw [wj, decide_eq_true_eq] at h3
        refine sat_ret tabOk Tryz.func101 rfl trivial ?_
        rw [if_pos (.inr ⟨h2, by omega⟩)]
      · have h3 : decide (((j + k : Nat) : Int) > IntKind.i64.wrap ((j : Int) + 1)) = false := h3
        rw [wj, decide_eq_false_iff_not] at h3
        rw [hgo (fun hh => by omega) _ rfl]
        refine sat_stop tabOk Tryz.func101 rfl ?nd2 ?_
        case nd2 =>
          simp only [List.length_map]
          exact ⟨⟨by omega, by omega, by omega⟩, trivial⟩
        refine sat_le key hC hCl ⟨⟨_, rfl, .refl _⟩, ⟨_, rfl, .refl _⟩, ⟨_, rfl, .refl _⟩, ⟨_, rfl, .refl _⟩, ⟨_, rfl, .eL hsl⟩, ⟨_, rfl, .of ?_⟩, ⟨_, rfl, .refl _⟩, trivial⟩ trivial rfl rfl (Nat.zero_le _)
        show vI .i64 (((List.take (((j + k : Nat) : Int) - (j : Int)).toNat (List.drop (j : Int).toNat (b.map eU8))).length : Nat) : Int) = _
        rw [hsl, List.length_map, hdl]
    · have h2 : (((b.getD j 0).toNat : Int) == 48) = false := h2
      have h2 : b.getD j 0 ≠ 48 := fun e => by rw [e] at h2; exact absurd h2 (by decide)
      rw [hgo (fun hh => h2 hh.1) _ rfl]
      refine sat_branch tabOk Tryz.func101 rfl trivial (fun h => by cases h) (fun _ => ?_)
      refine sat_stop tabOk Tryz.func101 rfl ?nd3 ?_
      case nd3 =>
        simp only [List.length_map]
        exact ⟨⟨by omega, by omega, by omega⟩, trivial⟩
      refine sat_le key hC hCl ⟨⟨_, rfl, .refl _⟩, ⟨_, rfl, .refl _⟩, ⟨_, rfl, .refl _⟩, ⟨_, rfl, .refl _⟩, ⟨_, rfl, .eL hsl⟩, ⟨_, rfl, .of ?_⟩, ⟨_, rfl, .refl _⟩, trivial⟩ trivial rfl rfl (Nat.zero_le _)
      show vI .i64 (((List.take (((j + k : Nat) : Int) - (j : Int)).toNat (List.drop (j : Int).toNat (b.map eU8))).length : Nat) : Int) = _
      rw [hsl, List.length_map, hdl]
  refine sat_while (α := Nat) (fun q => [(1, vI .i64 (j : Int)), (2, vI .i64 most), (9, vI .i64 ((j + k : Nat) : Int)), (10, vI .i64 ((numN (ds.take q) : Nat) : Int)), (40, .d (eBy ds)), (41, vI .i64 (k : Int)), (42, vI .i64 ((q : Nat) : Int))]) (fun q => []) (fun q => q ≤ k ∧ (q = 0 ∨ (numN (ds.take q) : Int) ≤ min most 2147483647)) (fun q => k - q) 0 ⟨Nat.zero_le _, .inl rfl⟩ ?_ ?_
  · exact fun h => sat_le h hC hCl ⟨⟨_, rfl, .refl _⟩, ⟨_, rfl, .refl _⟩, ⟨_, rfl, .refl _⟩, ⟨_, rfl, .refl _⟩, ⟨_, rfl, .refl _⟩, ⟨_, rfl, .refl _⟩, ⟨_, rfl, .refl _⟩, trivial⟩ trivial rfl rfl (Nat.zero_le _)
  rintro q ⟨hq, hn⟩ ih
  have hnb : numN (ds.take q) ≤ 2147483647 := by
    rcases hn with rfl | hn
    · simp [numN]
    · omega
  refine sat_branch tabOk Tryz.func101 rfl trivial (fun hb2 => ?_) (fun hb2 => ?_)
  · have hb2 : decide ((q : Int) < (k : Int)) = true := hb2
    rw [decide_eq_true_eq] at hb2
    have hlt : q < k := by omega
    obtain ⟨g1, g2⟩ := hdig q hlt
    have hsn : numN (ds.take (q + 1)) = numN (ds.take q) * 10 + ((ds.getD q 0).toNat - 48) := by
      rw [List.take_succ_eq_append_getElem (by omega), numN_snoc, getD_at (d := 0) (by omega)]
    have e0 : IntKind.u8.wrap (((ds.getD q 0).toNat : Int) - 48) = ((ds.getD q 0).toNat : Int) - 48 := by
      generalize (ds.getD q 0).toNat = v at g1 g2
      simp [IntKind.wrap, IntKind.bits, IntKind.signed]
      omega
    have e1 : IntKind.i64.wrap (IntKind.i64.wrap (((numN (ds.take q) : Nat) : Int) * 10) + IntKind.i64.wrap (IntKind.u8.wrap (((ds.getD q 0).toNat : Int) - 48))) = ((numN (ds.take (q + 1)) : Nat) : Int) := by
      rw [e0, wrap_id (n := ((numN (ds.take q) : Nat) : Int) * 10) (by omega) (by omega), wrap_id (n := ((ds.getD q 0).toNat : Int) - 48) (by omega) (by omega), wrap_id (by omega) (by omega), hsn]
      omega
    refine sat_branch tabOk Tryz.func101 rfl ?nd (fun h4 => ?_) (fun h4 => ?_)
    case nd =>
      simp only [List.length_map]
      exact ⟨⟨by omega, by omega⟩, trivial⟩
    · have h4 : decide (IntKind.i64.wrap (IntKind.i64.wrap (((numN (ds.take q) : Nat) : Int) * 10) + IntKind.i64.wrap (IntKind.u8.wrap (((ds.getD q 0).toNat : Int) - 48))) > min most 2147483647) = true := h4
      rw [e1, decide_eq_true_eq] at h4
      have hpre := numN_pre (ds.take (q + 1)) (ds.drop (q + 1))
      rw [List.take_append_drop] at hpre
      refine sat_ret tabOk Tryz.func101 rfl trivial ?_
      rw [if_pos (by omega)]
    · have h4 : decide (IntKind.i64.wrap (IntKind.i64.wrap (((numN (ds.take q) : Nat) : Int) * 10) + IntKind.i64.wrap (IntKind.u8.wrap (((ds.getD q 0).toNat : Int) - 48))) > min most 2147483647) = false := h4
      rw [e1, decide_eq_false_iff_not] at h4
      refine sat_stop tabOk Tryz.func101 rfl trivial ?_
      exact sat_le (ih (q + 1) ⟨by omega, .inr (by omega)⟩ (by omega)) hC hCl ⟨⟨_, rfl, .refl _⟩, ⟨_, rfl, .refl _⟩, ⟨_, rfl, .refl _⟩, ⟨_, rfl, .of (by show vI .i64 _ = _; rw [← e1]; rfl)⟩, ⟨_, rfl, .refl _⟩, ⟨_, rfl, .refl _⟩, ⟨_, rfl, .of (by rw [wrap_id (by omega) (by omega)]; rfl)⟩, trivial⟩ trivial rfl rfl (Nat.zero_le _)
  · have hb2 : decide ((q : Int) < (k : Int)) = false := hb2
    rw [decide_eq_false_iff_not] at hb2
    obtain rfl : q = k := by omega
    rw [List.take_of_length_le (by omega)] at hn hnb ⊢
    refine sat_ret tabOk Tryz.func101 rfl trivial ?_
    rw [if_neg (by rcases hn with e | e <;> omega)]
    show tupOf [vI .i64 _, vI .i64 ((j + q : Nat) : Int), vI .i64 0] = _
    rw [show ((j + q : Nat) : Int) = (j : Int) + q by omega]
end Go.Proofs.YtkemmijjpclckaaGreatDoor
namespace Go.Proofs.YtkemmijjpclckaaGreatDoor
open Go Ab Go.RowKit
set_option maxRecDepth 100000
set_option linter.unusedVariables false
set_option linter.unusedSimpArgs false
set_option maxHeartbeats 2000000

@[reducible] def sMinus : List UInt8 := [45]
def signR (b : List UInt8) (i most : Int) : Int × Int × Int :=
  if ¬ (0 ≤ i ∧ i ≤ b.length) then (0, 0, 2)
  else if isAt b i sMinus = false then numR b (isTo b i sMinus) most
  else if (numR b (isTo b i sMinus) most).2.2 = 0 ∧ (numR b (isTo b i sMinus) most).1 = 0 then (0, i, 2)
  else if (numR b (isTo b i sMinus) most).2.2 ≠ 0 then (0, i, (numR b (isTo b i sMinus) most).2.2)
  else (-(numR b (isTo b i sMinus) most).1, (numR b (isTo b i sMinus) most).2.1, 0)
theorem numR_bd (b : List UInt8) (i most : Int) : 0 ≤ (numR b i most).1 ∧ (numR b i most).1 ≤ 2147483647 := by
  unfold numR
  split
  · exact ⟨by decide, by decide⟩
  · split
    · exact ⟨by simp, by simp⟩
    · split
      · exact ⟨by simp, by simp⟩
      · exact ⟨by simp, by simp only; omega⟩

theorem Signed_call (b : List UInt8) (i most : Int) (hb : b.length ≤ 1000000) : ACall Tryz.prog 161 [.d (eBy b), vI .i64 i, vI .i64 most] [] (fun r o => r = numA (signR b i most)) := by
  refine acall_enter Tryz.func161 rfl rfl (Nat.le_of_ble_eq_true rfl) fun C hC hCl hDs hGk => ?_
  refine sat_call tabOk Tryz.func161 rfl trivial (isPlace_call b i) (.refl _) rfl ⟨_, rfl⟩ (by rintro r o rfl; rfl) ?_
  rintro _ o rfl
  refine sat_branch tabOk Tryz.func161 rfl trivial (fun h => ?_) (fun h => ?_)
  · rw [Bool.not_eq_true', decide_eq_false_iff_not] at h
    refine sat_ret tabOk Tryz.func161 rfl trivial ?_
    rw [signR, if_pos h]
  have h : 0 ≤ i ∧ i ≤ b.length := by
    rw [Bool.not_eq_false', decide_eq_true_eq] at h
    exact h
  have hS : signR b i most = if isAt b i sMinus = false then numR b (isTo b i sMinus) most
    else if (numR b (isTo b i sMinus) most).2.2 = 0 ∧ (numR b (isTo b i sMinus) most).1 = 0 then (0, i, 2)
    else if (numR b (isTo b i sMinus) most).2.2 ≠ 0 then (0, i, (numR b (isTo b i sMinus) most).2.2)
    else (-(numR b (isTo b i sMinus) most).1, (numR b (isTo b i sMinus) most).2.1, 0) := by
    rw [signR, if_neg (fun hh => hh h)]
  rw [hS]
  clear hS
  refine sat_call tabOk Tryz.func161 rfl trivial (Is_call b i sMinus hb (by decide)) (.refl _) rfl ⟨_, rfl⟩ (by rintro r o rfl; rfl) ?_
  rintro _ o rfl
  have hbd := numR_bd b (isTo b i sMinus) most
  refine sat_call tabOk Tryz.func161 rfl trivial (Number_call b (isTo b i sMinus) most hb) (.refl _) rfl ⟨_, rfl⟩ (by rintro r o rfl; rfl) ?_
  rintro _ o rfl
  generalize numR b (isTo b i sMinus) most = q at *
  obtain ⟨n, e, er⟩ := q
  cases hneg : isAt b i sMinus with
  | false =>
    refine sat_branch tabOk Tryz.func161 rfl trivial (fun _ => ?_) (fun h => by cases h)
    refine sat_ret tabOk Tryz.func161 rfl trivial ?_
    rw [if_pos rfl]
  | true =>
    refine sat_branch tabOk Tryz.func161 rfl trivial (fun h => by cases h) (fun _ => ?_)
    rw [if_neg (by decide)]
    refine sat_branch tabOk Tryz.func161 rfl trivial (fun h1 => ?_) (fun h1 => ?_)
    · obtain rfl : er = 0 := by simpa using h1
      refine sat_branch tabOk Tryz.func161 rfl trivial (fun h2 => ?_) (fun h2 => ?_)
      · obtain rfl : n = 0 := by simpa using h2
        refine sat_ret tabOk Tryz.func161 rfl trivial ?_
        rw [if_pos ⟨rfl, rfl⟩]
      · have h2 : n ≠ 0 := by simpa using h2
        refine sat_branch tabOk Tryz.func161 rfl trivial (fun h => by cases h) (fun _ => ?_)
        refine sat_ret tabOk Tryz.func161 rfl trivial ?_
        rw [if_neg (fun hh => h2 hh.2), if_neg (by simp)]
        show tupOf [vI .i64 (IntKind.i64.wrap (0 - n)), _, _] = _
        rw [wrap_id (by simp only at hbd; omega) (by simp only at hbd; omega), Int.zero_sub]
    · have h1 : er ≠ 0 := by simpa using h1
      refine sat_branch tabOk Tryz.func161 rfl trivial (fun h => by cases h) (fun _ => ?_)
      refine sat_branch tabOk Tryz.func161 rfl trivial (fun _ => ?_) (fun h3 => ?_)
      · refine sat_ret tabOk Tryz.func161 rfl trivial ?_
        rw [if_neg (fun hh => h1 hh.1), if_pos h1]
      · exact absurd (show er = 0 by simpa using h3) h1
end Go.Proofs.YtkemmijjpclckaaGreatDoor
namespace Go.Proofs.YtkemmijjpclckaaGreatDoor
open Go Ab Go.RowKit
set_option maxRecDepth 100000
set_option linter.unusedVariables false
set_option linter.unusedSimpArgs false
set_option maxHeartbeats 4000000

@[reducible] def sNl : List UInt8 := [10]
@[reducible] def sSp : List UInt8 := [32]
/-- A clause that stands there: its literals, the place behind; or what is wrong, and where. -/
def clR (b : List UInt8) (n : Int) : Nat → Int → List Int → (Int × Int) ⊕ (List Int × Int)
  | 0, at_, _ => .inl (at_, 2)
  | f + 1, at_, out =>
    if (signR b at_ n).2.2 ≠ 0 then .inl (at_, (signR b at_ n).2.2)
    else if (signR b at_ n).1 = 0 then (if isAt b (signR b at_ n).2.1 sNl = true then .inr (out, isTo b (signR b at_ n).2.1 sNl) else .inl ((signR b at_ n).2.1, 2))
    else if out.length = 1000 then .inl (at_, 3)
    else if isAt b (signR b at_ n).2.1 sSp = true then clR b n f (isTo b (signR b at_ n).2.1 sSp) (out ++ [(signR b at_ n).1]) else .inl ((signR b at_ n).2.1, 2)
theorem numR_pl {b : List UInt8} {i most : Int} (h : (numR b i most).2.2 = 0) : 0 ≤ i ∧ i < (numR b i most).2.1 ∧ (numR b i most).2.1 ≤ b.length := by
  unfold numR at h ⊢
  split at h
  · exact absurd h (by decide)
  · rename_i h1
    rw [if_neg h1]
    have h1 : 0 ≤ i ∧ i ≤ b.length := Decidable.not_not.1 h1
    split at h
    · exact absurd h (by simp)
    · rename_i h2
      rw [if_neg h2]
      split at h
      · exact absurd h (by simp)
      · rename_i h3
        rw [if_neg h3]
        have := runN_le isDig (b.drop i.toNat)
        rw [List.length_drop] at this
        have hne : runN isDig (b.drop i.toNat) ≠ 0 := fun e => h2 (.inl e)
        refine ⟨h1.1, ?_, ?_⟩ <;> simp only <;> omega
theorem isTo_pl {b : List UInt8} {i : Int} {s : List UInt8} (h : isAt b i s = true) : 0 ≤ i ∧ isTo b i s = i + s.length ∧ isTo b i s ≤ b.length := by
  unfold isAt at h
  rw [Bool.and_eq_true, decide_eq_true_eq] at h
  obtain ⟨h1, h2⟩ := h
  have h3 : isTo b i s = i + s.length := by rw [isTo, if_neg (fun hh => hh h1), if_pos h2]
  refine ⟨h1.1, h3, ?_⟩
  rw [pre_take, decide_eq_true_eq, List.length_drop] at h2
  rw [h3]
  omega
theorem signR_pl {b : List UInt8} {i most : Int} (h : (signR b i most).2.2 = 0) : 0 ≤ i ∧ i < (signR b i most).2.1 ∧ (signR b i most).2.1 ≤ b.length := by
  unfold signR at h ⊢
  split at h
  · exact absurd h (by decide)
  · rename_i h1
    rw [if_neg h1]
    have h1 : 0 ≤ i ∧ i ≤ b.length := Decidable.not_not.1 h1
    split at h
    · rename_i h2
      rw [if_pos h2]
      have := numR_pl h
      have e : isTo b i sMinus = i := by
        unfold isAt at h2
        rw [decide_eq_true h1, Bool.true_and] at h2
        rw [isTo, if_neg (fun hh => hh h1), if_neg (by rw [h2]; decide)]
      rw [e] at this ⊢
      exact this
    · rename_i h2
      rw [if_neg h2]
      have h2 : isAt b i sMinus = true := by simpa using h2
      obtain ⟨q1, q2, q3⟩ := isTo_pl h2
      split at h
      · exact absurd h (by simp)
      · rename_i h3
        rw [if_neg h3]
        split at h
        · rename_i h4
          exact absurd h h4
        · rename_i h4
          rw [if_neg h4]
          have := numR_pl (Decidable.not_not.1 h4)
          refine ⟨q1, ?_, this.2.2⟩
          have h5 := this.2.1
          rw [q2] at h5 ⊢
          simp only [List.length_cons, List.length_nil] at h5 ⊢
          omega
end Go.Proofs.YtkemmijjpclckaaGreatDoor
namespace Go.Proofs.YtkemmijjpclckaaGreatDoor
open Go Ab Go.RowKit
set_option maxRecDepth 100000
set_option linter.unusedVariables false
set_option linter.unusedSimpArgs false
set_option maxHeartbeats 2000000

theorem EqI_call (a b : List Int) : ACall Tryz.prog 98 [.d (eIs a), .d (eIs b)] [] (fun r o => r = vB (decide (a = b))) := by
  refine acall_enter Tryz.func98 rfl rfl (Nat.le_of_ble_eq_true rfl) fun C hC hCl hDs hGk => ?_
  refine sat_len (t := 0) rfl fun hlen => ?_
  rw [List.length_map] at hlen
  refine sat_branch tabOk Tryz.func98 rfl trivial (fun h => ?_) (fun h => ?_)
  · refine sat_ret tabOk Tryz.func98 rfl trivial ?_
    show vB false = vB _
    have : a ≠ b := by rintro rfl; simp at h
    simp [this]
  have hl : a.length = b.length := by simp at h; omega
  refine sat_stop tabOk Tryz.func98 rfl trivial ?_
  refine sat_while (α := Nat) (fun i => [(0, .d (eIs a)), (1, .d (eIs b)), (12, vI .i64 a.length), (13, vI .i64 i)]) (fun _ => []) (fun i => i ≤ a.length ∧ a.take i = b.take i) (fun i => a.length - i) 0 ⟨Nat.zero_le _, rfl⟩ ?_ ?_
  · exact fun h => sat_le h hC hCl ⟨⟨_, rfl, .refl _⟩, ⟨_, rfl, .refl _⟩, ⟨_, rfl, .of (by rw [List.length_map])⟩, ⟨_, rfl, .refl _⟩, trivial⟩ trivial rfl rfl (Nat.zero_le _)
  rintro i ⟨hi, hc⟩ ih
  refine sat_branch tabOk Tryz.func98 rfl trivial (fun hb => ?_) (fun hb => ?_) <;> simp only [decide_eq_true_eq, decide_eq_false_iff_not, List.length_map] at hb
  · have hlt : i < a.length := by omega
    have hlb : i < b.length := by omega
    have ea : a.getD i 0 = a[i] := by simp [hlt]
    have eb : b.getD i 0 = b[i] := by simp [hlb]
    refine sat_drawT 8 tabOk Tryz.func98 rfl rfl trivial (by kernel_rfl) ?_
    refine ds_done tabOk rfl ?_ ?_
    · exact (by simp only [andP, and_true, true_and, Int.toNat_natCast, List.length_map, List.length_append, List.length_cons, List.length_nil, List.length_replicate]; omega)
    refine sat_branch tabOk Tryz.func98 rfl trivial (fun hb2 => ?_) (fun hb2 => ?_)
    · simp only [Int.toNat_natCast, bne_iff_ne, ne_eq] at hb2
      refine sat_ret tabOk Tryz.func98 rfl trivial ?_
      show vB false = vB _
      have : a ≠ b := by rintro rfl; exact hb2 rfl
      simp [this]
    · simp only [Int.toNat_natCast, bne_eq_false_iff_eq] at hb2
      rw [ea, eb] at hb2
      refine sat_stop tabOk Tryz.func98 rfl trivial ?_
      refine sat_le (ih (i + 1) ⟨by omega, ?_⟩ (by omega)) hC hCl ⟨⟨_, rfl, .refl _⟩, ⟨_, rfl, .refl _⟩, ⟨_, rfl, .refl _⟩, ⟨_, rfl, .of (by rw [wrap_id (by omega) (by omega)]; rfl)⟩, trivial⟩ trivial rfl rfl (Nat.zero_le _)
      rw [List.take_add_one, List.take_add_one, hc, List.getElem?_eq_getElem hlt, List.getElem?_eq_getElem hlb, hb2]
  · obtain rfl : i = a.length := by omega
    rw [List.take_length, hl, List.take_length] at hc
    refine sat_ret tabOk Tryz.func98 rfl trivial ?_
    show vB true = vB _
    simp [hc]

end Go.Proofs.YtkemmijjpclckaaGreatDoor
namespace Go.Proofs.YtkemmijjpclckaaGreatDoor
open Go Ab Go.RowKit
set_option maxRecDepth 100000
set_option linter.unusedVariables false
set_option linter.unusedSimpArgs false
set_option maxHeartbeats 2000000

/-- A step: does it take away; its clause. -/
@[reducible] def Sp := Bool × List Int × Unit
@[reducible] def eSp (x : Sp) : D := .ag [.v (.bool x.1), eIs x.2.1]
@[reducible] def eSps (l : List Sp) : D := eL 2 eSp (false, [], ()) l
theorem same1_call (x y : Sp) : ACall Tryz.prog 97 [.d (eSp x), .d (eSp y)] [] (fun r o => r = vB (decide (x = y))) := by
  refine acall_enter Tryz.func97 rfl rfl (Nat.le_of_ble_eq_true rfl) fun C hC hCl hDs hGk => ?_
  obtain ⟨d, c, ⟨⟩⟩ := x
  obtain ⟨e, k, ⟨⟩⟩ := y
  have hd : decide (((d, c, ()) : Sp) = (e, k, ())) = (decide (d = e) && decide (c = k)) := by
    rw [Bool.eq_iff_iff]
    simp
  refine sat_branch tabOk Tryz.func97 rfl trivial (fun h => ?_) (fun h => ?_)
  · have h : d = e := by simpa using h
    refine sat_call tabOk Tryz.func97 rfl trivial (EqI_call c k) (.refl _) rfl ⟨_, rfl⟩ (by rintro r o rfl; rfl) ?_
    rintro _ o rfl
    refine sat_ret tabOk Tryz.func97 rfl trivial ?_
    rw [hd, decide_eq_true h, Bool.true_and]
    rfl
  · have h : ¬ d = e := by simpa using h
    refine sat_ret tabOk Tryz.func97 rfl trivial ?_
    rw [hd, decide_eq_false h, Bool.false_and]
    rfl
end Go.Proofs.YtkemmijjpclckaaGreatDoor
namespace Go.Proofs.YtkemmijjpclckaaGreatDoor
open Go Ab Go.RowKit
set_option maxRecDepth 100000
set_option linter.unusedVariables false
set_option linter.unusedSimpArgs false
set_option maxHeartbeats 2000000

theorem EqS_call (a b : List Sp) : ACall Tryz.prog 96 [.d (eSps a), .d (eSps b), vFn 97] [] (fun r o => r = vB (decide (a = b))) := by
  refine acall_enter Tryz.func96 rfl rfl (Nat.le_of_ble_eq_true rfl) fun C hC hCl hDs hGk => ?_
  refine sat_len (t := 0) rfl fun hlen => ?_
  rw [List.length_map] at hlen
  refine sat_branch tabOk Tryz.func96 rfl trivial (fun h => ?_) (fun h => ?_)
  · refine sat_ret tabOk Tryz.func96 rfl trivial ?_
    show vB false = vB _
    have : a ≠ b := by rintro rfl; simp at h
    simp [this]
  have hl : a.length = b.length := by simp at h; omega
  refine sat_stop tabOk Tryz.func96 rfl trivial ?_
  refine sat_while (α := Nat) (fun i => [(1, .d (eSps b)), (2, vFn 97), (15, .d (eSps a)), (16, vI .i64 a.length), (17, vI .i64 i)]) (fun _ => []) (fun i => i ≤ a.length ∧ a.take i = b.take i) (fun i => a.length - i) 0 ⟨Nat.zero_le _, rfl⟩ ?_ ?_
  · exact fun h => sat_le h hC hCl ⟨⟨_, rfl, .refl _⟩, ⟨_, rfl, .refl _⟩, ⟨_, rfl, .refl _⟩, ⟨_, rfl, .of (by rw [List.length_map])⟩, ⟨_, rfl, .refl _⟩, trivial⟩ trivial rfl rfl (Nat.zero_le _)
  rintro i ⟨hi, hc⟩ ih
  refine sat_branch tabOk Tryz.func96 rfl trivial (fun hb => ?_) (fun hb => ?_) <;> simp only [decide_eq_true_eq, decide_eq_false_iff_not, List.length_map] at hb
  · have hlt : i < a.length := by omega
    have hlb : i < b.length := by omega
    have ea : a.getD i (false, [], ()) = a[i] := by simp [hlt]
    have eb : b.getD i (false, [], ()) = b[i] := by simp [hlb]
    refine sat_call tabOk Tryz.func96 rfl (by simp only [andP, and_true, true_and, Int.toNat_natCast, List.length_map, List.length_append, List.length_cons, List.length_nil, List.length_replicate]; omega) (same1_call (a.getD i (false, [], ())) (b.getD i (false, [], ()))) (.refl _) rfl ⟨_, rfl⟩ (by rintro r o rfl; rfl) ?_
    rintro _ o rfl
    refine sat_branch tabOk Tryz.func96 rfl trivial (fun hb2 => ?_) (fun hb2 => ?_)
    · have hb2 : a.getD i (false, [], ()) ≠ b.getD i (false, [], ()) := by simpa using hb2
      refine sat_ret tabOk Tryz.func96 rfl trivial ?_
      show vB false = vB _
      have : a ≠ b := by rintro rfl; exact hb2 rfl
      simp [this]
    · have hb2 : a.getD i (false, [], ()) = b.getD i (false, [], ()) := by simpa using hb2
      rw [ea, eb] at hb2
      refine sat_stop tabOk Tryz.func96 rfl trivial ?_
      refine sat_le (ih (i + 1) ⟨by omega, ?_⟩ (by omega)) hC hCl ⟨⟨_, rfl, .refl _⟩, ⟨_, rfl, .refl _⟩, ⟨_, rfl, .refl _⟩, ⟨_, rfl, .refl _⟩, ⟨_, rfl, .of (by rw [wrap_id (by omega) (by omega)]; rfl)⟩, trivial⟩ trivial rfl rfl (Nat.zero_le _)
      rw [List.take_add_one, List.take_add_one, hc, List.getElem?_eq_getElem hlt, List.getElem?_eq_getElem hlb, hb2]
  · obtain rfl : i = a.length := by omega
    refine sat_ret tabOk Tryz.func96 rfl trivial ?_
    rw [List.take_length, hl, List.take_length] at hc
    rw [decide_eq_true hc]
    rfl
theorem dSame_call (a b : List Sp) : ACall Tryz.prog 54 [.d (eSps a), .d (eSps b)] [] (fun r o => r = vB (decide (a = b))) := by
  refine acall_enter Tryz.func54 rfl rfl (Nat.le_of_ble_eq_true rfl) fun C hC hCl hDs hGk => ?_
  refine sat_call tabOk Tryz.func54 rfl trivial (EqS_call a b) (.refl _) rfl ⟨_, rfl⟩ (by rintro r o rfl; rfl) ?_
  rintro _ o rfl
  exact sat_ret tabOk Tryz.func54 rfl trivial rfl
end Go.Proofs.YtkemmijjpclckaaGreatDoor
namespace Go.Proofs.YtkemmijjpclckaaGreatDoor
open Go Ab Go.RowKit
set_option maxRecDepth 100000
set_option linter.unusedVariables false
set_option linter.unusedSimpArgs false
set_option maxHeartbeats 4000000

@[reducible] def sDel : List UInt8 := [100, 32]
@[reducible] def gSps (l : List Sp) : AObj := gL 87 2 eSp (false, [], ()) l
theorem isTo_ge {b : List UInt8} {at_ : Int} {s : List UInt8} (h0 : 0 ≤ at_) (h1 : at_ ≤ b.length) : at_ ≤ isTo b at_ s ∧ isTo b at_ s ≤ b.length := by
  cases h : isAt b at_ s with
  | true =>
    have := isTo_pl h
    omega
  | false =>
    unfold isAt at h
    rw [decide_eq_true ⟨h0, h1⟩, Bool.true_and] at h
    rw [isTo, if_neg (fun hh => hh ⟨h0, h1⟩), if_neg (by rw [h]; decide)]
    omega
end Go.Proofs.YtkemmijjpclckaaGreatDoor
namespace Go.Proofs.YtkemmijjpclckaaGreatDoor
open Go Ab Go.RowKit
set_option maxRecDepth 100000
set_option linter.unusedVariables false
set_option linter.unusedSimpArgs false
set_option maxHeartbeats 4000000

@[reducible] def gIss (l : List (List Int)) : AObj := gL 24 1 eIs [] l
/-- The first that is so, or -1. -/
def idP {α : Type} (p : α → Bool) (l : List α) : Int := match l.findIdx? p with | some i => i | none => -1
theorem idP_some {α : Type} {p : α → Bool} {l : List α} {j : Nat} (hj : j < l.length) (h1 : p l[j] = true) (h2 : ∀ q (hq : q < l.length), q < j → p l[q] = false) : idP p l = j := by
  have : l.findIdx? p = some j := List.findIdx?_eq_some_iff_getElem.2 ⟨hj, h1, fun q hq => by rw [h2 q (by omega) hq]; decide⟩
  rw [idP, this]
theorem idP_none {α : Type} {p : α → Bool} {l : List α} (h2 : ∀ q (hq : q < l.length), p l[q] = false) : idP p l = -1 := by
  have : l.findIdx? p = none := List.findIdx?_eq_none_iff.2 fun x hx => by
    obtain ⟨q, hq, rfl⟩ := List.mem_iff_getElem.1 hx
    exact h2 q hq
  rw [idP, this]

theorem Clone2_call (c : List (List Int)) (hlen : c.length ≤ 1000000) : ACall Tryz.prog 115 [.d (eIss c)] [] (fun r o => r = .gs 0 ∧ o = [some (gIss c)]) := by
  refine acall_enter Tryz.func115 rfl rfl (Nat.le_of_ble_eq_true rfl) fun C hC hCl hDs hGk => ?_
  refine sat_goto tabOk Tryz.func115 rfl trivial ?_
  refine sat_isnil tabOk rfl rfl rfl rfl rfl rfl rfl rfl (fun hx => ?_) ?_
  · have hc : c = [] := List.map_eq_nil_iff.1 hx
    subst hc
    refine sat_steps 6 tabOk Tryz.func115 rfl trivial ?_
    refine sat_own (e := 24) (s := 1) (t := 2) (.inl rfl) (fun i => eIs (([] : List (List Int)).getD i [])) ?_
    refine sat_retL tabOk Tryz.func115 rfl trivial hC hCl (.refl _) (o2 := [some (gIss [])]) ⟨.refl _, trivial⟩ rfl rfl (Nat.zero_le _) ⟨rfl, rfl⟩
  · refine sat_retL tabOk Tryz.func115 rfl ?_ hC hCl (.refl _) (o2 := [some (gIss c)]) ⟨.gL rfl, trivial⟩ rfl rfl (Nat.zero_le _) ⟨rfl, rfl⟩
    simp only [andP, List.length_map]
    exact ⟨by show c.length * 24 ≤ _; omega, trivial⟩

@[reducible] def bOwn (own : List Int) : AObj := .cells 24 [.d (eIs own)]
theorem takes1_call (own d : List Int) (hd : ∀ x ∈ d, -1000000 ≤ x ∧ x ≤ 1000000) (hl : d.length ≤ 1000000) : ACall Tryz.prog 208 [.d (eIs d), .ptr 0 0] [some (bOwn own)] (fun r o => r = vB (decide (sortU d = own)) ∧ o = [some (bOwn own)]) := by
  refine acall_enter Tryz.func208 rfl rfl (Nat.le_of_ble_eq_true rfl) fun C hC hCl hDs hGk => ?_
  refine sat_drawT 3 tabOk Tryz.func208 rfl rfl trivial (by kernel_rfl) ?_
  refine ds_call tabOk rfl trivial (Sort_call d hd hl) (callFunc_run Tryz.func207 rfl rfl) (by rintro r o rfl; rfl) (.refl _) rfl rfl ⟨_, rfl⟩ ?_
  refine ds_done tabOk rfl trivial ?_
  refine sat_call tabOk Tryz.func208 rfl trivial (EqI_call (sortU d) own) (.refl _) rfl ⟨_, rfl⟩ (by rintro r o rfl; rfl) ?_
  rintro _ o rfl
  exact sat_ret tabOk Tryz.func208 rfl trivial ⟨rfl, rfl⟩

theorem IdxG_call (g : FuncId) (p : List Int → Bool) (own : List Int) (l : List (List Int)) (hp : ∀ d ∈ l, ACall Tryz.prog g [.d (eIs d), .ptr 0 0] [some (bOwn own)] (fun r o => r = vB (p d) ∧ o = [some (bOwn own)])) (hl : l.length ≤ 1000000) (vh : Value) :
    ACall Tryz.prog 146 [.gs 0, .fn (.func g) [.ptr 1 0]] [some (gIss l), some (bOwn own), some (.hold (.gs 0) vh)] (fun r o => r = vI .i64 (idP p l) ∧ o = [some (gIss l), some (bOwn own), some (.hold (.gs 0) vh)]) := by
  refine acall_enter Tryz.func146 rfl rfl (Nat.le_of_ble_eq_true rfl) fun C hC hCl hDs hGk => ?_
  refine sat_stop tabOk Tryz.func146 rfl trivial ?_
  refine sat_while (α := Nat) (fun i => [(0, .gs 0), (1, .fn (.func g) [.ptr 1 0]), (7, vI .i64 l.length), (8, vI .i64 (i : Int))]) (fun i => [some (gIss l), some (bOwn own), some (.hold (.gs 0) vh)]) (fun i => i ≤ l.length ∧ ∀ q (hq : q < l.length), q < i → p l[q] = false) (fun i => l.length - i) 0 ⟨Nat.zero_le _, fun q _ h => absurd h (Nat.not_lt_zero q)⟩ ?_ ?_
  · exact fun h => sat_le h hC hCl ⟨⟨_, rfl, .refl _⟩, ⟨_, rfl, .refl _⟩, ⟨_, rfl, .of (by rw [List.length_map])⟩, ⟨_, rfl, .refl _⟩, trivial⟩ ⟨.refl _, .refl _, .refl _, trivial⟩ rfl rfl (Nat.le_refl _)
  rintro i ⟨hi, hno⟩ ih
  refine sat_branch tabOk Tryz.func146 rfl trivial (fun h => ?_) (fun h => ?_)
  · have h : decide ((i : Int) < (l.length : Int)) = true := h
    rw [decide_eq_true_eq] at h
    have hlt : i < l.length := by omega
    have eg : l.getD i [] = l[i] := by simp [hlt]
    refine sat_callG [1] tabOk Tryz.func146 rfl (by simp only [andP, and_true, true_and, Int.toNat_natCast, List.length_map, List.length_append, List.length_cons, List.length_nil, List.length_replicate]; omega) (hp (l.getD i []) (by rw [eg]; exact List.getElem_mem hlt)) ⟨⟨_, rfl, .refl _⟩, trivial⟩ (.refl _) rfl rfl rfl ⟨_, rfl⟩ ?_
    rintro r o ⟨rfl, rfl⟩
    refine sat_branch tabOk Tryz.func146 rfl trivial (fun h2 => ?_) (fun h2 => ?_)
    · have h2 : p (l.getD i []) = true := h2
      rw [eg] at h2
      refine sat_retL tabOk Tryz.func146 rfl trivial hC hCl (.of ?_) (o2 := [some (gIss l), some (bOwn own), some (.hold (.gs 0) vh)]) ⟨.refl _, .refl _, .refl _, trivial⟩ rfl rfl (Nat.le_refl _) ⟨rfl, rfl⟩
      rw [idP_some hlt h2 hno]
      rfl
    · have h2 : p (l.getD i []) = false := h2
      rw [eg] at h2
      refine sat_stop tabOk Tryz.func146 rfl trivial ?_
      refine sat_le (ih (i + 1) ⟨by omega, fun q hq hqi => ?_⟩ (by omega)) hC hCl ⟨⟨_, rfl, .refl _⟩, ⟨_, rfl, .refl _⟩, ⟨_, rfl, .refl _⟩, ⟨_, rfl, .of (by rw [wrap_id (by omega) (by omega)]; rfl)⟩, trivial⟩ ⟨.refl _, .refl _, .refl _, trivial⟩ rfl rfl (Nat.le_refl _)
      rcases Nat.lt_or_ge q i with h3 | h3
      · exact hno q hq h3
      · obtain rfl : q = i := by omega
        exact h2
  · have h : decide ((i : Int) < (l.length : Int)) = false := h
    rw [decide_eq_false_iff_not] at h
    obtain rfl : i = l.length := by omega
    refine sat_ret tabOk Tryz.func146 rfl trivial ⟨?_, rfl⟩
    rw [idP_none fun q hq => hno q hq hq]
    rfl
end Go.Proofs.YtkemmijjpclckaaGreatDoor
namespace Go.Proofs.YtkemmijjpclckaaGreatDoor
open Go Ab Go.RowKit Go.Shelf Go.Lib Go.Sort Go.Proofs
set_option maxRecDepth 100000
set_option linter.unusedVariables false
set_option linter.unusedSimpArgs false
set_option maxHeartbeats 4000000

theorem Del_call (l : List (List Int)) (i : Nat) (hi : i < l.length) : ACall Tryz.prog 209 [.gs 0, vI .i64 (i : Int), vI .i64 ((i + 1 : Nat) : Int)] [some (gIss l)] (fun r o => r = .gs 0 ∧ o = [some (gIss (l.take i ++ l.drop (i + 1)))]) := by
  have h := delete_gen (P := Tryz.prog) (g := 209) (zr := ⟨.slice none 0 0, rfl⟩) (fun b o cap i j d w h1 h2 h3 h4 h5 => AnyE.slices_Delete Tryz.sdelL encF (fun x => x.2) ⟨.slice none 0 0, rfl⟩ Tryz.zeroValue24 _ rfl rfl b o cap i j d w h1 h2 h3 h4 h5)
    (fun args w => callFunc_run Tryz.func209 rfl rfl args w) (e := 24) (xs := l.map eIs) (rd := fun i => eIs (l.getD i [])) (rd' := fun k => eIs ((l.take i ++ l.drop (i + 1)).getD k [])) (i := i) (by simpa using hi) (by
      rw [← List.map_take, ← List.map_drop, ← List.map_append]
      exact map_rd eIs [] _)
  rw [← List.map_take, ← List.map_drop, ← List.map_append] at h
  exact h
end Go.Proofs.YtkemmijjpclckaaGreatDoor
namespace Go.Proofs.YtkemmijjpclckaaGreatDoor
open Go Ab Go.RowKit
set_option maxRecDepth 100000
set_option linter.unusedVariables false
set_option linter.unusedSimpArgs false
set_option maxHeartbeats 4000000

/-- Is a clause refuted? -/
noncomputable def refB (l : List (List Int)) (c : List Int) : Bool := @decide (Cf l (c.map fun x => -x)) (Classical.propDecidable _)
theorem refB_iff {l : List (List Int)} {c : List Int} : refB l c = true ↔ Cf l (c.map fun x => -x) := by
  unfold refB
  exact @decide_eq_true_iff _ (Classical.propDecidable _)
theorem refutes_b {n : Int} {l : List (List Int)} {c : List Int} (h : Okl n l c) (hn : n ≤ 100000) (hb : lits l ≤ 1000000) (hc : c.length ≤ 1000000) : ACall Tryz.prog 200 [vI .i64 n, .d (eIss l), .d (eIs c)] [] (fun r o => r = vB (refB l c)) := by
  refine (refutes_c h hn hb hc).mono ?_
  rintro r o ⟨b, rfl, h1⟩
  congr 3
  rw [Bool.eq_iff_iff, h1, refB_iff]
def eqS (c d : List Int) : Bool := decide (sortU d = sortU c)
theorem adds_call {n : Int} {l : List (List Int)} {c : List Int} (h : Okl n l c) (hn : n ≤ 100000) (hb : lits l ≤ 1000000) (hc : c.length ≤ 1000000) (hl : l.length ≤ 1000000) :
    ACall Tryz.prog 199 [.d (eIs c), vI .i64 n, .gs 0] [some (gIss l)] (fun r o => r = .tp [.gs 0, vB (refB l c)] ∧ o = [some (gIss (if refB l c = true then l ++ [c] else l))]) := by
  refine acall_enter Tryz.func199 rfl rfl (Nat.le_of_ble_eq_true rfl) fun C hC hCl hDs hGk => ?_
  refine sat_callL tabOk Tryz.func199 rfl trivial (refutes_b h hn hb hc) ⟨.inl (.refl _), .inr ⟨0, 24, 1, _, _, _, rfl, rfl, rfl, map_rd eIs [] l⟩, .inl (.refl _), trivial⟩ rfl ⟨_, rfl⟩ (by rintro r o rfl; rfl) ?_
  rintro _ o rfl
  cases refB l c with
  | false =>
    refine sat_branch tabOk Tryz.func199 rfl trivial (fun _ => ?_) (fun h => by cases h)
    exact sat_ret tabOk Tryz.func199 rfl trivial ⟨rfl, rfl⟩
  | true =>
    refine sat_branch tabOk Tryz.func199 rfl trivial (fun h => by cases h) (fun _ => ?_)
    refine sat_retL tabOk Tryz.func199 rfl ?nd hC hCl (.refl _) (o2 := [some (gIss (l ++ [c]))]) ⟨.gL ?_, trivial⟩ rfl rfl (Nat.le_refl _) ⟨rfl, rfl⟩
    case nd =>
      show ((l.map eIs).length + 1) * 24 ≤ 140737488355328 ∧ True
      rw [List.length_map]
      exact ⟨by omega, trivial⟩
    rw [List.map_append]
    rfl

def takeR (l : List (List Int)) (c : List Int) : Option (List (List Int)) := (l.findIdx? (eqS c)).map fun j => l.take j ++ l.drop (j + 1)
theorem takes_call {l : List (List Int)} {c : List Int} (n : Int) (hll : ∀ d ∈ l, (∀ x ∈ d, -1000000 ≤ x ∧ x ≤ 1000000) ∧ d.length ≤ 1000000) (hcc : ∀ x ∈ c, -1000000 ≤ x ∧ x ≤ 1000000) (hc : c.length ≤ 1000000) (hl : l.length ≤ 1000000) :
    ACall Tryz.prog 206 [.d (eIs c), vI .i64 n, .gs 0] [some (gIss l)] (fun r o => r = .tp [.gs 0, vB (takeR l c).isSome] ∧ o = [some (gIss ((takeR l c).getD l))]) := by
  refine acall_enter Tryz.func206 rfl rfl (Nat.le_of_ble_eq_true rfl) fun C hC hCl hDs hGk => ?_
  refine sat_call tabOk Tryz.func206 rfl trivial (Sort_call c hcc hc) (.refl _) rfl ⟨_, rfl⟩ (by rintro r o rfl; rfl) ?_
  rintro _ o rfl
  refine sat_steps 7 tabOk Tryz.func206 rfl trivial ?_
  refine sat_hold 2 0 rfl (fun vh _ => ?_)
  refine sat_callG [0, 1, 2] tabOk Tryz.func206 rfl trivial (IdxG_call 208 (eqS c) (sortU c) l (fun d hd => takes1_call (sortU c) d (hll d hd).1 (hll d hd).2) hl vh) ⟨⟨_, rfl, .refl _⟩, ⟨_, rfl, .refl _⟩, ⟨_, rfl, .refl _⟩, trivial⟩ (.refl _) rfl rfl rfl ⟨_, rfl⟩ ?_
  rintro _ o ⟨rfl, rfl⟩
  refine sat_unhold 2 2 rfl rfl ?_
  unfold takeR idP
  cases hf : l.findIdx? (eqS c) with
  | none =>
    refine sat_branch tabOk Tryz.func206 rfl trivial (fun _ => ?_) (fun h => by cases h)
    exact sat_retL tabOk Tryz.func206 rfl trivial hC hCl (.refl _) (o2 := [some (gIss l)]) ⟨.refl _, trivial⟩ rfl rfl (Nat.le_refl _) ⟨rfl, rfl⟩
  | some j =>
    have hj : j < l.length := (List.findIdx?_eq_some_iff_getElem.1 hf).1
    refine sat_branch tabOk Tryz.func206 rfl trivial (fun h => ?_) (fun h => ?_)
    · have h : decide ((j : Int) < 0) = true := h
      rw [decide_eq_true_eq] at h
      omega
    refine sat_callG [0] tabOk Tryz.func206 rfl trivial (Del_call l j hj) ⟨⟨_, rfl, .refl _⟩, trivial⟩ ⟨.refl _, .refl _, .of ?_, trivial⟩ rfl rfl rfl ⟨_, rfl⟩ ?_
    · show vI .i64 (IntKind.i64.wrap ((j : Int) + 1)) = vI .i64 ((j + 1 : Nat) : Int)
      rw [wrap_id (by omega) (by omega)]
      rfl
    rintro _ o ⟨rfl, rfl⟩
    exact sat_retL tabOk Tryz.func206 rfl trivial hC hCl (.refl _) (o2 := [some (gIss (l.take j ++ l.drop (j + 1)))]) ⟨.refl _, trivial⟩ rfl rfl (Nat.le_refl _) ⟨rfl, rfl⟩

theorem of_call (s : Sp) : ACall Tryz.prog 116 [.d (eSp s)] [] (fun r o => r = .d (.ifc (if s.1 = true then 211 else 182) (eIs s.2.1))) := by
  refine acall_enter Tryz.func116 rfl rfl (Nat.le_of_ble_eq_true rfl) fun C hC hCl hDs hGk => ?_
  obtain ⟨d, c, ⟨⟩⟩ := s
  cases d with
  | true =>
    refine sat_branch tabOk Tryz.func116 rfl trivial (fun _ => ?_) (fun h => by cases h)
    exact sat_ret tabOk Tryz.func116 rfl trivial rfl
  | false =>
    refine sat_branch tabOk Tryz.func116 rfl trivial (fun h => by cases h) (fun _ => ?_)
    exact sat_ret tabOk Tryz.func116 rfl trivial rfl
end Go.Proofs.YtkemmijjpclckaaGreatDoor
namespace Go.Proofs.YtkemmijjpclckaaGreatDoor
open Go Ab Go.RowKit
set_option maxRecDepth 100000
set_option linter.unusedVariables false
set_option linter.unusedSimpArgs false
set_option maxHeartbeats 4000000

/-- What a step leaves of the clauses; none: it can't. -/
noncomputable def stepR (l : List (List Int)) (s : Sp) : Option (List (List Int)) := if s.1 = true then takeR l s.2.1 else if refB l s.2.1 = true then some (l ++ [s.2.1]) else none
/-- Where a proof ends, and how. -/
noncomputable def chk : List (List Int) → Nat → List Sp → Nat × Int
  | _, i, [] => (i, 6)
  | l, i, s :: r => match stepR l s with
    | none => (i, if s.1 = true then 4 else 6)
    | some l' => if s.1 = false ∧ s.2.1 = [] then (i, 0) else chk l' (i + 1) r
/-- Clauses that are as they may be. -/
structure Cls (n : Int) (l : List (List Int)) : Prop where
  lit : ∀ c ∈ l, ∀ x ∈ c, litOk n x
  len : ∀ c ∈ l, c.length ≤ 1000
theorem Cls.lits {n : Int} {l : List (List Int)} (h : Cls n l) (hl : l.length ≤ 1000) : lits l ≤ 1000000 := Nat.le_trans (lits_le 1000 l h.len) (Nat.le_trans (Nat.mul_le_mul_right 1000 hl) (by decide))
theorem stepR_cls {n : Int} {l l' : List (List Int)} {s : Sp} (h : Cls n l) (hs : (∀ x ∈ s.2.1, litOk n x) ∧ s.2.1.length ≤ 1000) (he : stepR l s = some l') : Cls n l' ∧ l'.length ≤ l.length + 1 := by
  unfold stepR takeR at he
  split at he
  · cases hf : l.findIdx? (eqS s.2.1) with
    | none => rw [hf] at he; cases he
    | some j =>
      rw [hf] at he
      simp only [Option.map_some, Option.some.injEq] at he
      subst he
      have hm : ∀ c, c ∈ l.take j ++ l.drop (j + 1) → c ∈ l := fun c hc => by
        rcases List.mem_append.1 hc with hc | hc
        · exact List.mem_of_mem_take hc
        · exact List.mem_of_mem_drop hc
      refine ⟨⟨fun c hc => h.lit c (hm c hc), fun c hc => h.len c (hm c hc)⟩, ?_⟩
      simp only [List.length_append, List.length_take, List.length_drop]
      omega
  · split at he
    · cases he
      have hm : ∀ c, c ∈ l ++ [s.2.1] → c ∈ l ∨ c = s.2.1 := fun c hc => by simpa using hc
      refine ⟨⟨fun c hc => ?_, fun c hc => ?_⟩, by simp⟩
      · rcases hm c hc with h1 | rfl
        · exact h.lit c h1
        · exact hs.1
      · rcases hm c hc with h1 | rfl
        · exact h.len c h1
        · exact hs.2
    · cases he
@[reducible] def bCf (n : Int) (l : List (List Int)) : AObj := .cells 129 [vI .i64 n, .d (eIss l)]
theorem meth_takes (v : Value) (w : World) : (Go.method (Tryz.prog.types.size + Made.depth) 211 v "vidimus/drup.do").run Tryz.prog w = .ok (206, v) w := by kernel_rfl
theorem meth_adds (v : Value) (w : World) : (Go.method (Tryz.prog.types.size + Made.depth) 182 v "vidimus/drup.do").run Tryz.prog w = .ok (199, v) w := by kernel_rfl
theorem Check_call {n : Int} {l0 : List (List Int)} {p : List Sp} (hn : 0 ≤ n ∧ n ≤ 100000) (hc : Cls n l0) (hp : ∀ s ∈ p, (∀ x ∈ s.2.1, litOk n x) ∧ s.2.1.length ≤ 1000) (hs : l0.length + p.length ≤ 1000) :
    ACall Tryz.prog 68 [.d (eCnf n l0), .d (eSps p)] [] (fun r o => r = tupOf [vI .i64 ((chk l0 0 p).1 : Int), vI .i64 (chk l0 0 p).2]) := by
  refine acall_enter Tryz.func68 rfl rfl (Nat.le_of_ble_eq_true rfl) fun C hC hCl hDs hGk => ?_
  generalize hq : chk l0 0 p = q at *
  refine sat_callG [] tabOk Tryz.func68 rfl trivial (Clone2_call l0 (by omega)) trivial (.refl _) rfl rfl rfl ⟨_, rfl⟩ ?_
  rintro _ o ⟨rfl, rfl⟩
  refine sat_stop tabOk Tryz.func68 rfl trivial ?_
  refine sat_while (α := Nat × List (List Int)) (fun s => [(1, .d (eSps p)), (2, .ptr 0 0), (6, .gs 1), (17, .d (eSps p)), (18, vI .i64 p.length), (19, vI .i64 (s.1 : Int))]) (fun s => [some (bCf n l0), some (gIss s.2)]) (fun s => s.1 ≤ p.length ∧ Cls n s.2 ∧ s.2.length ≤ l0.length + s.1 ∧ chk s.2 s.1 (p.drop s.1) = q) (fun s => p.length - s.1) (0, l0) ⟨Nat.zero_le _, hc, Nat.le_refl _, hq⟩ ?_ ?_
  · exact fun h => sat_le h hC hCl ⟨⟨_, rfl, .refl _⟩, ⟨_, rfl, .refl _⟩, ⟨_, rfl, .refl _⟩, ⟨_, rfl, .refl _⟩, ⟨_, rfl, .of (by rw [List.length_map])⟩, ⟨_, rfl, .refl _⟩, trivial⟩ ⟨.refl _, .refl _, trivial⟩ rfl rfl (Nat.zero_le _)
  rintro ⟨i, l⟩ ⟨hi, hcl, hll, hck⟩ ih
  simp only at hi hcl hll hck ih ⊢
  refine sat_branch tabOk Tryz.func68 rfl trivial (fun h => ?_) (fun h => ?_)
  rotate_left
  · have h : decide ((i : Int) < (p.length : Int)) = false := h
    rw [decide_eq_false_iff_not] at h
    obtain rfl : i = p.length := by omega
    rw [List.drop_length, chk] at hck
    refine sat_ret tabOk Tryz.func68 rfl trivial ?_
    rw [← hck]
    show tupOf [vI .i64 (((p.map eSp).length : Nat) : Int), vI .i64 6] = _
    rw [List.length_map]
  have h : decide ((i : Int) < (p.length : Int)) = true := h
  rw [decide_eq_true_eq] at h
  have hlt : i < p.length := by omega
  have eg : p.getD i (false, [], ()) = p[i] := by simp [hlt]
  rw [List.drop_eq_getElem_cons hlt, chk] at hck
  have hps := hp _ (List.getElem_mem hlt)
  rw [← eg] at hps hck
  generalize hsi : p.getD i (false, [], ()) = si at *
  have hl1 : l.length ≤ 1000 := by omega
  have hok : Okl n l si.2.1 := ⟨hn.1, hcl.lit, hps.1⟩
  have hlits := hcl.lits hl1
  have hstep := stepR_cls hcl hps (l' := (stepR l si).getD [])
  refine sat_call tabOk Tryz.func68 rfl (by simp only [andP, and_true, true_and, Int.toNat_natCast, List.length_map, List.length_append, List.length_cons, List.length_nil, List.length_replicate]; omega) (of_call (p.getD i (false, [], ()))) (.refl _) rfl ⟨_, rfl⟩ ?_ ?_
  · rintro r o rfl
    rfl
  rintro _ o rfl
  rw [hsi]
  refine sat_steps 8 tabOk Tryz.func68 rfl trivial ?_
  obtain ⟨d, c, ⟨⟩⟩ := si
  simp only at hck hps hok
  have hlim : ∀ d ∈ l, (∀ x ∈ d, -1000000 ≤ x ∧ x ≤ 1000000) ∧ d.length ≤ 1000000 := fun d hd => ⟨fun x hx => litOk_b (hcl.lit d hd x hx) hn.2, Nat.le_trans (hcl.len d hd) (by decide)⟩
  cases d with
  | true =>
    refine sat_invokeG [1] rfl rfl rfl rfl meth_takes rfl (takes_call (l := l) (c := c) n hlim (fun x hx => litOk_b (hps.1 x hx) hn.2) (Nat.le_trans hps.2 (by decide)) (by omega)) (callFunc_run Tryz.func206 rfl rfl) ⟨⟨_, rfl, .refl _⟩, trivial⟩ (.refl _) rfl rfl rfl ⟨_, rfl⟩ ?_
    rintro _ o ⟨rfl, rfl⟩
    refine sat_steps 9 tabOk Tryz.func68 rfl trivial ?_
    refine sat_le (env' := [(1, .d (eSps p)), (2, .ptr 0 0), (17, .d (eSps p)), (18, vI .i64 p.length), (19, vI .i64 (i : Int)), (7, vI .i64 (i : Int)), (10, .gs 1), (11, vB (takeR l c).isSome), (35, .d (.ifc 211 (eIs c)))]) (objs' := [some (bCf n l0), some (gIss ((takeR l c).getD l))]) ?_ hC hCl ⟨⟨_, rfl, .refl _⟩, ⟨_, rfl, .refl _⟩, ⟨_, rfl, .refl _⟩, ⟨_, rfl, .refl _⟩, ⟨_, rfl, .refl _⟩, ⟨_, rfl, .refl _⟩, ⟨_, rfl, .refl _⟩, ⟨_, rfl, .refl _⟩, ⟨_, rfl, .refl _⟩, trivial⟩ ⟨.refl _, .refl _, trivial⟩ rfl rfl (Nat.zero_le _)
    refine sat_assertN (t2 := 211) rfl rfl rfl rfl (by decide) (d := .slice _) rfl rfl Tryz.zeroValue182 rfl rfl ?_
    unfold stepR at hck hstep
    simp only [if_true] at hck hstep
    cases ht : takeR l c with
    | none =>
      rw [ht] at hck
      refine sat_branch tabOk Tryz.func68 rfl trivial (fun _ => ?_) (fun h => by cases h)
      refine sat_branch tabOk Tryz.func68 rfl trivial (fun h => by cases h) (fun _ => ?_)
      refine sat_branch tabOk Tryz.func68 rfl trivial (fun _ => ?_) (fun h => by cases h)
      refine sat_ret tabOk Tryz.func68 rfl trivial ?_
      rw [← hck]
    | some l' =>
      rw [ht] at hck hstep
      obtain ⟨k1, k2⟩ := hstep rfl
      simp only [Option.getD_some] at k1 k2
      simp only [reduceCtorEq, false_and, if_false] at hck
      refine sat_branch tabOk Tryz.func68 rfl trivial (fun h => by cases h) (fun _ => ?_)
      refine sat_branch tabOk Tryz.func68 rfl trivial (fun h => by cases h) (fun _ => ?_)
      refine sat_branch tabOk Tryz.func68 rfl trivial (fun h => by cases h) (fun _ => ?_)
      refine sat_branch tabOk Tryz.func68 rfl trivial (fun h => by cases h) (fun _ => ?_)
      refine sat_branch tabOk Tryz.func68 rfl trivial (fun h => by cases h) (fun _ => ?_)
      refine sat_stop tabOk Tryz.func68 rfl trivial ?_
      exact sat_le (ih (i + 1, l') ⟨by omega, k1, by simp only; omega, hck⟩ (by simp only; omega)) hC hCl ⟨⟨_, rfl, .refl _⟩, ⟨_, rfl, .refl _⟩, ⟨_, rfl, .refl _⟩, ⟨_, rfl, .refl _⟩, ⟨_, rfl, .refl _⟩, ⟨_, rfl, .of (by rw [wrap_id (by omega) (by omega)]; rfl)⟩, trivial⟩ ⟨.refl _, .refl _, trivial⟩ rfl rfl (Nat.zero_le _)
  | false =>
    refine sat_invokeG [1] rfl rfl rfl rfl meth_adds rfl (adds_call (l := l) (c := c) hok hn.2 hlits (Nat.le_trans hps.2 (by decide)) (by omega)) (callFunc_run Tryz.func199 rfl rfl) ⟨⟨_, rfl, .refl _⟩, trivial⟩ (.refl _) rfl rfl rfl ⟨_, rfl⟩ ?_
    rintro _ o ⟨rfl, rfl⟩
    refine sat_steps 9 tabOk Tryz.func68 rfl trivial ?_
    refine sat_le (env' := [(1, .d (eSps p)), (2, .ptr 0 0), (17, .d (eSps p)), (18, vI .i64 p.length), (19, vI .i64 (i : Int)), (7, vI .i64 (i : Int)), (10, .gs 1), (11, vB (refB l c)), (35, .d (.ifc 182 (eIs c)))]) (objs' := [some (bCf n l0), some (gIss (if refB l c = true then l ++ [c] else l))]) ?_ hC hCl ⟨⟨_, rfl, .refl _⟩, ⟨_, rfl, .refl _⟩, ⟨_, rfl, .refl _⟩, ⟨_, rfl, .refl _⟩, ⟨_, rfl, .refl _⟩, ⟨_, rfl, .refl _⟩, ⟨_, rfl, .refl _⟩, ⟨_, rfl, .refl _⟩, ⟨_, rfl, .refl _⟩, trivial⟩ ⟨.refl _, .refl _, trivial⟩ rfl rfl (Nat.zero_le _)
    refine sat_assertY rfl rfl rfl rfl (d := .slice _) rfl rfl rfl ?_
    unfold stepR at hck hstep
    simp only [Bool.false_eq_true, if_false] at hck hstep
    cases ht : refB l c with
    | false =>
      rw [ht] at hck
      refine sat_branch tabOk Tryz.func68 rfl trivial (fun _ => ?_) (fun h => by cases h)
      refine sat_branch tabOk Tryz.func68 rfl trivial (fun _ => ?_) (fun h => by cases h)
      refine sat_ret tabOk Tryz.func68 rfl trivial ?_
      rw [← hck]
      rfl
    | true =>
      rw [ht] at hck hstep
      obtain ⟨k1, k2⟩ := hstep rfl
      simp only [if_true, Option.getD_some] at k1 k2
      simp only [if_true, true_and] at hck
      refine sat_branch tabOk Tryz.func68 rfl trivial (fun h => by cases h) (fun _ => ?_)
      refine sat_branch tabOk Tryz.func68 rfl trivial (fun h => by cases h) (fun _ => ?_)
      refine sat_branch tabOk Tryz.func68 rfl trivial (fun h => by cases h) (fun _ => ?_)
      refine sat_branch tabOk Tryz.func68 rfl trivial (fun _ => ?_) (fun h => by cases h)
      refine sat_branch tabOk Tryz.func68 rfl trivial (fun h3 => ?_) (fun h3 => ?_)
      · have h3 : ((((c.map eI).length : Nat) : Int) == 0) = true := h3
        rw [beq_iff_eq, List.length_map] at h3
        have h3 : c = [] := List.length_eq_zero_iff.1 (by omega)
        rw [if_pos h3] at hck
        refine sat_ret tabOk Tryz.func68 rfl trivial ?_
        rw [← hck]
      · have h3 : ((((c.map eI).length : Nat) : Int) == 0) = false := h3
        rw [beq_eq_false_iff_ne, List.length_map] at h3
        have h3 : ¬ c = [] := fun e => h3 (by rw [e]; rfl)
        rw [if_neg h3] at hck
        refine sat_stop tabOk Tryz.func68 rfl trivial ?_
        exact sat_le (ih (i + 1, l ++ [c]) ⟨by omega, k1, by simp only; omega, hck⟩ (by simp only; omega)) hC hCl ⟨⟨_, rfl, .refl _⟩, ⟨_, rfl, .refl _⟩, ⟨_, rfl, .refl _⟩, ⟨_, rfl, .refl _⟩, ⟨_, rfl, .refl _⟩, ⟨_, rfl, .of (by rw [wrap_id (by omega) (by omega)]; rfl)⟩, trivial⟩ ⟨.refl _, .refl _, trivial⟩ rfl rfl (Nat.zero_le _)
end Go.Proofs.YtkemmijjpclckaaGreatDoor
namespace Go.Proofs.YtkemmijjpclckaaGreatDoor
open Go Ab Go.RowKit
set_option maxRecDepth 100000
set_option linter.unusedVariables false
set_option linter.unusedSimpArgs false

theorem takeR_sub {l l' : List (List Int)} {c : List Int} (h : takeR l c = some l') : ∀ d ∈ l', d ∈ l := by
  unfold takeR at h
  cases hf : l.findIdx? (eqS c) with
  | none => rw [hf] at h; cases h
  | some j =>
    rw [hf] at h
    simp only [Option.map_some, Option.some.injEq] at h
    subst h
    intro d hd
    rcases List.mem_append.1 hd with hd | hd
    · exact List.mem_of_mem_take hd
    · exact List.mem_of_mem_drop hd
theorem stepR_sound {n : Int} {l l' : List (List Int)} {s : Sp} {m : List Bool} (hl : holdsT l m) (hs : ∀ x ∈ s.2.1, litOk n x) (hm : (m.length : Int) = n) (h : stepR l s = some l') : holdsT l' m ∧ (s.1 = false → clT s.2.1 m) := by
  unfold stepR at h
  cases hd : s.1 with
  | true =>
    rw [hd] at h
    simp only [if_true] at h
    exact ⟨fun c hc => hl c (takeR_sub h c hc), fun h => by cases h⟩
  | false =>
    rw [hd] at h
    simp only [Bool.false_eq_true, if_false] at h
    split at h
    · rename_i hr
      cases h
      have hc := ref_sound hl hs hm (refB_iff.1 hr)
      refine ⟨fun c hcm => ?_, fun _ => hc⟩
      rcases List.mem_append.1 hcm with h1 | h1
      · exact hl c h1
      · rw [List.mem_singleton.1 h1]
        exact hc
    · cases h
/-- In a model of the clauses nothing that was added fails, and the empty clause is not added. -/
theorem chk_sound {n : Int} {m : List Bool} (hm : (m.length : Int) = n) : ∀ (p : List Sp) (l : List (List Int)) (i : Nat), holdsT l m → (∀ s ∈ p, ∀ x ∈ s.2.1, litOk n x) → (chk l i p).2 ≠ 0 ∧ ∀ k (hk : k < p.length), i + k < (chk l i p).1 → p[k].1 = false → clT p[k].2.1 m
  | [], l, i, _, _ => by simp [chk]
  | s :: r, l, i, hl, hp => by
    rw [chk]
    cases hst : stepR l s with
    | none =>
      simp only
      refine ⟨by split <;> decide, fun k _ hk => ?_⟩
      omega
    | some l' =>
      obtain ⟨q1, q2⟩ := stepR_sound hl (hp s List.mem_cons_self) hm hst
      simp only
      split
      · rename_i he
        have := q2 he.1
        rw [he.2] at this
        obtain ⟨x, hx, _⟩ := this
        cases hx
      · obtain ⟨h1, h2⟩ := chk_sound hm r l' (i + 1) q1 fun t ht => hp t (List.mem_cons_of_mem _ ht)
        refine ⟨h1, fun k hk hki => ?_⟩
        cases k with
        | zero => exact q2
        | succ k => exact h2 k (by simpa using hk) (by omega)
end Go.Proofs.YtkemmijjpclckaaGreatDoor
namespace Go.Proofs.YtkemmijjpclckaaGreatDoor
open Go Ab
set_option maxRecDepth 100000
set_option linter.unusedVariables false
set_option linter.unusedSimpArgs false

/-! ### Models of gates, and their clauses -/
abbrev P2 := Int × Int
/-- A model of gates: inputs, latches (next, reset), gates, outputs, bads, constraints, names. -/
structure Ag where
  i : Int
  l : List P2
  g : List P2
  outs : List Int
  bad : List Int
  con : List Int
  names : List (UInt8 × Int × List UInt8)
  deriving Inhabited
/-- A literal's value. -/
def litB (v : List Bool) (l : Int) : Bool := if l < 0 ∨ (v.length : Int) ≤ l / 2 then false else if l % 2 = 1 then !(v.getD (l / 2).toNat false) else v.getD (l / 2).toNat false
/-- Values, gate by gate. -/
def valG : List P2 → List Bool → List Bool
  | [], v => v
  | p :: r, v => valG r (v ++ [litB v p.1 && litB v p.2])
theorem valG_app : ∀ (g h : List P2) (v : List Bool), valG (g ++ h) v = valG h (valG g v)
  | [], h, v => rfl
  | p :: g, h, v => valG_app g h _
theorem valG_len : ∀ (g : List P2) (v : List Bool), (valG g v).length = v.length + g.length
  | [], v => rfl
  | p :: g, v => by rw [valG, valG_len g, List.length_append, List.length_cons]; simp; omega
theorem valG_pre : ∀ (g : List P2) (v : List Bool), ∃ t, valG g v = v ++ t
  | [], v => ⟨[], by simp [valG]⟩
  | p :: g, v => by
    obtain ⟨t, h⟩ := valG_pre g (v ++ [litB v p.1 && litB v p.2])
    exact ⟨_, by rw [valG, h, List.append_assoc]⟩
theorem getD_app {α : Type} {v t : List α} {j : Nat} (d : α) (h : j < v.length) : (v ++ t).getD j d = v.getD j d := by
  simp only [List.getD_eq_getElem?_getD, List.getElem?_append_left h]
theorem litB_app {v t : List Bool} {l : Int} (h : l / 2 < v.length) : litB (v ++ t) l = litB v l := by
  unfold litB
  by_cases h0 : l < 0
  · rw [if_pos (.inl h0), if_pos (.inl h0)]
  · have e1 : ¬ (l < 0 ∨ ((v ++ t).length : Int) ≤ l / 2) := by rw [List.length_append]; omega
    have e2 : ¬ (l < 0 ∨ (v.length : Int) ≤ l / 2) := by omega
    rw [if_neg e1, if_neg e2, getD_app false (by omega)]
theorem litB_valG {g : List P2} {v : List Bool} {l : Int} (h : l / 2 < v.length) : litB (valG g v) l = litB v l := by
  obtain ⟨t, ht⟩ := valG_pre g v
  rw [ht, litB_app h]
/-- Gates whose inputs stand ahead of them; v: the first one's variable. -/
def GOkF : Nat → List P2 → Prop
  | _, [] => True
  | v, p :: r => (0 ≤ p.2 ∧ p.2 ≤ p.1 ∧ p.1 < 2 * (v : Int)) ∧ GOkF (v + 1) r

/-- A literal in a frame of n variables, beside that of false. -/
def litF (n k : Nat) (l : Int) : Int := if l % 2 = 1 then -((k : Int) * ((n : Int) + 1) + l / 2 + 1) else (k : Int) * ((n : Int) + 1) + l / 2 + 1
/-- A literal, turned. -/
def turnL (l : Int) : Int := if l % 2 = 1 then l - 1 else l + 1
theorem litF_turn (n k : Nat) (l : Int) : litF n k (turnL l) = -litF n k l := by
  unfold litF turnL
  by_cases h : l % 2 = 1
  · rw [if_pos h, if_neg (by omega), if_pos h, Int.neg_neg]
    have : (l - 1) / 2 = l / 2 := by omega
    rw [this]
  · rw [if_neg h, if_pos (by omega), if_neg h]
    have : (l + 1) / 2 = l / 2 := by omega
    rw [this]
def gatesF (n k : Nat) : Nat → List P2 → List (List Int)
  | _, [] => []
  | v, p :: r => [-litF n k (2 * (v : Int)), litF n k p.1] :: [-litF n k (2 * (v : Int)), litF n k p.2] :: [litF n k (2 * (v : Int)), -litF n k p.1, -litF n k p.2] :: gatesF n k (v + 1) r
/-- A frame's clauses; b: how many inputs and latches there are. -/
def frameF (n k b : Nat) (g : List P2) : List (List Int) := [-litF n k 0] :: gatesF n k (b + 1) g
/-- The clauses of the first state; v: the first latch's variable. -/
def firstF (n : Nat) : Nat → List P2 → List (List Int)
  | _, [] => []
  | v, p :: r => (if p.2 = 0 then [[-litF n 0 (2 * (v : Int))]] else if p.2 = 1 then [[litF n 0 (2 * (v : Int))]] else []) ++ firstF n (v + 1) r
def linkF (n : Nat) : Nat → List P2 → List (List Int)
  | _, [] => []
  | v, p :: r => [-litF n 1 (2 * (v : Int)), litF n 0 p.1] :: [litF n 1 (2 * (v : Int)), -litF n 0 p.1] :: linkF n (v + 1) r
def consF (n : Nat) (c : List Int) : List (List Int) := c.map fun l => [litF n 0 l]

/-- Frame k of m are these values. -/
structure SimF (m : List Bool) (n k : Nat) (V : List Bool) : Prop where
  len : V.length = n + 1
  fit : (k + 1) * (n + 1) ≤ m.length
  get : ∀ j, j < n + 1 → m.getD (k * (n + 1) + j) false = V.getD j false
theorem SimF.lit {m V : List Bool} {n k : Nat} (h : SimF m n k V) {l : Int} (h0 : 0 ≤ l) (h1 : l ≤ 2 * (n : Int) + 1) : (litB V l = true → litT m (litF n k l)) ∧ (litB V l = false → litT m (-litF n k l)) := by
  have hj : (l / 2).toNat < n + 1 := by omega
  have hg := h.get _ hj
  have hm : k * (n + 1) + (l / 2).toNat < m.length := by
    have := h.fit
    rw [Nat.add_mul, Nat.one_mul] at this
    omega
  have hc : ((k * (n + 1) + (l / 2).toNat : Nat) : Int) = (k : Int) * ((n : Int) + 1) + l / 2 := by
    rw [Int.natCast_add, Int.natCast_mul, Int.natCast_add]
    have : (((l / 2).toNat : Nat) : Int) = l / 2 := by omega
    rw [this]
    rfl
  unfold litB litF
  rw [if_neg (by have := h.len; omega), ← hc]
  by_cases hp : l % 2 = 1
  · rw [if_pos hp, if_pos hp]
    constructor
    · intro hb
      rw [Bool.not_eq_true'] at hb
      exact ⟨_, hm, .inr ⟨by rw [hg]; exact hb, by omega⟩⟩
    · intro hb
      rw [Bool.not_eq_false'] at hb
      exact ⟨_, hm, .inl ⟨by rw [hg]; exact hb, by omega⟩⟩
  · rw [if_neg hp, if_neg hp]
    constructor
    · intro hb
      exact ⟨_, hm, .inl ⟨by rw [hg]; exact hb, by omega⟩⟩
    · intro hb
      exact ⟨_, hm, .inr ⟨by rw [hg]; exact hb, by omega⟩⟩
theorem SimF.or {m V : List Bool} {n k : Nat} (h : SimF m n k V) {l : Int} (h0 : 0 ≤ l) (h1 : l ≤ 2 * (n : Int) + 1) : (litB V l = true ∧ litT m (litF n k l)) ∨ (litB V l = false ∧ litT m (-litF n k l)) := by
  cases hb : litB V l with
  | true => exact .inl ⟨rfl, (h.lit h0 h1).1 hb⟩
  | false => exact .inr ⟨rfl, (h.lit h0 h1).2 hb⟩
theorem litB_even {V : List Bool} {v : Nat} (h : v < V.length) : litB V (2 * (v : Int)) = V.getD v false := by
  unfold litB
  rw [if_neg (by omega), if_neg (by omega)]
  have : (2 * (v : Int) / 2).toNat = v := by omega
  rw [this]

/-- The gates' clauses hold of the values. -/
theorem gates_hold {m : List Bool} {n k : Nat} {V : List Bool} (h : SimF m n k V) : ∀ (g : List P2) (v : List Bool), valG g v = V → GOkF v.length g → holdsT (gatesF n k v.length g) m
  | [], v, _, _ => fun c hc => by cases hc
  | p :: g, v, hV, hg => by
    obtain ⟨⟨g1, g2, g3⟩, hg'⟩ := hg
    have hlen := valG_len (p :: g) v
    rw [hV, h.len, List.length_cons] at hlen
    have hn : v.length ≤ n := by omega
    have hpre := valG_pre g (v ++ [litB v p.1 && litB v p.2])
    obtain ⟨t, ht⟩ := hpre
    rw [valG] at hV
    rw [ht] at hV
    have e1 : litB V p.1 = litB v p.1 := by rw [← hV, List.append_assoc]; exact litB_app (by omega)
    have e2 : litB V p.2 = litB v p.2 := by rw [← hV, List.append_assoc]; exact litB_app (by omega)
    have e3 : litB V (2 * (v.length : Int)) = (litB v p.1 && litB v p.2) := by
      rw [litB_even (by rw [h.len]; omega), ← hV, List.append_assoc]
      simp [List.getD_eq_getElem?_getD]
    have o1 := h.or (l := p.1) (by omega) (by omega)
    have o2 := h.or (l := p.2) (by omega) (by omega)
    have o3 := h.or (l := 2 * (v.length : Int)) (by omega) (by omega)
    rw [e1] at o1
    rw [e2] at o2
    rw [e3] at o3
    have ih := gates_hold h g (v ++ [litB v p.1 && litB v p.2]) (by rw [ht, hV]) (by rw [List.length_append]; exact hg')
    rw [List.length_append, List.length_singleton] at ih
    intro c hc
    rw [gatesF, List.mem_cons, List.mem_cons, List.mem_cons] at hc
    rcases hc with rfl | rfl | rfl | hc
    · rcases o3 with ⟨b3, t3⟩ | ⟨b3, t3⟩
      · rw [Bool.and_eq_true] at b3
        rcases o1 with ⟨b1, t1⟩ | ⟨b1, t1⟩
        · exact ⟨_, by simp, t1⟩
        · rw [b1] at b3
          exact absurd b3.1 (by decide)
      · exact ⟨_, by simp, t3⟩
    · rcases o3 with ⟨b3, t3⟩ | ⟨b3, t3⟩
      · rw [Bool.and_eq_true] at b3
        rcases o2 with ⟨b1, t1⟩ | ⟨b1, t1⟩
        · exact ⟨_, by simp, t1⟩
        · rw [b1] at b3
          exact absurd b3.2 (by decide)
      · exact ⟨_, by simp, t3⟩
    · rcases o1 with ⟨b1, t1⟩ | ⟨b1, t1⟩
      · rcases o2 with ⟨b2, t2⟩ | ⟨b2, t2⟩
        · rcases o3 with ⟨b3, t3⟩ | ⟨b3, t3⟩
          · exact ⟨_, by simp, t3⟩
          · rw [b1, b2] at b3
            cases b3
        · exact ⟨_, by simp, t2⟩
      · exact ⟨_, by simp, t1⟩
    · exact ih c hc
/-- Values, from a state and inputs. -/
def valA (g : List P2) (inp st : List Bool) : List Bool := valG g (false :: (inp ++ st))
theorem valA_len (g : List P2) (inp st : List Bool) : (valA g inp st).length = inp.length + st.length + g.length + 1 := by
  unfold valA
  rw [valG_len, List.length_cons, List.length_append]
  omega
theorem frame_hold {m : List Bool} {n k : Nat} {g : List P2} {inp st : List Bool} (h : SimF m n k (valA g inp st)) (hg : GOkF (inp.length + st.length + 1) g) : holdsT (frameF n k (inp.length + st.length) g) m := by
  have hl : (false :: (inp ++ st)).length = inp.length + st.length + 1 := by rw [List.length_cons, List.length_append]
  have h1 := gates_hold h g (false :: (inp ++ st)) rfl (by rw [hl]; exact hg)
  rw [hl] at h1
  intro c hc
  rw [frameF, List.mem_cons] at hc
  rcases hc with rfl | hc
  · refine ⟨_, List.mem_singleton.2 rfl, (h.lit (l := 0) (Int.le_refl _) (by omega)).2 ?_⟩
    unfold valA
    rw [litB_valG (by rw [hl]; omega)]
    rfl
  · exact h1 c hc
theorem valA_latch {g : List P2} {inp st : List Bool} {j : Nat} (h : j < st.length) : litB (valA g inp st) (2 * ((inp.length + 1 + j : Nat) : Int)) = st.getD j false := by
  unfold valA
  have hl : (false :: (inp ++ st)).length = inp.length + st.length + 1 := by rw [List.length_cons, List.length_append]
  rw [litB_valG (by rw [hl]; omega), litB_even (by rw [hl]; omega)]
  rw [show inp.length + 1 + j = (inp.length + j) + 1 by omega]
  simp only [List.getD_eq_getElem?_getD, List.getElem?_cons_succ]
  rw [List.getElem?_append_right (by omega), Nat.add_sub_cancel_left]
/-- A state at first. -/
def StartOk (l : List P2) (st : List Bool) : Prop := st.length = l.length ∧ ∀ j (h : j < l.length), (l[j].2 = 0 → st.getD j false = false) ∧ (l[j].2 = 1 → st.getD j false = true)
theorem mem_firstF {n : Nat} {c : List Int} : ∀ {l : List P2} {v : Nat}, c ∈ firstF n v l → ∃ j, ∃ h : j < l.length, (l[j].2 = 0 ∧ c = [-litF n 0 (2 * ((v + j : Nat) : Int))]) ∨ (l[j].2 = 1 ∧ c = [litF n 0 (2 * ((v + j : Nat) : Int))])
  | [], v, h => by simp [firstF] at h
  | p :: l, v, h => by
    rw [firstF, List.mem_append] at h
    rcases h with h | h
    · refine ⟨0, by simp, ?_⟩
      split at h
      · rename_i e
        exact .inl ⟨e, List.mem_singleton.1 h⟩
      · split at h
        · rename_i e
          exact .inr ⟨e, List.mem_singleton.1 h⟩
        · cases h
    · obtain ⟨j, hj, h2⟩ := mem_firstF h
      refine ⟨j + 1, by simpa using hj, ?_⟩
      rw [show v + (j + 1) = v + 1 + j by omega]
      simpa using h2
theorem first_hold {m : List Bool} {n : Nat} {g l : List P2} {inp st : List Bool} (h : SimF m n 0 (valA g inp st)) (hs : StartOk l st) : holdsT (firstF n (inp.length + 1) l) m := by
  intro c hc
  obtain ⟨j, hj, h2⟩ := mem_firstF hc
  obtain ⟨s1, s2⟩ := hs.2 j hj
  have hjs : j < st.length := by rw [hs.1]; exact hj
  have hv := valA_latch (g := g) (inp := inp) hjs
  have hlen := h.len
  rw [valA_len] at hlen
  rcases h2 with ⟨e, rfl⟩ | ⟨e, rfl⟩
  · exact ⟨_, List.mem_singleton.2 rfl, (h.lit (by omega) (by omega)).2 (by rw [hv, s1 e])⟩
  · exact ⟨_, List.mem_singleton.2 rfl, (h.lit (by omega) (by omega)).1 (by rw [hv, s2 e])⟩
/-- What is next. -/
def nextB (l : List P2) (V : List Bool) : List Bool := l.map fun p => litB V p.1
theorem mem_linkF {n : Nat} {c : List Int} : ∀ {l : List P2} {v : Nat}, c ∈ linkF n v l → ∃ j, ∃ h : j < l.length, c = [-litF n 1 (2 * ((v + j : Nat) : Int)), litF n 0 l[j].1] ∨ c = [litF n 1 (2 * ((v + j : Nat) : Int)), -litF n 0 l[j].1]
  | [], v, h => by simp [linkF] at h
  | p :: l, v, h => by
    rw [linkF, List.mem_cons, List.mem_cons] at h
    rcases h with rfl | rfl | h
    · exact ⟨0, by simp, .inl rfl⟩
    · exact ⟨0, by simp, .inr rfl⟩
    · obtain ⟨j, hj, h2⟩ := mem_linkF h
      refine ⟨j + 1, by simpa using hj, ?_⟩
      rw [show v + (j + 1) = v + 1 + j by omega]
      simpa using h2
theorem link_hold {m : List Bool} {n : Nat} {g l : List P2} {V inp' : List Bool} (h0 : SimF m n 0 V) (h1 : SimF m n 1 (valA g inp' (nextB l V))) (hl : ∀ p ∈ l, 0 ≤ p.1 ∧ p.1 ≤ 2 * (n : Int) + 1) : holdsT (linkF n (inp'.length + 1) l) m := by
  intro c hc
  obtain ⟨j, hj, h2⟩ := mem_linkF hc
  obtain ⟨r0, r1⟩ := hl _ (List.getElem_mem hj)
  have hjs : j < (nextB l V).length := by unfold nextB; rw [List.length_map]; exact hj
  have hv := valA_latch (g := g) (inp := inp') hjs
  have hlen := h1.len
  rw [valA_len] at hlen
  have hnx : (nextB l V).getD j false = litB V l[j].1 := by
    unfold nextB
    simp [List.getD_eq_getElem?_getD, hj]
  rw [hnx] at hv
  have o1 := h1.or (l := 2 * ((inp'.length + 1 + j : Nat) : Int)) (by omega) (by omega)
  have o0 := h0.or (l := l[j].1) r0 r1
  rw [hv] at o1
  rcases h2 with rfl | rfl
  · rcases o1 with ⟨b1, t1⟩ | ⟨b1, t1⟩
    · rcases o0 with ⟨b0, t0⟩ | ⟨b0, t0⟩
      · exact ⟨_, by simp, t0⟩
      · rw [b1] at b0
        cases b0
    · exact ⟨_, by simp, t1⟩
  · rcases o1 with ⟨b1, t1⟩ | ⟨b1, t1⟩
    · exact ⟨_, by simp, t1⟩
    · rcases o0 with ⟨b0, t0⟩ | ⟨b0, t0⟩
      · rw [b1] at b0
        cases b0
      · exact ⟨_, by simp, t0⟩
theorem cons_hold {m : List Bool} {n : Nat} {V : List Bool} (h : SimF m n 0 V) {c : List Int} (hc : ∀ l ∈ c, (0 ≤ l ∧ l ≤ 2 * (n : Int) + 1) ∧ litB V l = true) : holdsT (consF n c) m := by
  intro d hd
  obtain ⟨l, hl, rfl⟩ := List.mem_map.1 hd
  obtain ⟨⟨a, b⟩, t⟩ := hc l hl
  exact ⟨_, List.mem_singleton.2 rfl, (h.lit a b).1 t⟩
theorem holds_app {l k : List (List Int)} {m : List Bool} (h1 : holdsT l m) (h2 : holdsT k m) : holdsT (l ++ k) m := fun c hc => (List.mem_append.1 hc).elim (h1 c) (h2 c)
theorem holds_one {x : Int} {m : List Bool} (h : litT m x) : holdsT [[x]] m := fun c hc => by
  rw [List.mem_singleton.1 hc]
  exact ⟨x, List.mem_singleton.2 rfl, h⟩
theorem sim_one (V : List Bool) (n : Nat) (h : V.length = n + 1) : SimF V n 0 V := ⟨h, by omega, fun j hj => by rw [Nat.zero_mul, Nat.zero_add]⟩
theorem sim_two0 (V W : List Bool) (n : Nat) (h : V.length = n + 1) (h2 : W.length = n + 1) : SimF (V ++ W) n 0 V := ⟨h, by rw [List.length_append]; omega, fun j hj => by rw [Nat.zero_mul, Nat.zero_add]; exact getD_app false (by omega)⟩
theorem sim_two1 (V W : List Bool) (n : Nat) (h : V.length = n + 1) (h2 : W.length = n + 1) : SimF (V ++ W) n 1 W := ⟨h2, by rw [List.length_append]; omega, fun j hj => by
  rw [Nat.one_mul]
  simp only [List.getD_eq_getElem?_getD]
  rw [List.getElem?_append_right (by omega), show n + 1 + j - V.length = j by omega]⟩

/-! ### What is asked -/
def startsF (n b : Nat) (i : Nat) (l g : List P2) (inv : Int) : List (List Int) := frameF n 0 b g ++ firstF n (i + 1) l ++ [[-litF n 0 inv]]
def staysF (n b : Nat) (i : Nat) (l g : List P2) (con : List Int) (inv : Int) : List (List Int) := frameF n 0 b g ++ frameF n 1 b g ++ linkF n (i + 1) l ++ consF n con ++ [[litF n 0 inv]] ++ [[-litF n 1 inv]]
def safeF (n b : Nat) (g : List P2) (con : List Int) (inv bad : Int) : List (List Int) := frameF n 0 b g ++ consF n con ++ [[litF n 0 inv]] ++ [[litF n 0 bad]]
/-- SOUND: in a first state the invariant is true. -/
theorem starts_sound {l g : List P2} {inv : Int} {inp st : List Bool} {p : List Sp} (hg : GOkF (inp.length + st.length + 1) g) (hi : 0 ≤ inv ∧ inv ≤ 2 * ((inp.length + st.length + g.length : Nat) : Int) + 1) (hs : StartOk l st)
    (hp : ∀ s ∈ p, ∀ x ∈ s.2.1, litOk (((inp.length + st.length + g.length + 1 : Nat)) : Int) x) (hc : (chk (startsF (inp.length + st.length + g.length) (inp.length + st.length) inp.length l g inv) 0 p).2 = 0) : litB (valA g inp st) inv = true := by
  rw [← Bool.not_eq_false]
  intro hb
  have hS := sim_one (valA g inp st) (inp.length + st.length + g.length) (valA_len g inp st)
  refine (chk_sound (n := ((inp.length + st.length + g.length + 1 : Nat) : Int)) (by rw [valA_len]) p _ 0 (holds_app (holds_app (frame_hold hS hg) (first_hold hS hs)) (holds_one ((hS.lit hi.1 hi.2).2 hb))) hp).1 hc
/-- SOUND: the invariant stays true, where constraints hold. -/
theorem stays_sound {l g : List P2} {con : List Int} {inv : Int} {inp inp' st : List Bool} {p : List Sp} (hii : inp'.length = inp.length) (hsl : st.length = l.length) (hg : GOkF (inp.length + st.length + 1) g) (hi : 0 ≤ inv ∧ inv ≤ 2 * ((inp.length + st.length + g.length : Nat) : Int) + 1)
    (hl : ∀ p ∈ l, 0 ≤ p.1 ∧ p.1 ≤ 2 * ((inp.length + st.length + g.length : Nat) : Int) + 1) (hcon : ∀ c ∈ con, (0 ≤ c ∧ c ≤ 2 * ((inp.length + st.length + g.length : Nat) : Int) + 1) ∧ litB (valA g inp st) c = true) (hinv : litB (valA g inp st) inv = true)
    (hp : ∀ s ∈ p, ∀ x ∈ s.2.1, litOk ((2 * (inp.length + st.length + g.length + 1) : Nat) : Int) x) (hc : (chk (staysF (inp.length + st.length + g.length) (inp.length + st.length) inp.length l g con inv) 0 p).2 = 0) : litB (valA g inp' (nextB l (valA g inp st))) inv = true := by
  rw [← Bool.not_eq_false]
  intro hb
  have hnl : (nextB l (valA g inp st)).length = st.length := by unfold nextB; rw [List.length_map, hsl]
  have h1 := valA_len g inp st
  have h2 : (valA g inp' (nextB l (valA g inp st))).length = inp.length + st.length + g.length + 1 := by rw [valA_len, hii, hnl]
  have s0 := sim_two0 _ _ _ h1 h2
  have s1 := sim_two1 _ _ _ h1 h2
  have f1 := frame_hold s1 (by rw [hii, hnl]; exact hg)
  rw [hii, hnl] at f1
  have lk := link_hold (l := l) s0 s1 hl
  rw [hii] at lk
  refine (chk_sound (n := ((2 * (inp.length + st.length + g.length + 1) : Nat) : Int)) (by rw [List.length_append, h1, h2]; congr 1; omega) p _ 0 (holds_app (holds_app (holds_app (holds_app (holds_app (frame_hold s0 hg) f1) lk) (cons_hold s0 hcon)) (holds_one ((s0.lit hi.1 hi.2).1 hinv))) (holds_one ((s1.lit hi.1 hi.2).2 hb))) hp).1 hc
/-- SOUND: where the invariant is true, and constraints hold, nothing is bad. -/
theorem safe_sound {g : List P2} {con : List Int} {inv bad : Int} {inp st : List Bool} {p : List Sp} (hg : GOkF (inp.length + st.length + 1) g) (hi : 0 ≤ inv ∧ inv ≤ 2 * ((inp.length + st.length + g.length : Nat) : Int) + 1) (hbd : 0 ≤ bad ∧ bad ≤ 2 * ((inp.length + st.length + g.length : Nat) : Int) + 1)
    (hcon : ∀ c ∈ con, (0 ≤ c ∧ c ≤ 2 * ((inp.length + st.length + g.length : Nat) : Int) + 1) ∧ litB (valA g inp st) c = true) (hinv : litB (valA g inp st) inv = true)
    (hp : ∀ s ∈ p, ∀ x ∈ s.2.1, litOk ((inp.length + st.length + g.length + 1 : Nat) : Int) x) (hc : (chk (safeF (inp.length + st.length + g.length) (inp.length + st.length) g con inv bad) 0 p).2 = 0) : litB (valA g inp st) bad = false := by
  rw [← Bool.not_eq_true]
  intro hb
  have hS := sim_one (valA g inp st) (inp.length + st.length + g.length) (valA_len g inp st)
  refine (chk_sound (n := ((inp.length + st.length + g.length + 1 : Nat) : Int)) (by rw [valA_len]) p _ 0 (holds_app (holds_app (holds_app (frame_hold hS hg) (cons_hold hS hcon)) (holds_one ((hS.lit hi.1 hi.2).1 hinv))) (holds_one ((hS.lit hbd.1 hbd.2).1 hb))) hp).1 hc
end Go.Proofs.YtkemmijjpclckaaGreatDoor
namespace Go.Proofs.YtkemmijjpclckaaGreatDoor
open Go Ab
set_option maxRecDepth 100000
set_option linter.unusedVariables false
set_option linter.unusedSimpArgs false

/-! ### What hangs on inputs -/
/-- Which variables hang on inputs, gate by gate. -/
def hangG : List P2 → List Bool → List Bool
  | [], h => h
  | p :: r, h => hangG r (h ++ [h.getD (p.1 / 2).toNat false || h.getD (p.2 / 2).toNat false])
def hang0 (i s : Nat) : List Bool := false :: (List.replicate i true ++ List.replicate s false)
def hangA (i s : Nat) (g : List P2) : List Bool := hangG g (hang0 i s)
theorem hang0_len (i s : Nat) : (hang0 i s).length = i + s + 1 := by simp [hang0]
theorem hangG_len : ∀ (g : List P2) (v : List Bool), (hangG g v).length = v.length + g.length
  | [], v => rfl
  | p :: g, v => by rw [hangG, hangG_len g, List.length_append, List.length_cons]; simp; omega
theorem hangA_len (i s : Nat) (g : List P2) : (hangA i s g).length = i + s + g.length + 1 := by
  unfold hangA
  rw [hangG_len, hang0_len]
  omega
/-- Values that agree where nothing hangs on inputs. -/
structure Agree (H V W : List Bool) : Prop where
  lv : V.length = H.length
  lw : W.length = H.length
  eq : ∀ j, j < H.length → H.getD j false = false → V.getD j false = W.getD j false
theorem Agree.lit {H V W : List Bool} (h : Agree H V W) {l : Int} (h0 : 0 ≤ l) (h1 : l / 2 < H.length) (hf : H.getD (l / 2).toNat false = false) : litB V l = litB W l := by
  unfold litB
  rw [h.lv, h.lw, h.eq (l / 2).toNat (by omega) hf]
theorem getD_last {α : Type} (v : List α) (x d : α) : (v ++ [x]).getD v.length d = x := by simp [List.getD_eq_getElem?_getD]
end Go.Proofs.YtkemmijjpclckaaGreatDoor
