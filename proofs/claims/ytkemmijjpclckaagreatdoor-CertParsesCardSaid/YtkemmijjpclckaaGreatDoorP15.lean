/- A part of the proof. -/
import Derived.Test.YtkemmijjpclckaaGreatDoorP14
import Derived.Ground.SlsfProg
import Derived.Shelf.SlSortCmp.NoneTotal
import Derived.Shelf.SlGeneric
import Derived.Test.YtkemmijjpclckaaGreatDoorProg
set_option linter.unusedVariables false
set_option linter.unusedSimpArgs false
set_option linter.unusedSectionVars false
set_option maxRecDepth 100000
set_option maxHeartbeats 8000000
namespace Go.Proofs
open Go.Shelf
def Tryz.sortL_ren : Go.Shelf.Ren := ⟨fun | 6 => 211 | 15 => 215 | 14 => 214 | 28 => 226 | 29 => 168 | 20 => 218 | 21 => 219 | 22 => 220 | 23 => 221 | 24 => 222 | 25 => 223 | 26 => 224 | 27 => 225 | 46 => 228 | 47 => 229 | 48 => 230 | 49 => 231 | 50 => 232 | 57 => 233 | n => n, fun | 22 => 24 | 24 => 3 | 25 => 272 | 3 => 3 | 39 => 238 | 0 => 0 | 53 => 236 | 55 => 218 | 4 => 4 | 46 => 277 | 45 => 276 | 50 => 165 | 5 => 5 | 9 => 9 | 66 => 282 | 70 => 286 | 76 => 288 | 77 => 52 | n => n, fun | n => n⟩
theorem Tryz.sortL : Go.Proofs.SlLaysF.n6 Tryz.prog Tryz.sortL_ren := {
 mixed := by kernel_rfl
 f6 := ⟨Tryz.f211.name, by decide, Tryz.func211.trans (congrArg some (by kernel_rfl))⟩
 f14 := ⟨Tryz.f214.name, by decide, Tryz.func214.trans (congrArg some (by kernel_rfl))⟩
 f15 := Tryz.func215.trans (congrArg some (by kernel_rfl))
 f20 := ⟨Tryz.f218.name, by decide, Tryz.func218.trans (congrArg some (by kernel_rfl))⟩
 f21 := ⟨Tryz.f219.name, by decide, Tryz.func219.trans (congrArg some (by kernel_rfl))⟩
 f22 := ⟨Tryz.f220.name, by decide, Tryz.func220.trans (congrArg some (by kernel_rfl))⟩
 f23 := ⟨Tryz.f221.name, by decide, Tryz.func221.trans (congrArg some (by kernel_rfl))⟩
 f24 := ⟨Tryz.f222.name, by decide, Tryz.func222.trans (congrArg some (by kernel_rfl))⟩
 f25 := ⟨Tryz.f223.name, by decide, Tryz.func223.trans (congrArg some (by kernel_rfl))⟩
 f26 := ⟨Tryz.f224.name, by decide, Tryz.func224.trans (congrArg some (by kernel_rfl))⟩
 f27 := ⟨Tryz.f225.name, by decide, Tryz.func225.trans (congrArg some (by kernel_rfl))⟩
 f28 := Tryz.func226.trans (congrArg some (by kernel_rfl))
 f29 := Tryz.func168.trans (congrArg some (by kernel_rfl))
 f46 := ⟨Tryz.f228.name, by decide, Tryz.func228.trans (congrArg some (by kernel_rfl))⟩
 f47 := Tryz.func229.trans (congrArg some (by kernel_rfl))
 f48 := Tryz.func230.trans (congrArg some (by kernel_rfl))
 f49 := ⟨Tryz.f231.name, by decide, Tryz.func231.trans (congrArg some (by kernel_rfl))⟩
 f50 := ⟨Tryz.f232.name, by decide, Tryz.func232.trans (congrArg some (by kernel_rfl))⟩
 f57 := ⟨Tryz.f233.name, by decide, Tryz.func233.trans (congrArg some (by kernel_rfl))⟩
 t0 := Tryz.underlying0
 a0 := Tryz.isAgg0
 z0 := Tryz.sizeOf0
 v0 := Tryz.zeroValue0
 t3 := Tryz.underlying3
 a3 := Tryz.isAgg3
 z3 := Tryz.sizeOf3
 v3 := Tryz.zeroValue3
 t4 := Tryz.underlying4
 a4 := Tryz.isAgg4
 z4 := Tryz.sizeOf4
 v4 := Tryz.zeroValue4
 t5 := Tryz.underlying5
 a5 := Tryz.isAgg5
 z5 := Tryz.sizeOf5
 v5 := Tryz.zeroValue5
 t9 := Tryz.underlying9
 a9 := Tryz.isAgg9
 z9 := Tryz.sizeOf9
 v9 := Tryz.zeroValue9
 t22 := Tryz.underlying24
 a22 := Tryz.isAgg24
 z22 := Tryz.sizeOf24
 v22 := Tryz.zeroValue24
 a24 := Tryz.isAgg3
 z24 := Tryz.sizeOf3
 t25 := Tryz.underlying272
 a25 := Tryz.isAgg272
 z25 := Tryz.sizeOf272
 v25 := Tryz.zeroValue272
 t39 := Tryz.underlying238
 a39 := Tryz.isAgg238
 z39 := Tryz.sizeOf238
 v39 := Tryz.zeroValue238
 t45 := Tryz.underlying276
 a45 := Tryz.isAgg276
 z45 := Tryz.sizeOf276
 v45 := Tryz.zeroValue276
 t46 := Tryz.underlying277
 a46 := Tryz.isAgg277
 z46 := Tryz.sizeOf277
 v46 := Tryz.zeroValue277
 t50 := Tryz.underlying165
 a50 := Tryz.isAgg165
 z50 := Tryz.sizeOf165
 v50 := Tryz.zeroValue165
 t53 := Tryz.underlying236
 a53 := Tryz.isAgg236
 z53 := Tryz.sizeOf236
 v53 := Tryz.zeroValue236
 t55 := Tryz.underlying218
 a55 := Tryz.isAgg218
 z55 := Tryz.sizeOf218
 v55 := Tryz.zeroValue218
 t66 := Tryz.underlying282
 a66 := Tryz.isAgg282
 z66 := Tryz.sizeOf282
 v66 := Tryz.zeroValue282
 t70 := Tryz.underlying286
 a70 := Tryz.isAgg286
 z70 := Tryz.sizeOf286
 v70 := Tryz.zeroValue286
 t76 := Tryz.underlying288
 a76 := Tryz.isAgg288
 z76 := Tryz.sizeOf288
 v76 := Tryz.zeroValue288
 t77 := Tryz.underlying52
 a77 := Tryz.isAgg52
 z77 := Tryz.sizeOf52
 v77 := Tryz.zeroValue52 }
end Go.Proofs
namespace Go.Proofs.YtkemmijjpclckaaGreatDoor
open Go Ab
theorem zks (c : List Int) (hlen : c.length ≤ 1000000) : ACall Tryz.prog 210 [.d (eIs c)] [] (fun r o => r = .gs 0 ∧ o = [some (gIs c)]) := by
 refine z8 Tryz.func210 rfl rfl (Nat.le_of_ble_eq_true rfl) fun C hC hCl hDs hGk => ?_
 have hC0 : C.objs.length ≤ [some (gIs c)].length := by rw [hC]; exact Nat.zero_le _
 refine z3w tabOk Tryz.func210 rfl trivial ?_
 refine zee tabOk rfl rfl rfl rfl rfl rfl rfl rfl (fun hx => ?_) ?_
 ·have hc : c = [] := List.map_eq_nil_iff.1 hx
  subst hc
  refine zh 6 tabOk Tryz.func210 rfl trivial ?_
  refine z3r (e := 3) (s := 1) (t := 2) (.inl rfl) (fun i => eI (([] : List Int).getD i 0)) ?_
  refine zp tabOk Tryz.func210 rfl trivial hC hCl (.refl _) (o2 := [some (gIs [])]) ⟨.refl _, trivial⟩ rfl rfl (Nat.zero_le _) ⟨rfl, rfl⟩
 ·refine zp tabOk Tryz.func210 rfl ?_ hC hCl (.refl _) (o2 := [some (gIs c)]) ⟨.gL rfl, trivial⟩ rfl rfl (Nat.zero_le _) ⟨rfl, rfl⟩
  simp only [andP, List.length_map]
  exact ⟨by show c.length * 8 ≤ _; omega, trivial⟩
abbrev Sm := {x : Int // -1000000 ≤ x ∧ x ≤ 1000000}
instance : Inhabited Sm := ⟨⟨0, by omega, by omega⟩⟩
def encS (x : Sm) : Value := .int .i64 x.1
def cfS (x y : Sm) : Int := byI x.1 y.1
theorem znk (a b : Int) : cmpI a b < 0 ↔ a < b := by
 unfold cmpI
 split
 ·simp; assumption
 ·split <;> simp <;> omega
theorem znl (a b : Int) : cmpI a b = 0 ↔ a = b := by
 unfold cmpI
 split
 ·simp; omega
 ·split
  ·simp; omega
  ·simp; omega
def ltI (a b : Int) : Prop := max a (-a) < max b (-b) ∨ (max a (-a) = max b (-b) ∧ a < b)
instance (a b : Int) : Decidable (ltI a b) := by unfold ltI; infer_instance
theorem zrd (a b : Int) : byI a b < 0 ↔ ltI a b := by
 unfold byI ltI
 split
 ·rename_i h
  rw [znl] at h
  rw [znk]
  omega
 ·rename_i h
  rw [znl] at h
  rw [znk]
  omega
theorem ltS (x y : Sm) : Go.Proofs.ltOf cfS x y = decide (ltI x.1 y.1) := by
 have : Go.Proofs.ltOf cfS x y = decide (byI x.1 y.1 < 0) := rfl
 rw [this]
 simp only [zrd]
theorem zmj {x y z : Int} (h : ltI x y) (k : ltI y z) : ltI x z := by unfold ltI at *; omega
theorem zju {x y z : Int} (h : ¬ ltI x y) (k : ¬ ltI y z) : ¬ ltI x z := by unfold ltI at *; omega
theorem zqb {x y : Int} (h : ¬ ltI x y) (k : ¬ ltI y x) : x = y := by unfold ltI at *; omega
theorem zqc (x : Int) : ¬ ltI x x := by unfold ltI; omega
theorem swoS : Go.Sort.SWO (Go.Proofs.ltOf cfS) where
 irrefl x := by rw [ltS]; simpa using zqc x.1
 trans x y z h1 h2 := by
  rw [ltS, decide_eq_true_eq] at h1 h2 ⊢
  exact zmj h1 h2
 ntrans x y z h1 h2 := by
  rw [ltS, decide_eq_false_iff_not] at h1 h2 ⊢
  exact zju h1 h2
theorem totS (x y : Sm) (h1 : Go.Proofs.ltOf cfS x y = false) (h2 : Go.Proofs.ltOf cfS y x = false) : x = y := by
 rw [ltS, decide_eq_false_iff_not] at h1 h2
 exact Subtype.ext (zqb h1 h2)
def leI (x y : Int) : Bool := !decide (ltI y x)
def sortU (c : List Int) : List Int := Lib.compact (c.mergeSort leI)
def toS (x : Int) : Sm := if h : -1000000 ≤ x ∧ x ≤ 1000000 then ⟨x, h⟩ else default
theorem zpy {x : Int} (h : -1000000 ≤ x ∧ x ≤ 1000000) : (toS x).1 = x := by simp [toS, h]
theorem zje (cs : List Sm) : (cs.mergeSort fun x y => !(Go.Proofs.ltOf cfS) y x).map (·.1) = (cs.map (·.1)).mergeSort leI := by
 refine List.map_mergeSort fun a _ b _ => ?_
 rw [ltS]
 rfl
theorem ze2 (c : List Int) (hc : ∀ x ∈ c, -1000000 ≤ x ∧ x ≤ 1000000) (hlen : c.length ≤ 1000000) (v : Value) :
  ACall Tryz.prog 211 [.gs 0, .d (.v (.func (.func 212) #[] #[]))] [some (gIs c), some (.hold (.gs 0) v)] (fun r o => r = .tp [] ∧ o = [some (gIs (c.mergeSort leI)), some (.hold (.gs 0) v)]) := by
 have e0 : (c.map toS).map (·.1) = c := by
  rw [List.map_map]
  conv => rhs; rw [← List.map_id c]
  exact List.map_congr_left fun x hx => zpy (hc x hx)
 have h := zbq Tryz.sortL (enc := encS) (fun _ => rfl) (fun _ => rfl) swoS totS (g := 212) (fun args w => zf Tryz.func212 rfl rfl args w) (fun args w => zf Tryz.func211 rfl rfl args w) (fun x y => @zqt Draws.all x.1 y.1 x.2 y.2) 3 (c.map toS) (fun i => eI (c.getD i 0)) (by simp; omega) v
 have e1 : ∀ l : List Sm, l.map (fun x => D.v (encS x)) = (l.map (·.1)).map eI := by intro l; rw [List.map_map]; rfl
 rw [e1, e0] at h
 refine h.less ?_
 rintro r o ⟨rfl, rfl⟩
 refine ⟨.tp [], [some (gIs (c.mergeSort leI)), some (.hold (.gs 0) v)], ⟨rfl, rfl⟩, .refl _, ⟨.gL ?_, .refl _, trivial⟩, rfl, rfl, Nat.le_refl _⟩
 rw [e1, zje, e0]
theorem zgb (c : List Int) (hc : ∀ x ∈ c, -1000000 ≤ x ∧ x ≤ 1000000) (hlen : c.length ≤ 1000000) : ACall Tryz.prog 207 [.d (eIs c)] [] (fun r o => r = .d (eIs (sortU c))) := by
 refine z8 Tryz.func207 rfl rfl (Nat.le_of_ble_eq_true rfl) fun C hC hCl hDs hGk => ?_
 refine zm [] tabOk Tryz.func207 rfl trivial (zks c hlen) trivial (.refl _) rfl rfl rfl ⟨_, rfl⟩ ?_
 rintro r o ⟨rfl, rfl⟩
 refine zh 5 tabOk Tryz.func207 rfl trivial ?_
 refine zi3 3 0 rfl fun v hv => ?_
 refine zm [0, 1] tabOk Tryz.func207 rfl trivial (ze2 c hc hlen v) ⟨⟨_, rfl, .refl _⟩, ⟨_, rfl, .refl _⟩, trivial⟩ (.refl _) rfl rfl rfl ⟨_, rfl⟩ ?_
 rintro r o ⟨rfl, rfl⟩
 refine zc5 3 1 rfl rfl ?_
 refine zm [0] tabOk Tryz.func207 rfl trivial (zfx (c.mergeSort leI)) ⟨⟨_, rfl, .refl _⟩, trivial⟩ (.refl _) rfl rfl rfl ⟨_, rfl⟩ ?_
 rintro r o ⟨rfl, rfl⟩
 refine zy 0 rfl ?_
 refine z7 tabOk Tryz.func207 rfl trivial ?_
 rfl
theorem zo3 (a b : List Int) : ACall Tryz.prog 44 [.d (eIs a), .d (eIs b)] [] (fun r o => r = vB (decide (a = b))) := by
 refine z8 Tryz.func44 rfl rfl (Nat.le_of_ble_eq_true rfl) fun C hC hCl hDs hGk => ?_
 refine z4b (t := 0) rfl fun hlen => ?_
 rw [List.length_map] at hlen
 refine z6 tabOk Tryz.func44 rfl trivial (fun h => ?_) (fun h => ?_)
 ·refine z7 tabOk Tryz.func44 rfl trivial ?_
  show vB false = vB _
  have : a ≠ b := by rintro rfl; simp at h
  simp [this]
 ·have hl : a.length = b.length := by simp at h; omega
  refine za tabOk Tryz.func44 rfl trivial ?_
  refine zj (α := Nat) (fun i => [(0, .d (eIs a)), (1, .d (eIs b)), (5, vI .i64 i)]) (fun _ => []) (fun i => i ≤ a.length ∧ a.take i = b.take i) (fun i => a.length - i) 0 ⟨Nat.zero_le _, rfl⟩ ?_ ?_
  ·exact fun h => zg h hC hCl ⟨⟨_, rfl, .refl _⟩, ⟨_, rfl, .refl _⟩, ⟨_, rfl, .refl _⟩, trivial⟩ trivial rfl rfl (Nat.zero_le _)
  ·rintro i ⟨hi, hc⟩ ih
   refine z6 tabOk Tryz.func44 rfl trivial (fun hb => ?_) (fun hb => ?_) <;> simp only [decide_eq_true_eq, decide_eq_false_iff_not, List.length_map] at hb
   ·have hlt : i < a.length := by omega
    have hlb : i < b.length := by omega
    refine zom tabOk Tryz.func44 rfl rfl trivial (by kernel_rfl) rfl ?_ ?_
    ·simp only [Int.toNat_natCast, List.length_map]; exact ⟨⟨by omega, by omega⟩, ⟨by omega, by omega⟩, trivial⟩
    have ea : a.getD i 0 = a[i] := by simp [hlt]
    have eb : b.getD i 0 = b[i] := by simp [hlb]
    refine z6 tabOk Tryz.func44 rfl trivial (fun hb2 => ?_) (fun hb2 => ?_)
    ·have hb2 : a.getD i 0 ≠ b.getD i 0 := by simpa using hb2
     refine z7 tabOk Tryz.func44 rfl trivial ?_
     show vB false = vB _
     have : a ≠ b := by rintro rfl; exact hb2 rfl
     simp [this]
    ·have hb2 : a.getD i 0 = b.getD i 0 := by simpa using hb2
     rw [ea, eb] at hb2
     refine za tabOk Tryz.func44 rfl trivial ?_
     refine zg (ih (i + 1) ⟨by omega, ?_⟩ (by omega)) hC hCl ⟨⟨_, rfl, .refl _⟩, ⟨_, rfl, .refl _⟩, ⟨_, rfl, .of (by rw [zb (by omega) (by omega)]; rfl)⟩, trivial⟩ trivial rfl rfl (Nat.zero_le _)
     rw [List.take_add_one, List.take_add_one, hc, List.getElem?_eq_getElem hlt, List.getElem?_eq_getElem hlb, hb2]
   ·obtain rfl : i = a.length := by omega
    rw [List.take_length, hl, List.take_length] at hc
    refine z7 tabOk Tryz.func44 rfl trivial ?_
    show vB true = vB _
    simp [hc]
@[reducible] def eCnf (n : Int) (l : List (List Int)) : D := .ag [eI n, eIss l]
instance (n x : Int) : Decidable (litOk n x) := by unfold litOk; infer_instance
def clOk (n : Int) (c : List Int) : Bool := decide (c.length ≤ 1000) && c.all (fun x => decide (litOk n x))
theorem zot (c : List Int) (i : Nat) (hi : i < c.length) : ((c.take i).map (fun x => -x) ++ List.replicate (c.length - i) 0).set i (-c[i]) = (c.take (i + 1)).map (fun x => -x) ++ List.replicate (c.length - (i + 1)) 0 := by
 apply List.ext_getElem?
 intro j
 have hl : ((c.take i).map (fun x => -x)).length = i := by simp; omega
 have hl1 : ((c.take (i + 1)).map (fun x => -x)).length = i + 1 := by simp; omega
 rw [List.getElem?_set]
 by_cases e : i = j
 ·subst e
  rw [if_pos rfl, if_pos (by simp; omega), List.getElem?_append_left (by omega)]
  simp [hi]
 ·rw [if_neg e]
  rcases Nat.lt_or_ge j i with h | h
  ·rw [List.getElem?_append_left (by omega), List.getElem?_append_left (by omega)]
   simp [List.getElem?_take, h, Nat.lt_succ_of_lt h]
  ·rw [List.getElem?_append_right (by omega), List.getElem?_append_right (by omega), hl, hl1]
   rw [List.getElem?_replicate, List.getElem?_replicate]
   by_cases h2 : j < c.length
   ·rw [if_pos (by omega), if_pos (by omega)]
   ·rw [if_neg (by omega), if_neg (by omega)]
theorem zf1 {n x : Int} (h : litOk n x) : litOk n (-x) := by unfold litOk at *; omega
theorem zgc (n : Int) (l : List (List Int)) (c : List Int) (hn : 0 ≤ n ∧ n ≤ 100000) (hl : ∀ c ∈ l, ∀ x ∈ c, litOk n x) (hc : ∀ x ∈ c, litOk n x) (hb : lits l ≤ 1000000) (hcl : c.length ≤ 1000000) :
  ACall Tryz.prog 200 [vI .i64 n, .d (eIss l), .d (eIs c)] [] (fun r o => ∃ s, z6z n l (c.map fun x => -x) s ∧ WkV n s ∧ r = vB s.clash) := by
 refine z8 Tryz.func200 rfl rfl (Nat.le_of_ble_eq_true rfl) fun C hC hCl hDs hGk => ?_
 refine za tabOk Tryz.func200 rfl ?_ ?_
 ·refine ⟨?_, trivial⟩
  rw [List.length_map]
  refine ⟨by omega, Int.le_refl _, ?_⟩
  show (c.length : Int) * (8 : Int) ≤ _
  omega
 refine zj (α := Nat) (fun i => [(0, vI .i64 n), (1, .d (eIss l)), (2, .d (eIs c)), (7, .gs 0), (15, .d (eIs c)), (16, vI .i64 c.length), (17, vI .i64 i)]) (fun i => [some (gIs ((c.take i).map (fun x => -x) ++ List.replicate (c.length - i) 0))]) (fun i => i ≤ c.length) (fun i => c.length - i) 0 (Nat.zero_le _) ?_ ?_
 ·refine fun h => zg h hC hCl ?_ ⟨.gL ?_, trivial⟩ rfl rfl (Nat.zero_le _)
  ·exact ⟨⟨_, rfl, .refl _⟩, ⟨_, rfl, .refl _⟩, ⟨_, rfl, .refl _⟩, ⟨_, rfl, .refl _⟩, ⟨_, rfl, .refl _⟩, ⟨_, rfl, .of (by rw [List.length_map])⟩, ⟨_, rfl, .refl _⟩, trivial⟩
  ·simp only [List.take_zero, List.map_nil, List.nil_append, List.length_map, Int.toNat_natCast, Nat.sub_zero, List.map_replicate]
   rfl
 ·rintro i hi ih
  refine z6 tabOk Tryz.func200 rfl trivial (fun hbr => ?_) (fun hbr => ?_) <;> simp only [decide_eq_true_eq, decide_eq_false_iff_not] at hbr
  ·have hlt : i < c.length := by omega
   have hget : c.getD i 0 = c[i] := by simp [hlt]
   have hx := hc _ (List.getElem_mem hlt)
   obtain ⟨x0, x1, x2⟩ := hx
   have w1 : IntKind.i64.wrap (0 - c.getD i 0) = -c[i] := by rw [hget, zb (by omega) (by omega), Int.zero_sub]
   refine za tabOk Tryz.func200 rfl ?_ ?_
   ·simp only [andP, Int.toNat_natCast, List.length_map, List.length_append, List.length_replicate, List.length_take]
    exact ⟨by omega, ⟨by omega, by omega⟩, ⟨by omega, by omega⟩, trivial⟩
   refine zg (ih (i + 1) (by omega) (by omega)) hC hCl ?_ ⟨.gL ?_, trivial⟩ rfl rfl (Nat.zero_le _)
   ·exact ⟨⟨_, rfl, .refl _⟩, ⟨_, rfl, .refl _⟩, ⟨_, rfl, .refl _⟩, ⟨_, rfl, .refl _⟩, ⟨_, rfl, .refl _⟩, ⟨_, rfl, .refl _⟩, ⟨_, rfl, .of (by rw [zb (by omega) (by omega)]; rfl)⟩, trivial⟩
   ·rw [← zot c i hlt, List.map_set, ← w1]
    rfl
  ·obtain rfl : i = c.length := by omega
   refine zy 0 rfl ?_
   have e1 : (c.take c.length).map (fun x => -x) ++ List.replicate (c.length - c.length) 0 = c.map fun x => -x := by simp
   rw [e1]
   refine ze tabOk Tryz.func200 rfl trivial (zkr n l (c.map fun x => -x) hn hl (by intro x hx; obtain ⟨y, hy, rfl⟩ := List.mem_map.1 hx; exact zf1 (hc y hy)) hb delOk) (.refl _) rfl ⟨_, rfl⟩ ?_ ?_
   ·rintro r o ⟨s, _, _, rfl⟩
    unfold z2h
    split <;> rfl
   ·rintro r o ⟨s, h1, h2, rfl⟩
    cases hcl : s.clash with
    | true =>
     have : z2h s = .tp [.d (.v (.slice none 0 0)), vB true] := by simp [z2h, hcl]
     rw [this]
     exact z7 tabOk Tryz.func200 rfl trivial ⟨s, h1, h2, by rw [hcl]; rfl⟩
    | false =>
     have : z2h s = .tp [.d (eIs (s.forced.filter (· ≠ 0))), vB false] := by simp [z2h, hcl]
     rw [this]
     exact z7 tabOk Tryz.func200 rfl trivial ⟨s, h1, h2, by rw [hcl]; rfl⟩
end Go.Proofs.YtkemmijjpclckaaGreatDoor
namespace Go.Proofs.YtkemmijjpclckaaGreatDoor
open Go Ab Go.Lib
end Go.Proofs.YtkemmijjpclckaaGreatDoor
namespace Go.Proofs.YtkemmijjpclckaaGreatDoor
open Go Ab
inductive Fo (l : List (List Int)) (a : List Int) : Int → Prop
 |mem {x : Int} (h : x ∈ a) : Fo l a x
 |unit {c : List Int} {x : Int} (hc : c ∈ l) (hx : x ∈ c) (h : ∀ y ∈ c, y ≠ x → Fo l a (-y)) : Fo l a x
def Cf (l : List (List Int)) (a : List Int) : Prop := (∃ x, Fo l a x ∧ Fo l a (-x)) ∨ ∃ c ∈ l, ∀ y ∈ c, Fo l a (-y)
theorem zkv (x : Int) : va (-x) = va x := by unfold va; congr 1; omega
theorem va_eq {x y : Int} (h : va x = va y) : x = y ∨ x = -y := by unfold va at h; omega
structure Snd (l : List (List Int)) (a : List Int) (n : Int) (s : Wk) : Prop where
 v : WkV n s
 at_ : ∀ i, i < s.forced.length → s.forced.getD i 0 ≠ 0 → va (s.forced.getD i 0) = i ∧ Fo l a (s.forced.getD i 0) ∧ litOk n (s.forced.getD i 0)
 cl : s.clash = true → Cf l a
theorem z6s (l : List Int) (i j : Nat) (x : Int) (hi : i < l.length) : (l.set i x).getD j 0 = if i = j then x else l.getD j 0 := by
 by_cases h : i = j
 ·subst h; simp [List.getD_eq_getElem?_getD, hi]
 ·simp [List.getD_eq_getElem?_getD, List.getElem?_set, h]
theorem zb8 {l : List (List Int)} {a : List Int} {n x : Int} {s : Wk} (h : Snd l a n s) (hx : litOk n x) (hf : Fo l a x) : Snd l a n (z1c s x) := by
 have hlt : va x < s.forced.length := by rw [h.v.len]; exact va_lt hx
 refine ⟨z6u hx h.v, ?_, ?_⟩
 ·unfold z1c
  split
  ·exact h.at_
  ·split
   ·intro i hi hne
    simp only [List.length_set] at hi
    simp only [z6s _ _ _ _ hlt] at hne ⊢
    split at hne
    ·rename_i e
     rw [if_pos e]
     exact ⟨e, hf, hx⟩
    ·rename_i e
     rw [if_neg e]
     exact h.at_ i hi hne
   ·exact h.at_
 ·unfold z1c
  split
  ·exact h.cl
  ·split
   ·exact h.cl
   ·rename_i h1 h2
    intro _
    obtain ⟨e1, e2, e3⟩ := h.at_ _ hlt h2
    rcases va_eq e1 with e | e
    ·exact absurd e h1
    ·exact .inl ⟨x, hf, by rw [← e]; exact e2⟩
theorem z5o (f : List Int) : ∀ (r : List Int) (only o : Int), (∀ y ∈ r, y ≠ 0) → scanW f only r = some o → (∀ y ∈ r, f.getD (va y) 0 = -y ∨ y = o) ∧ (only ≠ 0 → o = only) ∧ (o = only ∨ o ∈ r)
 | [], only, o, _, h => by
  simp only [scanW, Option.some.injEq] at h
  subst h
  exact ⟨by simp, fun _ => rfl, .inl rfl⟩
 | x :: r, only, o, h0, h => by
  simp only [scanW] at h
  split at h
  ·cases h
  ·split at h
   ·rename_i hx
    obtain ⟨a1, a2, a3⟩ := z5o f r only o (fun y hy => h0 y (List.mem_cons_of_mem _ hy)) h
    refine ⟨fun y hy => ?_, a2, a3.imp id (List.mem_cons_of_mem _)⟩
    rcases List.mem_cons.1 hy with rfl | hy
    ·exact .inl hx
    ·exact a1 y hy
   ·split at h
    ·cases h
    ·rename_i hno
     obtain ⟨a1, a2, a3⟩ := z5o f r x o (fun y hy => h0 y (List.mem_cons_of_mem _ hy)) h
     have hox : o = x := a2 (h0 x List.mem_cons_self)
     refine ⟨fun y hy => ?_, fun hne => ?_, .inr (by rw [hox]; exact List.mem_cons_self)⟩
     ·rcases List.mem_cons.1 hy with rfl | hy
      ·exact .inr hox.symm
      ·exact a1 y hy
     ·have : only = x := Decidable.not_not.1 fun hh => hno ⟨hne, hh⟩
      rw [hox, this]
theorem Snd.neg {l : List (List Int)} {a : List Int} {n : Int} {s : Wk} (h : Snd l a n s) {y : Int} (hy : litOk n y) (hf : s.forced.getD (va y) 0 = -y) : Fo l a (-y) := by
 have hlt : va y < s.forced.length := by rw [h.v.len]; exact va_lt hy
 have hne : s.forced.getD (va y) 0 ≠ 0 := by rw [hf]; have := hy.1; omega
 have := (h.at_ _ hlt hne).2.1
 rwa [hf] at this
theorem zif {l : List (List Int)} {a : List Int} {n : Int} {s : Wk} {c : List Int} (h : Snd l a n s) (hc : c ∈ l) (hx : ∀ x ∈ c, litOk n x) : Snd l a n (lookW s c) := by
 refine ⟨z8r hx h.v, ?_, ?_⟩ <;> unfold lookW
 all_goals
  split
  ·first | exact h.at_ | exact h.cl
  ·rename_i only ho
   obtain ⟨a1, a2, a3⟩ := z5o s.forced c 0 only (fun y hy => (hx y hy).1) ho
   split
   ·rename_i h0
    first
    |exact h.at_
    | exact fun _ => .inr ⟨c, hc, fun y hy => h.neg (hx y hy) ((a1 y hy).resolve_right (by rw [h0]; exact (hx y hy).1))⟩
   ·rename_i h0
    have hm : only ∈ c := a3.resolve_left h0
    have hfo : Fo l a only := .unit hc hm fun y hy hne => h.neg (hx y hy) ((a1 y hy).resolve_right hne)
    first
    |exact (zb8 h (hx only hm) hfo).at_
    |exact (zb8 h (hx only hm) hfo).cl
theorem z3k {α β : Type} (I : β → Prop) (f : β → α → β) : ∀ (r : List α) (b : β), I b → (∀ b a, a ∈ r → I b → I (f b a)) → I (r.foldl f b)
 | [], b, h, _ => h
 | a :: r, b, h, hs => z3k I f r (f b a) (hs b a List.mem_cons_self h) fun b' a' ha hb => hs b' a' (List.mem_cons_of_mem _ ha) hb
structure Okl (n : Int) (l : List (List Int)) (a : List Int) : Prop where
 n0 : 0 ≤ n
 cl : ∀ c ∈ l, ∀ x ∈ c, litOk n x
 asm : ∀ x ∈ a, litOk n x
theorem zj6 {l : List (List Int)} {i : Int} {x : Int} (h : i ∈ gget x (z2d l 0 [])) : l.getD i.toNat [] ∈ l ∧ -x ∈ l.getD i.toNat [] := by
 rw [z4n, gget, List.nil_append] at h
 obtain ⟨j, h1, h2, h3⟩ := z9v.1 h
 have : i.toNat = j := by omega
 rw [this]
 refine ⟨?_, h3⟩
 simp [h1]
theorem z88 {n : Int} {l : List (List Int)} {a : List Int} (h : Okl n l a) : Snd l a n (z58 n l a) := by
 unfold z58
 refine z3k (Snd l a n) lookW l _ ?_ fun s c hc hs => zif hs hc (h.cl c hc)
 refine z3k (Snd l a n) z1c a _ ?_ fun s x hx hs => zb8 hs (h.asm x hx) (.mem hx)
 refine ⟨⟨by simp, by simp⟩, fun i hi hne => ?_, fun h => by cases h⟩
 exact absurd (by simp only [List.length_replicate] at hi; simp only [List.getD_eq_getElem?_getD, List.getElem?_replicate]; split <;> rfl) hne
theorem zd7 {n : Int} {l : List (List Int)} {a : List Int} (h : Okl n l a) {s : Wk} {x : Int} {q : List Int} (hs : Snd l a n s) (hq : s.queue = x :: q) : Snd l a n (popW l (z2d l 0 []) s x q) := by
 unfold popW
 refine z3k (Snd l a n) (zmk l) _ _ ?_ fun t i hi ht => zif ht (zj6 hi).1 (h.cl _ (zj6 hi).1)
 refine ⟨⟨hs.v.len, ?_⟩, hs.at_, hs.cl⟩
 have := hs.v.sz
 rw [hq] at this
 simp only [List.length_cons] at this
 simp only
 omega
theorem znn {n : Int} {l : List (List Int)} {a : List Int} {s : Wk} (h : Okl n l a) (hr : z6z n l a s) : Snd l a n s := by
 have : ∀ {t}, Star l (z2d l 0 []) (z58 n l a) t → Snd l a n t := by
  intro t ht
  induction ht with
  | refl => exact z88 h
  | step _ hc hq ih => exact zd7 h ih hq
 exact this hr.1
def Fine (f : List Int) (c : List Int) : Prop := (∃ y ∈ c, f.getD (va y) 0 = y) ∨ ∃ y ∈ c, ∃ z ∈ c, y ≠ z ∧ f.getD (va y) 0 ≠ -y ∧ f.getD (va z) 0 ≠ -z
def Pd (s : Wk) (c : List Int) : Prop := ∃ y ∈ c, -y ∈ s.queue
def J (l : List (List Int)) (s : Wk) (rest : List (List Int)) : Prop := s.clash = true ∨ ∀ c ∈ l, Fine s.forced c ∨ Pd s c ∨ c ∈ rest
theorem zae (f : List Int) : ∀ (r : List Int) (only : Int), (∀ y ∈ r, y ≠ 0) → scanW f only r = none → (∃ y ∈ r, f.getD (va y) 0 = y) ∨ (only ≠ 0 ∧ ∃ z ∈ r, only ≠ z ∧ f.getD (va z) 0 ≠ -z) ∨ ∃ y ∈ r, ∃ z ∈ r, y ≠ z ∧ f.getD (va y) 0 ≠ -y ∧ f.getD (va z) 0 ≠ -z
 | [], only, _, h => by simp [scanW] at h
 | x :: r, only, h0, h => by
  have hr := fun y hy => h0 y (List.mem_cons_of_mem x hy)
  have up : ∀ {p : Int → Prop}, (∃ y ∈ r, p y) → ∃ y ∈ x :: r, p y := fun ⟨y, hy, hp⟩ => ⟨y, List.mem_cons_of_mem _ hy, hp⟩
  simp only [scanW] at h
  split at h
  ·rename_i hx
   exact .inl ⟨x, List.mem_cons_self, hx⟩
  ·split at h
   ·rcases zae f r only hr h with h | ⟨h1, h2⟩ | ⟨y, hy, z, hz, h2⟩
    ·exact .inl (up h)
    ·exact .inr (.inl ⟨h1, up h2⟩)
    ·exact .inr (.inr ⟨y, List.mem_cons_of_mem _ hy, z, List.mem_cons_of_mem _ hz, h2⟩)
   ·rename_i hnx
    split at h
    ·rename_i hh
     exact .inr (.inl ⟨hh.1, x, List.mem_cons_self, hh.2, hnx⟩)
    ·rcases zae f r x hr h with h | ⟨h1, z, hz, h3, h4⟩ | ⟨y, hy, z, hz, h2⟩
     ·exact .inl (up h)
     ·exact .inr (.inr ⟨x, List.mem_cons_self, z, List.mem_cons_of_mem _ hz, h3, hnx, h4⟩)
     ·exact .inr (.inr ⟨y, List.mem_cons_of_mem _ hy, z, List.mem_cons_of_mem _ hz, h2⟩)
theorem zl9 {f c : List Int} (h0 : ∀ y ∈ c, y ≠ 0) (h : scanW f 0 c = none) : Fine f c := by
 rcases zae f c 0 h0 h with h | ⟨h1, _⟩ | h
 ·exact .inl h
 ·exact absurd rfl h1
 ·exact .inr h
theorem z7j {s : Wk} {x : Int} (h : s.clash = true) : (z1c s x).clash = true := by
 unfold z1c
 split
 ·exact h
 ·split
  ·exact h
  ·rfl
theorem zjv {s : Wk} {c : List Int} (h : s.clash = true) : (lookW s c).clash = true := by
 unfold lookW
 split
 ·exact h
 ·split
  ·rfl
  ·exact z7j h
def Grows (f g : List Int) : Prop := ∀ i, f.getD i 0 ≠ 0 → g.getD i 0 = f.getD i 0
theorem zh8 {s : Wk} {x : Int} (hlt : va x < s.forced.length) : Grows s.forced (z1c s x).forced := by
 intro i hi
 unfold z1c
 split
 ·rfl
 ·split
  ·rename_i h2
   simp only [z6s _ _ _ _ hlt]
   rw [if_neg (fun e => by subst e; exact hi h2)]
  ·rfl
theorem zis {s : Wk} {x : Int} (hlt : va x < s.forced.length) (hc : (z1c s x).clash = false) : (z1c s x).forced.getD (va x) 0 = x := by
 unfold z1c at hc ⊢
 split
 ·assumption
 ·rename_i h1
  rw [if_neg h1] at hc
  split
  ·simp only [z6s _ _ _ _ hlt, if_true]
  ·rename_i h2
   rw [if_neg h2] at hc
   cases hc
theorem zqm {l rest : List (List Int)} {n x : Int} {s : Wk} (hl : ∀ c ∈ l, ∀ y ∈ c, litOk n y) (hv : WkV n s) (hx : litOk n x) (h : J l s rest) : J l (z1c s x) rest := by
 rcases h with h | h
 ·exact .inl (z7j h)
 have hlt : va x < s.forced.length := by rw [hv.len]; exact va_lt hx
 unfold z1c
 split
 ·exact .inr h
 ·split
  ·rename_i h1 h2
   refine .inr fun c hc => ?_
   rcases h c hc with h | ⟨y, hy, hq⟩ | h
   ·rcases h with ⟨y, hy, hf⟩ | ⟨y, hy, z, hz, hne, hfy, hfz⟩
    ·refine .inl (.inl ⟨y, hy, ?_⟩)
     simp only [z6s _ _ _ _ hlt]
     rw [if_neg ?_]
     ·exact hf
     ·intro e
      rw [← e, h2] at hf
      exact (hl c hc y hy).1 hf.symm
    ·by_cases e1 : x = -y
     ·exact .inr (.inl ⟨y, hy, by rw [← e1]; simp⟩)
     ·by_cases e2 : x = -z
      ·exact .inr (.inl ⟨z, hz, by rw [← e2]; simp⟩)
      ·refine .inl (.inr ⟨y, hy, z, hz, hne, ?_, ?_⟩)
       ·simp only [z6s _ _ _ _ hlt]
        split
        ·exact e1
        ·exact hfy
       ·simp only [z6s _ _ _ _ hlt]
        split
        ·exact e2
        ·exact hfz
   ·exact .inr (.inl ⟨y, hy, List.mem_append_left _ hq⟩)
   ·exact .inr (.inr h)
  ·exact .inl rfl
theorem zr4 {l rest : List (List Int)} {n : Int} {s : Wk} {c : List Int} (hl : ∀ c ∈ l, ∀ y ∈ c, litOk n y) (hv : WkV n s) (hcl : c ∈ l) (h : J l s (c :: rest)) : J l (lookW s c) rest := by
 rcases h with h | h
 ·exact .inl (zjv h)
 have hc0 := hl c hcl
 unfold lookW
 split
 ·rename_i hs
  refine .inr fun d hd => ?_
  rcases h d hd with h | h | h
  ·exact .inl h
  ·exact .inr (.inl h)
  ·rcases List.mem_cons.1 h with rfl | h
   ·exact .inl (zl9 (fun y hy => (hc0 y hy).1) hs)
   ·exact .inr (.inr h)
 ·rename_i only ho
  split
  ·exact .inl rfl
  ·rename_i hne
   obtain ⟨a1, a2, a3⟩ := z5o s.forced c 0 only (fun y hy => (hc0 y hy).1) ho
   have hm : only ∈ c := a3.resolve_left hne
   have hj := zqm hl hv (hc0 only hm) (.inr h : J l s (c :: rest))
   rcases hj with hj | hj
   ·exact .inl hj
   ·cases hcf : (z1c s only).clash with
    | true => exact .inl hcf
    | false =>
     refine .inr fun d hd => ?_
     rcases hj d hd with h | h | h
     ·exact .inl h
     ·exact .inr (.inl h)
     ·rcases List.mem_cons.1 h with rfl | h
      ·exact .inl (.inl ⟨only, hm, zis (by rw [hv.len]; exact va_lt (hc0 only hm)) hcf⟩)
      ·exact .inr (.inr h)
theorem zh9 {l : List (List Int)} {n : Int} (hl : ∀ c ∈ l, ∀ y ∈ c, litOk n y) : ∀ (r : List (List Int)) (s : Wk), (∀ c ∈ r, c ∈ l) → WkV n s → J l s r → J l (r.foldl lookW s) []
 | [], s, _, _, h => h
 | c :: r, s, hr, hv, h => zh9 hl r (lookW s c) (fun d hd => hr d (List.mem_cons_of_mem _ hd)) (z8r (hl c (hr c List.mem_cons_self)) hv) (zr4 hl hv (hr c List.mem_cons_self) h)
theorem zlt (l : List (List Int)) (G : List (Int × List Int)) (s : Wk) (x : Int) (q : List Int) : popW l G s x q = ((gget x G).map fun i => l.getD i.toNat []).foldl lookW ⟨s.forced, q, s.clash⟩ := by
 rw [popW, List.foldl_map]
 rfl
theorem zqn {n : Int} {l : List (List Int)} {a : List Int} (h : Okl n l a) : J l (z58 n l a) [] := by
 unfold z58
 refine zh9 h.cl l _ (fun c hc => hc) ?_ (.inr fun c hc => .inr (.inr hc))
 exact z3k (WkV n) z1c a _ ⟨by simp, by simp⟩ fun s x hx hs => z6u (h.asm x hx) hs
theorem pop_J {n : Int} {l : List (List Int)} {a : List Int} (h : Okl n l a) {s : Wk} {x : Int} {q : List Int} (hv : WkV n s) (hj : J l s []) (hq : s.queue = x :: q) : J l (popW l (z2d l 0 []) s x q) [] := by
 rw [zlt]
 refine zh9 h.cl _ _ (fun c hc => ?_) ⟨hv.len, ?_⟩ ?_
 ·obtain ⟨i, hi, rfl⟩ := List.mem_map.1 hc
  exact (zj6 hi).1
 ·have := hv.sz
  rw [hq] at this
  simp only [List.length_cons] at this
  simp only
  omega
 ·rcases hj with hj | hj
  ·exact .inl hj
  ·refine .inr fun c hc => ?_
   rcases hj c hc with h1 | ⟨y, hy, hm⟩ | h1
   ·exact .inl h1
   ·rw [hq] at hm
    rcases List.mem_cons.1 hm with e | hm
    ·refine .inr (.inr (List.mem_map.2 ?_))
     obtain ⟨j, hj1, hj2⟩ := List.mem_iff_getElem.1 hc
     refine ⟨(j : Int), ?_, by simp [hj1, hj2]⟩
     rw [z4n, gget, List.nil_append]
     refine z9v.2 ⟨j, hj1, by simp, ?_⟩
     have : -x = y := by omega
     rw [this]
     simpa [hj1, hj2] using hy
    ·exact .inr (.inl ⟨y, hy, hm⟩)
   ·simp at h1
theorem zno {n : Int} {l : List (List Int)} {a : List Int} {s : Wk} (h : Okl n l a) (hr : z6z n l a s) : J l s [] := by
 have : ∀ {t}, Star l (z2d l 0 []) (z58 n l a) t → J l t [] ∧ WkV n t := by
  intro t ht
  induction ht with
  | refl => exact ⟨zqn h, (z88 h).v⟩
  | step hst hc hq ih => exact ⟨pop_J h ih.2 ih.1 hq, (zd7 h (by
    have : ∀ {t}, Star l (z2d l 0 []) (z58 n l a) t → Snd l a n t := by
     intro t ht
     induction ht with
     | refl => exact z88 h
     | step _ hc hq ih => exact zd7 h ih hq
    exact this hst) hq).v⟩
 exact (this hr.1).1
def Kp (x : Int) (s : Wk) : Prop := s.clash = true ∨ s.forced.getD (va x) 0 = x
theorem zik {n x y : Int} {s : Wk} (hv : WkV n s) (hy : litOk n y) (hx : x ≠ 0) (h : Kp x s) : Kp x (z1c s y) := by
 rcases h with h | h
 ·exact .inl (z7j h)
 ·exact .inr (by rw [zh8 (by rw [hv.len]; exact va_lt hy) _ (by rw [h]; exact hx)]; exact h)
theorem zms {n x : Int} {s : Wk} {c : List Int} (hv : WkV n s) (hc : ∀ y ∈ c, litOk n y) (hx : x ≠ 0) (h : Kp x s) : Kp x (lookW s c) := by
 unfold lookW
 split
 ·exact h
 ·rename_i only ho
  split
  ·exact .inl rfl
  ·rename_i hne
   exact zik hv (hc only ((z5o s.forced c 0 only (fun y hy => (hc y hy).1) ho).2.2.resolve_left hne)) hx h
theorem zp0 {n : Int} {l : List (List Int)} {a : List Int} (h : Okl n l a) {x : Int} (hx : x ∈ a) : Kp x (z58 n l a) := by
 have hx0 := (h.asm x hx).1
 have key : ∀ (r : List Int) (s : Wk), WkV n s → (∀ y ∈ r, litOk n y) → (x ∈ r ∨ Kp x s) → Kp x (r.foldl z1c s) := by
  intro r
  induction r with
  | nil => intro s _ _ h; exact h.resolve_left (by simp)
  | cons y r ih =>
   intro s hv hr h
   have hy := hr y List.mem_cons_self
   refine ih _ (z6u hy hv) (fun z hz => hr z (List.mem_cons_of_mem _ hz)) ?_
   rcases h with h | h
   ·rcases List.mem_cons.1 h with rfl | h
    ·right
     cases hc : (z1c s x).clash with
     | true => exact .inl hc
     | false => exact .inr (zis (by rw [hv.len]; exact va_lt hy) hc)
    ·exact .inl h
   ·exact .inr (zik hv hy hx0 h)
 unfold z58
 have h1 := key a ⟨List.replicate (n + 1).toNat 0, [], false⟩ ⟨by simp, by simp⟩ h.asm (.inl hx)
 have h2 : WkV n (a.foldl z1c ⟨List.replicate (n + 1).toNat 0, [], false⟩) := z3k (WkV n) z1c a _ ⟨by simp, by simp⟩ fun s x hx hs => z6u (h.asm x hx) hs
 exact (z3k (fun s => WkV n s ∧ Kp x s) lookW l _ ⟨h2, h1⟩ fun s c hc hs => ⟨z8r (h.cl c hc) hs.1, zms hs.1 (h.cl c hc) hx0 hs.2⟩).2
theorem zqe {n : Int} {l : List (List Int)} {a : List Int} (h : Okl n l a) {x : Int} (hx : x ∈ a) {t : Wk} (ht : Star l (z2d l 0 []) (z58 n l a) t) : Snd l a n t ∧ Kp x t := by
 have hx0 := (h.asm x hx).1
 induction ht with
 | refl => exact ⟨z88 h, zp0 h hx⟩
 | step _ hc hq ih =>
  refine ⟨zd7 h ih.1 hq, ?_⟩
  rename_i t y q _
  have hv1 : WkV n ⟨t.forced, q, t.clash⟩ := ⟨ih.1.v.len, by
   have := ih.1.v.sz
   rw [hq] at this
   simp only [List.length_cons] at this
   simp only
   omega⟩
  rw [zlt]
  refine (z3k (fun s => WkV n s ∧ Kp x s) lookW _ _ ⟨hv1, ih.2⟩ fun s c hc hs => ?_).2
  obtain ⟨i, hi, rfl⟩ := List.mem_map.1 hc
  have hcl := h.cl _ (zj6 hi).1
  exact ⟨z8r hcl hs.1, zms hs.1 hcl hx0 hs.2⟩
theorem zr7 {n : Int} {l : List (List Int)} {a : List Int} (h : Okl n l a) {x : Int} (hf : Fo l a x) : litOk n x := by
 cases hf with
 | mem hx => exact h.asm x hx
 | unit hc hx _ => exact h.cl _ hc x hx
theorem ze0 {n : Int} {l : List (List Int)} {a : List Int} {s : Wk} (h : Okl n l a) (hr : z6z n l a s) (hc : s.clash = false) {x : Int} (hf : Fo l a x) : s.forced.getD (va x) 0 = x := by
 have hj : ∀ c ∈ l, Fine s.forced c := by
  intro c hcl
  rcases zno h hr with hj | hj
  ·rw [hc] at hj; cases hj
  ·rcases hj c hcl with h1 | ⟨y, _, hq⟩ | h1
   ·exact h1
   ·rcases hr.2 with e | e
    ·rw [e] at hq; simp at hq
    ·rw [hc] at e; cases e
   ·simp at h1
 induction hf with
 | mem hx =>
  rcases (zqe h hx hr.1).2 with e | e
  ·rw [hc] at e; cases e
  ·exact e
 | unit hcl hx _ ih =>
  rename_i c x hrest
  have hneg : ∀ y ∈ c, y ≠ x → s.forced.getD (va y) 0 = -y := fun y hy hne => by rw [← zkv]; exact ih y hy hne
  rcases hj c hcl with ⟨y, hy, he⟩ | ⟨y, hy, z, hz, hne, h1, h2⟩
  ·by_cases e : y = x
   ·rw [← e]; exact he
   ·have := hneg y hy e
    have := (h.cl c hcl y hy).1
    omega
  ·by_cases e : y = x
   ·exact absurd (hneg z hz (fun e2 => hne (e.trans e2.symm))) h2
   ·exact absurd (hneg y hy e) h1
theorem zph {n : Int} {l : List (List Int)} {a : List Int} {s : Wk} (h : Okl n l a) (hr : z6z n l a s) : s.clash = true ↔ Cf l a := by
 constructor
 ·exact (znn h hr).cl
 ·intro hcf
  cases hc : s.clash with
  | true => rfl
  | false =>
   exfalso
   rcases hcf with ⟨x, h1, h2⟩ | ⟨c, hcl, hall⟩
   ·have e1 := ze0 h hr hc h1
    have e2 := ze0 h hr hc h2
    rw [zkv, e1] at e2
    have := (zr7 h h1).1
    omega
   ·have hneg : ∀ y ∈ c, s.forced.getD (va y) 0 = -y := fun y hy => by rw [← zkv]; exact ze0 h hr hc (hall y hy)
    rcases zno h hr with hj | hj
    ·rw [hc] at hj; cases hj
    ·rcases hj c hcl with h1 | ⟨y, _, hq⟩ | h1
     ·rcases h1 with ⟨y, hy, he⟩ | ⟨y, hy, z, hz, hne, h1, h2⟩
      ·have := hneg y hy
       have := (h.cl c hcl y hy).1
       omega
      ·exact h1 (hneg y hy)
     ·rcases hr.2 with e | e
      ·rw [e] at hq; simp at hq
      ·rw [hc] at e; cases e
     ·simp at h1
theorem zq8 {n : Int} {l : List (List Int)} {c : List Int} (h : Okl n l c) : Okl n l (c.map fun x => -x) :=
 ⟨h.n0, h.cl, fun x hx => by obtain ⟨y, hy, rfl⟩ := List.mem_map.1 hx; exact zf1 (h.asm y hy)⟩
def refR (l : List (List Int)) (c : List Int) (r : AV) (_ : List (Option AObj)) : Prop := ∃ b, r = vB b ∧ (b = true ↔ Cf l (c.map fun x => -x))
theorem zlo {n : Int} {l : List (List Int)} {c : List Int} (h : Okl n l c) (hn : n ≤ 100000) (hb : lits l ≤ 1000000) (hc : c.length ≤ 1000000) : ACall Tryz.prog 200 [vI .i64 n, .d (eIss l), .d (eIs c)] [] (refR l c) := by
 refine (zgc n l c ⟨h.n0, hn⟩ h.cl h.asm hb hc).mono ?_
 rintro r o ⟨s, h1, h2, rfl⟩
 exact ⟨_, rfl, zph (zq8 h) h1⟩
theorem zmm (m : Nat) : ∀ l : List (List Int), (∀ c ∈ l, c.length ≤ m) → lits l ≤ l.length * m
 | [], _ => by simp [lits]
 | c :: r, h => by
  have ih := zmm m r fun d hd => h d (List.mem_cons_of_mem _ hd)
  have h1 := h c List.mem_cons_self
  simp only [lits, List.map_cons, List.sum_cons, List.length_cons] at ih ⊢
  rw [Nat.add_mul]
  omega
end Go.Proofs.YtkemmijjpclckaaGreatDoor
namespace Go.Proofs.YtkemmijjpclckaaGreatDoor
open Go Ab Go.RowKit
theorem zmo {n x : Int} (h : litOk n x) (hn : n ≤ 100000) : -1000000 ≤ x ∧ x ≤ 1000000 := by obtain ⟨_, h1, h2⟩ := h; omega
end Go.Proofs.YtkemmijjpclckaaGreatDoor
namespace Go.Proofs.YtkemmijjpclckaaGreatDoor
open Go Ab
@[reducible] def eB (b : Bool) : D := .v (.bool b)
def litAt (m : List Bool) (x : Int) (k : Nat) : Prop := (m.getD k false = true ∧ x = (k : Int) + 1) ∨ (m.getD k false = false ∧ x = -(k : Int) - 1)
def litT (m : List Bool) (x : Int) : Prop := ∃ k, k < m.length ∧ litAt m x k
def clT (c : List Int) (m : List Bool) : Prop := ∃ x ∈ c, litT m x
def zck (l : List (List Int)) (m : List Bool) : Prop := ∀ c ∈ l, clT c m
theorem zdj {m : List Bool} {x : Int} (h : litT m x) : ¬ litT m (-x) := by
 obtain ⟨k, hk, h⟩ := h
 rintro ⟨j, hj, h2⟩
 rcases h with ⟨h, e⟩ | ⟨h, e⟩ <;> rcases h2 with ⟨h2, e2⟩ | ⟨h2, e2⟩
 ·omega
 ·obtain rfl : k = j := by omega
  rw [h] at h2; cases h2
 ·obtain rfl : k = j := by omega
  rw [h] at h2; cases h2
 ·omega
theorem zqd {n : Int} {m : List Bool} {x : Int} (hx : litOk n x) (hm : (m.length : Int) = n) : litT m x ∨ litT m (-x) := by
 obtain ⟨h0, h1, h2⟩ := hx
 have hk : va x - 1 < m.length := by unfold va; omega
 have hv : ((va x - 1 : Nat) : Int) = max x (-x) - 1 := by unfold va; omega
 cases hb : m.getD (va x - 1) false with
 | true =>
  rcases Int.lt_or_lt_of_ne h0 with h | h
  ·exact .inr ⟨_, hk, .inl ⟨hb, by omega⟩⟩
  ·exact .inl ⟨_, hk, .inl ⟨hb, by omega⟩⟩
 | false =>
  rcases Int.lt_or_lt_of_ne h0 with h | h
  ·exact .inl ⟨_, hk, .inr ⟨hb, by omega⟩⟩
  ·exact .inr ⟨_, hk, .inr ⟨hb, by omega⟩⟩
theorem zdt {l : List (List Int)} {a : List Int} {m : List Bool} (hl : zck l m) (ha : ∀ x ∈ a, litT m x) {x : Int} (h : Fo l a x) : litT m x := by
 induction h with
 | mem hx => exact ha _ hx
 | unit hc hx _ ih =>
  rename_i c x hr
  obtain ⟨z, hz, ht⟩ := hl c hc
  by_cases e : z = x
  ·rw [← e]; exact ht
  ·exact absurd (ih z hz e) (zdj ht)
theorem zpi {l : List (List Int)} {a : List Int} {m : List Bool} (hl : zck l m) (ha : ∀ x ∈ a, litT m x) : ¬ Cf l a := by
 rintro (⟨x, h1, h2⟩ | ⟨c, hc, hall⟩)
 ·exact zdj (zdt hl ha h1) (zdt hl ha h2)
 ·obtain ⟨z, hz, ht⟩ := hl c hc
  exact zdj ht (zdt hl ha (hall z hz))
theorem zlq {n : Int} {l : List (List Int)} {c : List Int} {m : List Bool} (hl : zck l m) (hc : ∀ x ∈ c, litOk n x) (hm : (m.length : Int) = n) (h : Cf l (c.map fun x => -x)) : clT c m := by
 apply Classical.byContradiction
 intro hn
 refine zpi hl (fun x hx => ?_) h
 obtain ⟨y, hy, rfl⟩ := List.mem_map.1 hx
 exact (zqd (hc y hy) hm).resolve_left fun ht => hn ⟨y, hy, ht⟩
end Go.Proofs.YtkemmijjpclckaaGreatDoor
namespace Go.Proofs.YtkemmijjpclckaaGreatDoor
open Go Ab Go.RowKit
@[reducible] def eBy (l : List UInt8) : D := eL 1 eU8 0 l
theorem zpp (l : List UInt8) (hl : l ≠ []) : ACall Tryz.prog 181 [.d (eBy l)] [] (fun r o => r = tupOf [vI .i32 ((Go.Lib.decodeGo ⟨l.toArray⟩).1 : Int), vI .i64 ((Go.Lib.decodeGo ⟨l.toArray⟩).2 : Int)]) := by
 intro X π w us hgk m hv
 refine .inl ⟨zf Tryz.func181 rfl rfl _ _, ?_⟩
 cases hv with | cons hv ht => cases ht with | nil =>
 cases hv with | d hv =>
 have hv' : RelD w (okOf X π []) (.sl 1 (l.map fun x => D.v (.int .u8 (x.toNat : Int))) (fun i => eU8 (l.getD i 0))) _ := hv
 generalize hxs : (l.map fun x => D.v (.int .u8 (x.toNat : Int))) = xs at hv'
 cases hv' with
 | nil hb => exact absurd (List.map_eq_nil_iff.1 hxs) hl
 | sl he hm hc hb hr =>
  rename_i b o c us
  subst hxs
  obtain rfl := z6h (enc := fun x : UInt8 => Value.int .u8 (x.toNat : Int)) he
  have hsz : (⟨l.toArray⟩ : ByteArray).size = l.length := by show l.toArray.size = _; simp
  have hcall := Any7.utf8_DecodeRune Tryz.decL ⟨l.toArray⟩ b o c w (tb_utf hgk.tb) (fun j hj => by
   rw [hsz] at hj
   have h1 := (hm j (by simpa using hj)).2
   rw [h1]
   have e : (⟨l.toArray⟩ : ByteArray).get! j = l[j] := by
    show l.toArray[j]! = _
    simp [hj]
   rw [e]
   simp [hj])
  rw [hsz] at hcall
  have hll : (l.map fun x => D.v (Value.int .u8 (x.toNat : Int))).length = l.length := by simp
  rw [hll]
  refine Calls.mono hcall ?_
  rintro e w' ⟨rfl, bl⟩
  have t := z2l m bl.os bl.tape ⟨bl.output, Nat.le_refl _⟩ bl.size bl.block
  exact ⟨_, _, [], π, rfl, rfl, t.mem, .tp (.cons (.d (.v rfl)) (.cons (.d (.v rfl)) .nil)), t.hist⟩
theorem strBy (a b : List UInt8) : ((⟨a.toArray⟩ : ByteArray).toList == (⟨b.toArray⟩ : ByteArray).toList) = decide (a = b) := by
 rw [Go.Lib.toList_data, Go.Lib.toList_data]
 simp only [List.toList_toArray]
 by_cases h : a = b
 ·simp [h]
 ·simp [h]
theorem z32 (l : List UInt8) : (⟨l.toArray⟩ : ByteArray).size = l.length := by
 show l.toArray.size = l.length
 simp
theorem z65 (b : List UInt8) (at_ : Int) : ACall Tryz.prog 137 [.d (eBy b), vI .i64 at_] [] (fun r o => r = vB (decide (0 ≤ at_ ∧ at_ ≤ b.length))) := by
 refine z8 Tryz.func137 rfl rfl (Nat.le_of_ble_eq_true rfl) fun C hC hCl hDs hGk => ?_
 refine z6 tabOk Tryz.func137 rfl trivial (fun h => ?_) (fun h => ?_)
 ·have h : decide (at_ ≥ 0) = true := h
  rw [decide_eq_true_eq] at h
  refine z7 tabOk Tryz.func137 rfl trivial ?_
  show vB (decide (at_ ≤ ((b.map eU8).length : Int))) = _
  rw [List.length_map]
  congr 2
  simp [h]
 ·have h : decide (at_ ≥ 0) = false := h
  rw [decide_eq_false_iff_not] at h
  refine z7 tabOk Tryz.func137 rfl trivial ?_
  show vB false = _
  rw [decide_eq_false (fun hh => h hh.1)]
theorem exBy (l : List UInt8) (i j : Nat) : (⟨l.toArray⟩ : ByteArray).extract i j = ⟨((l.take j).drop i).toArray⟩ := by
 apply ByteArray.ext
 apply Array.ext'
 simp [ByteArray.data_extract, List.drop_take, List.extract_eq_take_drop]
theorem zd6 (s p : List UInt8) : p.isPrefixOf s = decide (p.length ≤ s.length ∧ s.take p.length = p) := by
 rw [Bool.eq_iff_iff, List.isPrefixOf_iff_prefix, decide_eq_true_eq]
 constructor
 ·rintro ⟨r, rfl⟩
  simp
 ·rintro ⟨_, h⟩
  rw [← h]
  exact List.take_prefix _ _
theorem zb0 (s p : List UInt8) : ACall Tryz.prog 174 [vTx s, vTx p] [] (fun r o => r = vB (p.isPrefixOf s)) := by
 refine z8 Tryz.func174 rfl rfl (Nat.le_of_ble_eq_true rfl) fun C hC hCl hDs hGk => ?_
 refine z6 tabOk Tryz.func174 rfl trivial (fun h => ?_) (fun h => ?_)
 ·have h : decide ((((⟨s.toArray⟩ : ByteArray).size : Nat) : Int) ≥ (((⟨p.toArray⟩ : ByteArray).size : Nat) : Int)) = true := h
  rw [decide_eq_true_eq, z32, z32] at h
  refine z7 tabOk Tryz.func174 rfl ?_ ?_
  ·rw [z32, z32]
   exact ⟨⟨by omega, by omega, by omega⟩, trivial⟩
  ·show vB (((⟨s.toArray⟩ : ByteArray).extract (Int.toNat 0) (((⟨p.toArray⟩ : ByteArray).size : Nat) : Int).toNat).toList == (⟨p.toArray⟩ : ByteArray).toList) = _
   rw [z32, exBy, strBy, zd6]
   have hle : p.length ≤ s.length := by omega
   simp [hle]
 ·have h : decide ((((⟨s.toArray⟩ : ByteArray).size : Nat) : Int) ≥ (((⟨p.toArray⟩ : ByteArray).size : Nat) : Int)) = false := h
  rw [decide_eq_false_iff_not, z32, z32] at h
  refine z7 tabOk Tryz.func174 rfl trivial ?_
  show vB false = _
  rw [zd6, decide_eq_false (fun hh => h (by have := hh.1; omega))]
theorem zbv (s p : List UInt8) : ACall Tryz.prog 158 [vTx s, vTx p] [] (fun r o => r = vB (p.isPrefixOf s)) := by
 refine z8 Tryz.func158 rfl rfl (Nat.le_of_ble_eq_true rfl) fun C hC hCl hDs hGk => ?_
 refine ze tabOk Tryz.func158 rfl trivial (zb0 s p) (.refl _) rfl ⟨_, rfl⟩ (by rintro r o rfl; rfl) ?_
 rintro _ o rfl
 exact z7 tabOk Tryz.func158 rfl trivial rfl
theorem znu (x : UInt8) : byteD (eU8 x) = x := by
 show UInt8.ofNat ((x.toNat : Int)).toNat = x
 simp
theorem zq0 (l : List UInt8) : strD (l.map eU8) = ⟨l.toArray⟩ := by
 unfold strD
 rw [List.map_map]
 congr 2
 conv => rhs; rw [← List.map_id l]
 exact List.map_congr_left fun x _ => znu x
theorem zmw (l : List UInt8) : ∀ x ∈ l.map eU8, z2c x = true := by
 intro x hx
 obtain ⟨y, _, rfl⟩ := List.mem_map.1 hx
 rfl
theorem zd0 (b : List UInt8) (i : Nat) (n : Nat) (hn : b.length - i ≤ n) : List.take n (List.drop i (b.map eU8)) = (b.drop i).map eU8 := by
 rw [← List.map_drop, List.take_of_length_le (by simp; omega)]
def isAt (b : List UInt8) (at_ : Int) (s : List UInt8) : Bool := decide (0 ≤ at_ ∧ at_ ≤ b.length) && s.isPrefixOf (b.drop at_.toNat)
def isTo (b : List UInt8) (at_ : Int) (s : List UInt8) : Int := if ¬ (0 ≤ at_ ∧ at_ ≤ b.length) then 0 else if s.isPrefixOf (b.drop at_.toNat) = true then at_ + s.length else at_
theorem zhw (b : List UInt8) (at_ : Int) (s : List UInt8) (hb : b.length ≤ 1000000) (hs : s.length ≤ 1000000) : ACall Tryz.prog 136 [.d (eBy b), vI .i64 at_, vTx s] [] (fun r o => r = tupOf [vI .i64 (isTo b at_ s), vB (isAt b at_ s)]) := by
 refine z8 Tryz.func136 rfl rfl (Nat.le_of_ble_eq_true rfl) fun C hC hCl hDs hGk => ?_
 refine ze tabOk Tryz.func136 rfl trivial (z65 b at_) (.refl _) rfl ⟨_, rfl⟩ (by rintro r o rfl; rfl) ?_
 rintro _ o rfl
 refine z6 tabOk Tryz.func136 rfl trivial (fun h => ?_) (fun h => ?_)
 ·rw [Bool.not_eq_true', decide_eq_false_iff_not] at h
  refine z7 tabOk Tryz.func136 rfl trivial ?_
  rw [isTo, isAt, if_pos h, decide_eq_false h]
  rfl
 have h : 0 ≤ at_ ∧ at_ ≤ b.length := by
  rw [Bool.not_eq_false', decide_eq_true_eq] at h
  exact h
 refine ze tabOk Tryz.func136 rfl ?nd (zbv (b.drop at_.toNat) s) ⟨.of ?a0, .refl _, trivial⟩ rfl ⟨_, rfl⟩ (by rintro r o rfl; rfl) ?kk
 case nd =>
  rw [List.length_map, zd0 b _ _ (by omega)]
  exact ⟨zmw _, ⟨h.1, h.2, Int.le_refl _⟩, trivial⟩
 case a0 =>
  rw [List.length_map, zd0 b _ _ (by omega), zq0]
 case kk =>
 rintro _ o rfl
 refine z6 tabOk Tryz.func136 rfl trivial (fun h2 => ?_) (fun h2 => ?_)
 ·have h2 : s.isPrefixOf (b.drop at_.toNat) = false := by simpa using h2
  refine z7 tabOk Tryz.func136 rfl trivial ?_
  rw [isTo, isAt, h2, Bool.and_false, if_neg (fun hh => hh h), if_neg (by simp)]
 ·have h2 : s.isPrefixOf (b.drop at_.toNat) = true := by simpa using h2
  refine z7 tabOk Tryz.func136 rfl trivial ?_
  rw [isTo, isAt, h2, Bool.and_true, decide_eq_true h, if_neg (fun hh => hh h), if_pos rfl]
  show tupOf [vI .i64 (IntKind.i64.wrap (at_ + (((⟨s.toArray⟩ : ByteArray).size : Nat) : Int))), vB true] = _
  rw [z32, zb (by omega) (by omega)]
theorem zng (c : UInt8) (r : List UInt8) : (c.toNat < 128 → Go.Lib.decodeGo ⟨(c :: r).toArray⟩ = (c.toNat, 1)) ∧ (¬ c.toNat < 128 → 128 ≤ (Go.Lib.decodeGo ⟨(c :: r).toArray⟩).1) := by
 have hsz : (⟨(c :: r).toArray⟩ : ByteArray).size = r.length + 1 := by rw [z32]; rfl
 have h0 : (⟨(c :: r).toArray⟩ : ByteArray).get! 0 = c := by
  show (c :: r).toArray[0]! = c
  simp
 unfold Go.Lib.decodeGo
 rw [if_neg (by rw [hsz]; omega), Go.Lib.decode_at, h0]
 generalize (⟨(c :: r).toArray⟩ : ByteArray).size - 0 = n
 generalize ((⟨(c :: r).toArray⟩ : ByteArray).get! (0 + 1)).toNat = b1
 generalize ((⟨(c :: r).toArray⟩ : ByteArray).get! (0 + 2)).toNat = b2
 generalize ((⟨(c :: r).toArray⟩ : ByteArray).get! (0 + 3)).toNat = b3
 generalize c.toNat = b0
 unfold Go.Lib.decodeN
 constructor
 ·intro h
  rw [if_pos h]
 ·intro h
  rw [if_neg h]
  repeat' split
  all_goals first | (show 128 ≤ 65533; decide) | (simp only; omega)
@[reducible] def vFn (g : FuncId) : AV := .d (.v (.func (.func g) #[] #[]))
@[reducible] def bFn (g : FuncId) : AObj := .cells 203 [vFn g]
theorem zlk (g : FuncId) (p : UInt8 → Bool) (hp : ∀ c : UInt8, ACall Tryz.prog g [.d (eU8 c)] [] (fun r o => r = vB (p c))) (R : Nat) : ACall Tryz.prog 160 [vI .i32 (R : Int), .ptr 0 0] [some (bFn g)] (fun r o => r = vB (decide (128 ≤ R) || !p (UInt8.ofNat R)) ∧ o = [some (bFn g)]) := by
 refine z8 Tryz.func160 rfl rfl (Nat.le_of_ble_eq_true rfl) fun C hC hCl hDs hGk => ?_
 refine z6 tabOk Tryz.func160 rfl trivial (fun h => ?_) (fun h => ?_)
 ·have h : decide ((R : Int) ≥ 128) = true := h
  rw [decide_eq_true_eq] at h
  refine z7 tabOk Tryz.func160 rfl trivial ⟨?_, rfl⟩
  rw [decide_eq_true (by omega : 128 ≤ R)]
  rfl
 have h : decide ((R : Int) ≥ 128) = false := h
 rw [decide_eq_false_iff_not] at h
 have hlt : R < 128 := by omega
 refine ze tabOk Tryz.func160 rfl trivial (hp (UInt8.ofNat R)) ⟨.of ?a0, trivial⟩ rfl ⟨_, rfl⟩ (by rintro r o rfl; rfl) ?kk
 case a0 =>
  show AV.d (.v (.int .u8 (IntKind.u8.wrap (R : Int)))) = AV.d (.v (.int .u8 ((UInt8.ofNat R).toNat : Int)))
  have e1 : (UInt8.ofNat R).toNat = R := by rw [UInt8.toNat_ofNat']; omega
  have e2 : IntKind.u8.wrap (R : Int) = (R : Int) := by simp [IntKind.wrap, IntKind.bits, IntKind.signed]; omega
  rw [e1, e2]
 case kk =>
 rintro _ o rfl
 refine z7 tabOk Tryz.func160 rfl trivial ⟨?_, rfl⟩
 rw [decide_eq_false (by omega : ¬ 128 ≤ R), Bool.false_or]
 rfl
def runN (p : UInt8 → Bool) (l : List UInt8) : Nat := (l.takeWhile fun c => decide (c.toNat < 128) && p c).length
theorem zaj (p : UInt8 → Bool) (l : List UInt8) : runN p l ≤ l.length := (List.takeWhile_sublist _).length_le
theorem z4x (p : UInt8 → Bool) (c : UInt8) (l : List UInt8) : runN p (c :: l) = if c.toNat < 128 ∧ p c = true then runN p l + 1 else 0 := by
 unfold runN
 rw [List.takeWhile_cons]
 by_cases h : c.toNat < 128 ∧ p c = true
 ·rw [if_pos h, if_pos (by simp [h.1, h.2])]
  rfl
 ·rw [if_neg h, if_neg (by simpa using h)]
  rfl
def idxA (p : UInt8 → Bool) (l : List UInt8) : Int := if runN p l < l.length then runN p l else -1
theorem zbt (g : FuncId) (p : UInt8 → Bool) (hp : ∀ c : UInt8, ACall Tryz.prog g [.d (eU8 c)] [] (fun r o => r = vB (p c))) (l : List UInt8) (hl : l.length ≤ 1000000) :
  ACall Tryz.prog 175 [.d (eBy l), .fn (.func 160) [.ptr 0 0], vB true] [some (bFn g)] (fun r o => r = vI .i64 (idxA p l) ∧ o = [some (bFn g)]) := by
 refine z8 Tryz.func175 rfl rfl (Nat.le_of_ble_eq_true rfl) fun C hC hCl hDs hGk => ?_
 refine za tabOk Tryz.func175 rfl trivial ?_
 refine zj (α := Nat) (fun i => [(0, .d (eBy l)), (1, .fn (.func 160) [.ptr 0 0]), (2, vB true), (7, vI .i64 (i : Int))]) (fun i => [some (bFn g)]) (fun i => i ≤ l.length ∧ runN p l = i + runN p (l.drop i)) (fun i => l.length - i) 0 ⟨Nat.zero_le _, by simp⟩ ?_ ?_
 ·exact fun h => zg h hC hCl ⟨⟨_, rfl, .refl _⟩, ⟨_, rfl, .refl _⟩, ⟨_, rfl, .refl _⟩, ⟨_, rfl, .refl _⟩, trivial⟩ ⟨.refl _, trivial⟩ rfl rfl (Nat.le_refl _)
 rintro i ⟨hi, hr⟩ ih
 refine z6 tabOk Tryz.func175 rfl trivial (fun hb => ?_) (fun hb => ?_)
 ·have hb : decide ((i : Int) < ((l.map eU8).length : Int)) = true := hb
  rw [List.length_map, decide_eq_true_eq] at hb
  have hlt : i < l.length := by omega
  obtain ⟨c, r, hcr⟩ : ∃ c r, l.drop i = c :: r := ⟨_, _, List.drop_eq_getElem_cons hlt⟩
  have hdr : l.drop (i + 1) = r := by rw [← List.drop_drop, hcr]; rfl
  obtain ⟨d1, d2⟩ := zng c r
  rw [hcr, z4x] at hr
  refine ze tabOk Tryz.func175 rfl ?nd (zpp (l.drop i) (by rw [hcr]; simp)) ⟨.eL ?a0, trivial⟩ rfl ⟨_, rfl⟩ (by rintro r o rfl; rfl) ?kk
  case nd =>
   simp only [List.length_map]
   exact ⟨⟨by omega, by omega, Int.le_refl _⟩, trivial⟩
  case a0 =>
   rw [List.length_map, Int.toNat_natCast, zd0 l _ _ (by omega)]
  case kk =>
  rintro _ o rfl
  rw [hcr]
  obtain ⟨⟨R, K⟩, hRK⟩ : ∃ q, Go.Lib.decodeGo ⟨(c :: r).toArray⟩ = q := ⟨_, rfl⟩
  rw [hRK] at d1 d2 ⊢
  refine zm [0] tabOk Tryz.func175 rfl trivial (zlk g p hp R) ⟨⟨_, rfl, .refl _⟩, trivial⟩ (.refl _) rfl rfl rfl ⟨_, rfl⟩ ?_
  rintro _ o ⟨rfl, rfl⟩
  refine z6 tabOk Tryz.func175 rfl trivial (fun h2 => ?_) (fun h2 => ?_)
  ·have h2 : (decide (128 ≤ R) || !p (UInt8.ofNat R)) = true := by simpa using h2
   refine z7 tabOk Tryz.func175 rfl trivial ⟨?_, rfl⟩
   have hno : ¬ (c.toNat < 128 ∧ p c = true) := by
    rintro ⟨q1, q2⟩
    cases d1 q1
    rw [UInt8.ofNat_toNat, q2, decide_eq_false (by omega)] at h2
    exact absurd h2 (by decide)
   rw [if_neg hno] at hr
   rw [idxA, if_pos (by omega), hr]
   rfl
  ·have h2 : (decide (128 ≤ R) || !p (UInt8.ofNat R)) = false := by simpa using h2
   rw [Bool.or_eq_false_iff, decide_eq_false_iff_not] at h2
   have hc : c.toNat < 128 := Decidable.byContradiction fun hh => h2.1 (d2 hh)
   cases d1 hc
   have hp2 : p c = true := by
    have := h2.2
    rw [UInt8.ofNat_toNat] at this
    simpa using this
   rw [if_pos ⟨hc, hp2⟩, ← hdr] at hr
   refine za tabOk Tryz.func175 rfl trivial ?_
   refine zg (ih (i + 1) ⟨by omega, by omega⟩ (by omega)) hC hCl ⟨⟨_, rfl, .refl _⟩, ⟨_, rfl, .refl _⟩, ⟨_, rfl, .refl _⟩, ⟨_, rfl, .of (by rw [zb (by omega) (by omega)]; rfl)⟩, trivial⟩ ⟨.refl _, trivial⟩ rfl rfl (Nat.le_refl _)
 ·have hb : decide ((i : Int) < ((l.map eU8).length : Int)) = false := hb
  rw [List.length_map, decide_eq_false_iff_not] at hb
  obtain rfl : i = l.length := by omega
  refine z7 tabOk Tryz.func175 rfl trivial ⟨?_, rfl⟩
  rw [List.drop_length] at hr
  rw [idxA, if_neg (by have : runN p ([] : List UInt8) = 0 := rfl; omega)]
  rfl
theorem zbu (g : FuncId) (p : UInt8 → Bool) (hp : ∀ c : UInt8, ACall Tryz.prog g [.d (eU8 c)] [] (fun r o => r = vB (p c))) (l : List UInt8) (hl : l.length ≤ 1000000) :
  ACall Tryz.prog 159 [.d (eBy l), .fn (.func 160) [.ptr 0 0]] [some (bFn g)] (fun r o => r = vI .i64 (idxA p l) ∧ o = [some (bFn g)]) := by
 refine z8 Tryz.func159 rfl rfl (Nat.le_of_ble_eq_true rfl) fun C hC hCl hDs hGk => ?_
 refine zm [0] tabOk Tryz.func159 rfl trivial (zbt g p hp l hl) ⟨⟨_, rfl, .refl _⟩, trivial⟩ (.refl _) rfl rfl rfl ⟨_, rfl⟩ ?_
 rintro _ o ⟨rfl, rfl⟩
 exact z7 tabOk Tryz.func159 rfl trivial ⟨rfl, rfl⟩
theorem zon (g : FuncId) (p : UInt8 → Bool) (hp : ∀ c : UInt8, ACall Tryz.prog g [.d (eU8 c)] [] (fun r o => r = vB (p c))) (b : List UInt8) (i : Nat) (hi : i ≤ b.length) (hb : b.length ≤ 1000000) :
  ACall Tryz.prog 138 [.d (eBy b), vI .i64 (i : Int), vFn g] [] (fun r o => r = vI .i64 ((i + runN p (b.drop i) : Nat) : Int)) := by
 refine z8 Tryz.func138 rfl rfl (Nat.le_of_ble_eq_true rfl) fun C hC hCl hDs hGk => ?_
 have hdl : (b.drop i).length = b.length - i := List.length_drop
 have hrl := zaj p (b.drop i)
 refine zm [0] tabOk Tryz.func138 rfl ?nd (zbu g p hp (b.drop i) (by omega)) ⟨⟨_, rfl, .refl _⟩, trivial⟩ ⟨.eL ?a0, .refl _, trivial⟩ rfl rfl rfl ⟨_, rfl⟩ ?kk
 case nd =>
  rw [List.length_map]
  exact ⟨⟨by omega, by omega, Int.le_refl _⟩, trivial⟩
 case a0 =>
  rw [List.length_map, Int.toNat_natCast, zd0 b _ _ (by omega)]
 case kk =>
 rintro _ o ⟨rfl, rfl⟩
 have hcase : idxA p (b.drop i) = if runN p (b.drop i) < (b.drop i).length then (runN p (b.drop i) : Int) else -1 := rfl
 generalize idxA p (b.drop i) = q at *
 refine z6 tabOk Tryz.func138 rfl trivial (fun h => ?_) (fun h => ?_)
 ·have h : decide (q < 0) = true := h
  rw [decide_eq_true_eq] at h
  refine z7 tabOk Tryz.func138 rfl trivial ?_
  show vI .i64 (((b.map eU8).length : Nat) : Int) = _
  rw [List.length_map]
  split at hcase
  ·omega
  ·rw [show i + runN p (b.drop i) = b.length by omega]
 ·have h : decide (q < 0) = false := h
  rw [decide_eq_false_iff_not] at h
  refine z7 tabOk Tryz.func138 rfl trivial ?_
  show vI .i64 (IntKind.i64.wrap ((i : Int) + q)) = _
  split at hcase
  ·rw [zb (by omega) (by omega), hcase]
   rfl
  ·omega
theorem zke (c : UInt8) : ACall Tryz.prog 139 [.d (eU8 c)] [] (fun r o => r = vB (decide (48 ≤ c.toNat ∧ c.toNat ≤ 57))) := by
 refine z8 Tryz.func139 rfl rfl (Nat.le_of_ble_eq_true rfl) fun C hC hCl hDs hGk => ?_
 refine z6 tabOk Tryz.func139 rfl trivial (fun h => ?_) (fun h => ?_)
 ·have h : decide ((c.toNat : Int) ≥ 48) = true := h
  rw [decide_eq_true_eq] at h
  refine z7 tabOk Tryz.func139 rfl trivial ?_
  show vB (decide ((c.toNat : Int) ≤ 57)) = _
  congr 2
  simp only [eq_iff_iff]
  omega
 ·have h : decide ((c.toNat : Int) ≥ 48) = false := h
  rw [decide_eq_false_iff_not] at h
  refine z7 tabOk Tryz.func139 rfl trivial ?_
  show vB false = _
  rw [decide_eq_false (by omega)]
@[reducible] def isDig (c : UInt8) : Bool := decide (48 ≤ c.toNat ∧ c.toNat ≤ 57)
def numN (l : List UInt8) : Nat := l.foldl (fun n c => n * 10 + (c.toNat - 48)) 0
theorem z7y (l : List UInt8) (c : UInt8) : numN (l ++ [c]) = numN l * 10 + (c.toNat - 48) := by simp [numN]
theorem zp9 (l : List UInt8) : ∀ n, n ≤ l.foldl (fun n c => n * 10 + (c.toNat - 48)) n := by
 induction l with
 | nil => exact fun n => Nat.le_refl _
 | cons c r ih =>
  intro n
  have := ih (n * 10 + (c.toNat - 48))
  simp only [List.foldl_cons]
  omega
theorem z8t {α : Type} {d : α} {l : List α} {i : Nat} (h : i < l.length) : l.getD i d = l[i] := by simp [List.getD_eq_getElem?_getD, h]
theorem zdf (a b : List UInt8) : numN a ≤ numN (a ++ b) := by
 unfold numN
 rw [List.foldl_append]
 exact zp9 _ _
def numDs (b : List UInt8) (i : Nat) : List UInt8 := (b.drop i).take (runN isDig (b.drop i))
def numR (b : List UInt8) (i most : Int) : Int × Int × Int :=
 if ¬ (0 ≤ i ∧ i ≤ b.length) then (0, 0, 2)
 else if runN isDig (b.drop i.toNat) = 0 ∨ (b.getD i.toNat 0 = 48 ∧ 1 < runN isDig (b.drop i.toNat)) then (0, i, 2)
 else if min most 2147483647 < numN (numDs b i.toNat) then (0, i, 3)
 else (numN (numDs b i.toNat), i + runN isDig (b.drop i.toNat), 0)
theorem takeW {l : List UInt8} {j : Nat} (h : j < runN isDig l) : ∃ c, l[j]? = some c ∧ isDig c = true := by
 induction l generalizing j with
 | nil => simp [runN] at h
 | cons c r ih =>
  rw [z4x] at h
  split at h
  ·rename_i hc
   cases j with
   | zero => exact ⟨c, rfl, hc.2⟩
   | succ j => obtain ⟨d, h1, h2⟩ := ih (j := j) (by omega); exact ⟨d, by simpa using h1, h2⟩
  ·omega
@[reducible] def numA (q : Int × Int × Int) : AV := tupOf [vI .i64 q.1, vI .i64 q.2.1, vI .i64 q.2.2]
theorem zbp (b : List UInt8) (i most : Int) (hb : b.length ≤ 1000000) : ACall Tryz.prog 101 [.d (eBy b), vI .i64 i, vI .i64 most] [] (fun r o => r = numA (numR b i most)) := by
 refine z8 Tryz.func101 rfl rfl (Nat.le_of_ble_eq_true rfl) fun C hC hCl hDs hGk => ?_
 refine ze tabOk Tryz.func101 rfl trivial (z65 b i) (.refl _) rfl ⟨_, rfl⟩ (by rintro r o rfl; rfl) ?_
 rintro _ o rfl
 refine z6 tabOk Tryz.func101 rfl trivial (fun h => ?_) (fun h => ?_)
 ·rw [Bool.not_eq_true', decide_eq_false_iff_not] at h
  refine z7 tabOk Tryz.func101 rfl trivial ?_
  rw [numR, if_pos h]
 have h : 0 ≤ i ∧ i ≤ b.length := by
  rw [Bool.not_eq_false', decide_eq_true_eq] at h
  exact h
 obtain ⟨j, rfl⟩ : ∃ j : Nat, i = j := ⟨i.toNat, by omega⟩
 have hj : j ≤ b.length := by omega
 refine ze tabOk Tryz.func101 rfl trivial (zon 139 isDig zke b j hj hb) (.refl _) rfl ⟨_, rfl⟩ (by rintro r o rfl; rfl) ?_
 rintro _ o rfl
 have hR : numR b j most = if runN isDig (b.drop j) = 0 ∨ (b.getD j 0 = 48 ∧ 1 < runN isDig (b.drop j)) then (0, (j : Int), 2) else if min most 2147483647 < numN (numDs b j) then (0, (j : Int), 3) else ((numN (numDs b j) : Int), (j : Int) + runN isDig (b.drop j), 0) := by
  rw [numR, if_neg (fun hh => hh h)]
  rfl
 rw [hR]
 have hkl := zaj isDig (b.drop j)
 rw [List.length_drop] at hkl
 have htk := @takeW (b.drop j)
 have hds : numDs b j = (b.drop j).take (runN isDig (b.drop j)) := rfl
 clear hR
 generalize numDs b j = ds at *
 generalize runN isDig (b.drop j) = k at *
 refine z6 tabOk Tryz.func101 rfl trivial (fun h1 => ?_) (fun h1 => ?_)
 ·have h1 : ((((j + k : Nat) : Int)) == (j : Int)) = true := h1
  have h1 : k = 0 := by
   rw [beq_iff_eq] at h1
   omega
  refine z6 tabOk Tryz.func101 rfl trivial (fun _ => ?_) (fun h => by cases h)
  refine z7 tabOk Tryz.func101 rfl trivial ?_
  rw [if_pos (.inl h1)]
 have h1 : ((((j + k : Nat) : Int)) == (j : Int)) = false := h1
 have hk : 0 < k := by
  rw [beq_eq_false_iff_ne] at h1
  omega
 have wj : IntKind.i64.wrap ((j : Int) + 1) = (j : Int) + 1 := zb (by omega) (by omega)
 have hgo : (¬ (b.getD j 0 = 48 ∧ 1 < k)) → ∀ R0, R0 = (if min most 2147483647 < (numN ds : Int) then ((0 : Int), (j : Int), (3 : Int)) else ((numN ds : Int), (j : Int) + k, 0)) → (if k = 0 ∨ (b.getD j 0 = 48 ∧ 1 < k) then ((0 : Int), (j : Int), (2 : Int)) else if min most 2147483647 < (numN ds : Int) then (0, (j : Int), 3) else ((numN ds : Int), (j : Int) + k, 0)) = R0 := fun hh R0 e => by
  rw [if_neg (fun e => e.elim (fun e => by omega) hh), e]
 have hdl : ds.length = k := by rw [hds, List.length_take, List.length_drop]; omega
 have hdig : ∀ q, q < k → 48 ≤ (ds.getD q 0).toNat ∧ (ds.getD q 0).toNat ≤ 57 := fun q hq => by
  obtain ⟨c, g1, g2⟩ := htk hq
  have : ds.getD q 0 = c := by rw [hds, List.getD_eq_getElem?_getD, List.getElem?_take, if_pos hq, g1]; rfl
  rw [this]
  exact of_decide_eq_true g2
 have hsl : List.take (((j + k : Nat) : Int) - (j : Int)).toNat (List.drop (j : Int).toNat (b.map eU8)) = ds.map eU8 := by
  rw [show (((j + k : Nat) : Int) - (j : Int)).toNat = k by omega, Int.toNat_natCast, hds, List.map_take, List.map_drop]
 apply letK (p := ASat Tryz.prog 101 Tryz.f101.ntmps C _ [(1, vI .i64 (j : Int)), (2, vI .i64 most), (9, vI .i64 ((j + k : Nat) : Int)), (10, vI .i64 0), (40, .d (eBy ds)), (41, vI .i64 (k : Int)), (42, vI .i64 ((0 : Nat) : Int))] [] (fun r o => r = numA (if min most 2147483647 < (numN ds : Int) then ((0 : Int), (j : Int), (3 : Int)) else ((numN ds : Int), (j : Int) + k, 0))))
 ·intro key
  refine z6 tabOk Tryz.func101 rfl ?nd (fun h2 => ?_) (fun h2 => ?_)
  case nd =>
   simp only [List.length_map]
   exact ⟨⟨by omega, by omega⟩, trivial⟩
  ·have h2 : (((b.getD j 0).toNat : Int) == 48) = true := h2
   have h2 : b.getD j 0 = 48 := by
    rw [beq_iff_eq] at h2
    exact UInt8.toNat_inj.1 (by show (b.getD j 0).toNat = 48; omega)
   refine z6 tabOk Tryz.func101 rfl trivial (fun h3 => ?_) (fun h3 => ?_)
   ·have h3 : decide (((j + k : Nat) : Int) > IntKind.i64.wrap ((j : Int) + 1)) = true := h3
    rw [wj, decide_eq_true_eq] at h3
    refine z7 tabOk Tryz.func101 rfl trivial ?_
    rw [if_pos (.inr ⟨h2, by omega⟩)]
   ·have h3 : decide (((j + k : Nat) : Int) > IntKind.i64.wrap ((j : Int) + 1)) = false := h3
    rw [wj, decide_eq_false_iff_not] at h3
    rw [hgo (fun hh => by omega) _ rfl]
    refine za tabOk Tryz.func101 rfl ?nd2 ?_
    case nd2 =>
     simp only [List.length_map]
     exact ⟨⟨by omega, by omega, by omega⟩, trivial⟩
    refine zg key hC hCl ⟨⟨_, rfl, .refl _⟩, ⟨_, rfl, .refl _⟩, ⟨_, rfl, .refl _⟩, ⟨_, rfl, .refl _⟩, ⟨_, rfl, .eL hsl⟩, ⟨_, rfl, .of ?_⟩, ⟨_, rfl, .refl _⟩, trivial⟩ trivial rfl rfl (Nat.zero_le _)
    show vI .i64 (((List.take (((j + k : Nat) : Int) - (j : Int)).toNat (List.drop (j : Int).toNat (b.map eU8))).length : Nat) : Int) = _
    rw [hsl, List.length_map, hdl]
  ·have h2 : (((b.getD j 0).toNat : Int) == 48) = false := h2
   have h2 : b.getD j 0 ≠ 48 := fun e => by rw [e] at h2; exact absurd h2 (by decide)
   rw [hgo (fun hh => h2 hh.1) _ rfl]
   refine z6 tabOk Tryz.func101 rfl trivial (fun h => by cases h) (fun _ => ?_)
   refine za tabOk Tryz.func101 rfl ?nd3 ?_
   case nd3 =>
    simp only [List.length_map]
    exact ⟨⟨by omega, by omega, by omega⟩, trivial⟩
   refine zg key hC hCl ⟨⟨_, rfl, .refl _⟩, ⟨_, rfl, .refl _⟩, ⟨_, rfl, .refl _⟩, ⟨_, rfl, .refl _⟩, ⟨_, rfl, .eL hsl⟩, ⟨_, rfl, .of ?_⟩, ⟨_, rfl, .refl _⟩, trivial⟩ trivial rfl rfl (Nat.zero_le _)
   show vI .i64 (((List.take (((j + k : Nat) : Int) - (j : Int)).toNat (List.drop (j : Int).toNat (b.map eU8))).length : Nat) : Int) = _
   rw [hsl, List.length_map, hdl]
 refine zj (α := Nat) (fun q => [(1, vI .i64 (j : Int)), (2, vI .i64 most), (9, vI .i64 ((j + k : Nat) : Int)), (10, vI .i64 ((numN (ds.take q) : Nat) : Int)), (40, .d (eBy ds)), (41, vI .i64 (k : Int)), (42, vI .i64 ((q : Nat) : Int))]) (fun q => []) (fun q => q ≤ k ∧ (q = 0 ∨ (numN (ds.take q) : Int) ≤ min most 2147483647)) (fun q => k - q) 0 ⟨Nat.zero_le _, .inl rfl⟩ ?_ ?_
 ·exact fun h => zg h hC hCl ⟨⟨_, rfl, .refl _⟩, ⟨_, rfl, .refl _⟩, ⟨_, rfl, .refl _⟩, ⟨_, rfl, .refl _⟩, ⟨_, rfl, .refl _⟩, ⟨_, rfl, .refl _⟩, ⟨_, rfl, .refl _⟩, trivial⟩ trivial rfl rfl (Nat.zero_le _)
 rintro q ⟨hq, hn⟩ ih
 have hnb : numN (ds.take q) ≤ 2147483647 := by
  rcases hn with rfl | hn
  ·simp [numN]
  ·omega
 refine z6 tabOk Tryz.func101 rfl trivial (fun hb2 => ?_) (fun hb2 => ?_)
 ·have hb2 : decide ((q : Int) < (k : Int)) = true := hb2
  rw [decide_eq_true_eq] at hb2
  have hlt : q < k := by omega
  obtain ⟨g1, g2⟩ := hdig q hlt
  have hsn : numN (ds.take (q + 1)) = numN (ds.take q) * 10 + ((ds.getD q 0).toNat - 48) := by
   rw [List.take_succ_eq_append_getElem (by omega), z7y, z8t (d := 0) (by omega)]
  have e0 : IntKind.u8.wrap (((ds.getD q 0).toNat : Int) - 48) = ((ds.getD q 0).toNat : Int) - 48 := by
   generalize (ds.getD q 0).toNat = v at g1 g2
   simp [IntKind.wrap, IntKind.bits, IntKind.signed]
   omega
  have e1 : IntKind.i64.wrap (IntKind.i64.wrap (((numN (ds.take q) : Nat) : Int) * 10) + IntKind.i64.wrap (IntKind.u8.wrap (((ds.getD q 0).toNat : Int) - 48))) = ((numN (ds.take (q + 1)) : Nat) : Int) := by
   rw [e0, zb (n := ((numN (ds.take q) : Nat) : Int) * 10) (by omega) (by omega), zb (n := ((ds.getD q 0).toNat : Int) - 48) (by omega) (by omega), zb (by omega) (by omega), hsn]
   omega
  refine z6 tabOk Tryz.func101 rfl ?nd (fun h4 => ?_) (fun h4 => ?_)
  case nd =>
   simp only [List.length_map]
   exact ⟨⟨by omega, by omega⟩, trivial⟩
  ·have h4 : decide (IntKind.i64.wrap (IntKind.i64.wrap (((numN (ds.take q) : Nat) : Int) * 10) + IntKind.i64.wrap (IntKind.u8.wrap (((ds.getD q 0).toNat : Int) - 48))) > min most 2147483647) = true := h4
   rw [e1, decide_eq_true_eq] at h4
   have hpre := zdf (ds.take (q + 1)) (ds.drop (q + 1))
   rw [List.take_append_drop] at hpre
   refine z7 tabOk Tryz.func101 rfl trivial ?_
   rw [if_pos (by omega)]
  ·have h4 : decide (IntKind.i64.wrap (IntKind.i64.wrap (((numN (ds.take q) : Nat) : Int) * 10) + IntKind.i64.wrap (IntKind.u8.wrap (((ds.getD q 0).toNat : Int) - 48))) > min most 2147483647) = false := h4
   rw [e1, decide_eq_false_iff_not] at h4
   refine za tabOk Tryz.func101 rfl trivial ?_
   exact zg (ih (q + 1) ⟨by omega, .inr (by omega)⟩ (by omega)) hC hCl ⟨⟨_, rfl, .refl _⟩, ⟨_, rfl, .refl _⟩, ⟨_, rfl, .refl _⟩, ⟨_, rfl, .of (by show vI .i64 _ = _; rw [← e1]; rfl)⟩, ⟨_, rfl, .refl _⟩, ⟨_, rfl, .refl _⟩, ⟨_, rfl, .of (by rw [zb (by omega) (by omega)]; rfl)⟩, trivial⟩ trivial rfl rfl (Nat.zero_le _)
 ·have hb2 : decide ((q : Int) < (k : Int)) = false := hb2
  rw [decide_eq_false_iff_not] at hb2
  obtain rfl : q = k := by omega
  rw [List.take_of_length_le (by omega)] at hn hnb ⊢
  refine z7 tabOk Tryz.func101 rfl trivial ?_
  rw [if_neg (by rcases hn with e | e <;> omega)]
  show tupOf [vI .i64 _, vI .i64 ((j + q : Nat) : Int), vI .i64 0] = _
  rw [show ((j + q : Nat) : Int) = (j : Int) + q by omega]
@[reducible] def z19 : List UInt8 := [45]
def signR (b : List UInt8) (i most : Int) : Int × Int × Int :=
 if ¬ (0 ≤ i ∧ i ≤ b.length) then (0, 0, 2)
 else if isAt b i z19 = false then numR b (isTo b i z19) most
 else if (numR b (isTo b i z19) most).2.2 = 0 ∧ (numR b (isTo b i z19) most).1 = 0 then (0, i, 2)
 else if (numR b (isTo b i z19) most).2.2 ≠ 0 then (0, i, (numR b (isTo b i z19) most).2.2)
 else (-(numR b (isTo b i z19) most).1, (numR b (isTo b i z19) most).2.1, 0)
theorem zgv (b : List UInt8) (i most : Int) : 0 ≤ (numR b i most).1 ∧ (numR b i most).1 ≤ 2147483647 := by
 unfold numR
 split
 ·exact ⟨by decide, by decide⟩
 ·split
  ·exact ⟨by simp, by simp⟩
  ·split
   ·exact ⟨by simp, by simp⟩
   ·exact ⟨by simp, by simp only; omega⟩
theorem zhv (b : List UInt8) (i most : Int) (hb : b.length ≤ 1000000) : ACall Tryz.prog 161 [.d (eBy b), vI .i64 i, vI .i64 most] [] (fun r o => r = numA (signR b i most)) := by
 refine z8 Tryz.func161 rfl rfl (Nat.le_of_ble_eq_true rfl) fun C hC hCl hDs hGk => ?_
 refine ze tabOk Tryz.func161 rfl trivial (z65 b i) (.refl _) rfl ⟨_, rfl⟩ (by rintro r o rfl; rfl) ?_
 rintro _ o rfl
 refine z6 tabOk Tryz.func161 rfl trivial (fun h => ?_) (fun h => ?_)
 ·rw [Bool.not_eq_true', decide_eq_false_iff_not] at h
  refine z7 tabOk Tryz.func161 rfl trivial ?_
  rw [signR, if_pos h]
 have h : 0 ≤ i ∧ i ≤ b.length := by
  rw [Bool.not_eq_false', decide_eq_true_eq] at h
  exact h
 have hS : signR b i most = if isAt b i z19 = false then numR b (isTo b i z19) most
  else if (numR b (isTo b i z19) most).2.2 = 0 ∧ (numR b (isTo b i z19) most).1 = 0 then (0, i, 2)
  else if (numR b (isTo b i z19) most).2.2 ≠ 0 then (0, i, (numR b (isTo b i z19) most).2.2)
  else (-(numR b (isTo b i z19) most).1, (numR b (isTo b i z19) most).2.1, 0) := by
  rw [signR, if_neg (fun hh => hh h)]
 rw [hS]
 clear hS
 refine ze tabOk Tryz.func161 rfl trivial (zhw b i z19 hb (by decide)) (.refl _) rfl ⟨_, rfl⟩ (by rintro r o rfl; rfl) ?_
 rintro _ o rfl
 have hbd := zgv b (isTo b i z19) most
 refine ze tabOk Tryz.func161 rfl trivial (zbp b (isTo b i z19) most hb) (.refl _) rfl ⟨_, rfl⟩ (by rintro r o rfl; rfl) ?_
 rintro _ o rfl
 generalize numR b (isTo b i z19) most = q at *
 obtain ⟨n, e, er⟩ := q
 cases hneg : isAt b i z19 with
 | false =>
  refine z6 tabOk Tryz.func161 rfl trivial (fun _ => ?_) (fun h => by cases h)
  refine z7 tabOk Tryz.func161 rfl trivial ?_
  rw [if_pos rfl]
 | true =>
  refine z6 tabOk Tryz.func161 rfl trivial (fun h => by cases h) (fun _ => ?_)
  rw [if_neg (by decide)]
  refine z6 tabOk Tryz.func161 rfl trivial (fun h1 => ?_) (fun h1 => ?_)
  ·obtain rfl : er = 0 := by simpa using h1
   refine z6 tabOk Tryz.func161 rfl trivial (fun h2 => ?_) (fun h2 => ?_)
   ·obtain rfl : n = 0 := by simpa using h2
    refine z7 tabOk Tryz.func161 rfl trivial ?_
    rw [if_pos ⟨rfl, rfl⟩]
   ·have h2 : n ≠ 0 := by simpa using h2
    refine z6 tabOk Tryz.func161 rfl trivial (fun h => by cases h) (fun _ => ?_)
    refine z7 tabOk Tryz.func161 rfl trivial ?_
    rw [if_neg (fun hh => h2 hh.2), if_neg (by simp)]
    show tupOf [vI .i64 (IntKind.i64.wrap (0 - n)), _, _] = _
    rw [zb (by simp only at hbd; omega) (by simp only at hbd; omega), Int.zero_sub]
  ·have h1 : er ≠ 0 := by simpa using h1
   refine z6 tabOk Tryz.func161 rfl trivial (fun h => by cases h) (fun _ => ?_)
   refine z6 tabOk Tryz.func161 rfl trivial (fun _ => ?_) (fun h3 => ?_)
   ·refine z7 tabOk Tryz.func161 rfl trivial ?_
    rw [if_neg (fun hh => h1 hh.1), if_pos h1]
   ·exact absurd (show er = 0 by simpa using h3) h1
@[reducible] def sNl : List UInt8 := [10]
@[reducible] def sSp : List UInt8 := [32]
def clR (b : List UInt8) (n : Int) : Nat → Int → List Int → (Int × Int) ⊕ (List Int × Int)
 | 0, at_, _ => .inl (at_, 2)
 | f + 1, at_, out =>
  if (signR b at_ n).2.2 ≠ 0 then .inl (at_, (signR b at_ n).2.2)
  else if (signR b at_ n).1 = 0 then (if isAt b (signR b at_ n).2.1 sNl = true then .inr (out, isTo b (signR b at_ n).2.1 sNl) else .inl ((signR b at_ n).2.1, 2))
  else if out.length = 1000 then .inl (at_, 3)
  else if isAt b (signR b at_ n).2.1 sSp = true then clR b n f (isTo b (signR b at_ n).2.1 sSp) (out ++ [(signR b at_ n).1]) else .inl ((signR b at_ n).2.1, 2)
theorem zdc {b : List UInt8} {i most : Int} (h : (numR b i most).2.2 = 0) : 0 ≤ i ∧ i < (numR b i most).2.1 ∧ (numR b i most).2.1 ≤ b.length := by
 unfold numR at h ⊢
 split at h
 ·exact absurd h (by decide)
 ·rename_i h1
  rw [if_neg h1]
  have h1 : 0 ≤ i ∧ i ≤ b.length := Decidable.not_not.1 h1
  split at h
  ·exact absurd h (by simp)
  ·rename_i h2
   rw [if_neg h2]
   split at h
   ·exact absurd h (by simp)
   ·rename_i h3
    rw [if_neg h3]
    have := zaj isDig (b.drop i.toNat)
    rw [List.length_drop] at this
    have hne : runN isDig (b.drop i.toNat) ≠ 0 := fun e => h2 (.inl e)
    refine ⟨h1.1, ?_, ?_⟩ <;> simp only <;> omega
theorem z63 {b : List UInt8} {i : Int} {s : List UInt8} (h : isAt b i s = true) : 0 ≤ i ∧ isTo b i s = i + s.length ∧ isTo b i s ≤ b.length := by
 unfold isAt at h
 rw [Bool.and_eq_true, decide_eq_true_eq] at h
 obtain ⟨h1, h2⟩ := h
 have h3 : isTo b i s = i + s.length := by rw [isTo, if_neg (fun hh => hh h1), if_pos h2]
 refine ⟨h1.1, h3, ?_⟩
 rw [zd6, decide_eq_true_eq, List.length_drop] at h2
 rw [h3]
 omega
theorem z6f {b : List UInt8} {i most : Int} (h : (signR b i most).2.2 = 0) : 0 ≤ i ∧ i < (signR b i most).2.1 ∧ (signR b i most).2.1 ≤ b.length := by
 unfold signR at h ⊢
 split at h
 ·exact absurd h (by decide)
 ·rename_i h1
  rw [if_neg h1]
  have h1 : 0 ≤ i ∧ i ≤ b.length := Decidable.not_not.1 h1
  split at h
  ·rename_i h2
   rw [if_pos h2]
   have := zdc h
   have e : isTo b i z19 = i := by
    unfold isAt at h2
    rw [decide_eq_true h1, Bool.true_and] at h2
    rw [isTo, if_neg (fun hh => hh h1), if_neg (by rw [h2]; decide)]
   rw [e] at this ⊢
   exact this
  ·rename_i h2
   rw [if_neg h2]
   have h2 : isAt b i z19 = true := by simpa using h2
   obtain ⟨q1, q2, q3⟩ := z63 h2
   split at h
   ·exact absurd h (by simp)
   ·rename_i h3
    rw [if_neg h3]
    split at h
    ·rename_i h4
     exact absurd h h4
    ·rename_i h4
     rw [if_neg h4]
     have := zdc (Decidable.not_not.1 h4)
     refine ⟨q1, ?_, this.2.2⟩
     have h5 := this.2.1
     rw [q2] at h5 ⊢
     simp only [List.length_cons, List.length_nil] at h5 ⊢
     omega
theorem zj9 (a b : List Int) : ACall Tryz.prog 98 [.d (eIs a), .d (eIs b)] [] (fun r o => r = vB (decide (a = b))) := by
 refine z8 Tryz.func98 rfl rfl (Nat.le_of_ble_eq_true rfl) fun C hC hCl hDs hGk => ?_
 refine z4b (t := 0) rfl fun hlen => ?_
 rw [List.length_map] at hlen
 refine z6 tabOk Tryz.func98 rfl trivial (fun h => ?_) (fun h => ?_)
 ·refine z7 tabOk Tryz.func98 rfl trivial ?_
  show vB false = vB _
  have : a ≠ b := by rintro rfl; simp at h
  simp [this]
 have hl : a.length = b.length := by simp at h; omega
 refine za tabOk Tryz.func98 rfl trivial ?_
 refine zj (α := Nat) (fun i => [(0, .d (eIs a)), (1, .d (eIs b)), (12, vI .i64 a.length), (13, vI .i64 i)]) (fun _ => []) (fun i => i ≤ a.length ∧ a.take i = b.take i) (fun i => a.length - i) 0 ⟨Nat.zero_le _, rfl⟩ ?_ ?_
 ·exact fun h => zg h hC hCl ⟨⟨_, rfl, .refl _⟩, ⟨_, rfl, .refl _⟩, ⟨_, rfl, .of (by rw [List.length_map])⟩, ⟨_, rfl, .refl _⟩, trivial⟩ trivial rfl rfl (Nat.zero_le _)
 rintro i ⟨hi, hc⟩ ih
 refine z6 tabOk Tryz.func98 rfl trivial (fun hb => ?_) (fun hb => ?_) <;> simp only [decide_eq_true_eq, decide_eq_false_iff_not, List.length_map] at hb
 ·have hlt : i < a.length := by omega
  have hlb : i < b.length := by omega
  have ea : a.getD i 0 = a[i] := by simp [hlt]
  have eb : b.getD i 0 = b[i] := by simp [hlb]
  refine zn 8 tabOk Tryz.func98 rfl rfl trivial (by kernel_rfl) ?_
  refine zo tabOk rfl ?_ ?_
  ·exact (by simp only [andP, and_true, true_and, Int.toNat_natCast, List.length_map, List.length_append, List.length_cons, List.length_nil, List.length_replicate]; omega)
  refine z6 tabOk Tryz.func98 rfl trivial (fun hb2 => ?_) (fun hb2 => ?_)
  ·simp only [Int.toNat_natCast, bne_iff_ne, ne_eq] at hb2
   refine z7 tabOk Tryz.func98 rfl trivial ?_
   show vB false = vB _
   have : a ≠ b := by rintro rfl; exact hb2 rfl
   simp [this]
  ·simp only [Int.toNat_natCast, bne_eq_false_iff_eq] at hb2
   rw [ea, eb] at hb2
   refine za tabOk Tryz.func98 rfl trivial ?_
   refine zg (ih (i + 1) ⟨by omega, ?_⟩ (by omega)) hC hCl ⟨⟨_, rfl, .refl _⟩, ⟨_, rfl, .refl _⟩, ⟨_, rfl, .refl _⟩, ⟨_, rfl, .of (by rw [zb (by omega) (by omega)]; rfl)⟩, trivial⟩ trivial rfl rfl (Nat.zero_le _)
   rw [List.take_add_one, List.take_add_one, hc, List.getElem?_eq_getElem hlt, List.getElem?_eq_getElem hlb, hb2]
 ·obtain rfl : i = a.length := by omega
  rw [List.take_length, hl, List.take_length] at hc
  refine z7 tabOk Tryz.func98 rfl trivial ?_
  show vB true = vB _
  simp [hc]
@[reducible] def Sp := Bool × List Int × Unit
@[reducible] def eSp (x : Sp) : D := .ag [.v (.bool x.1), eIs x.2.1]
@[reducible] def eSps (l : List Sp) : D := eL 2 eSp (false, [], ()) l
theorem zjn (x y : Sp) : ACall Tryz.prog 97 [.d (eSp x), .d (eSp y)] [] (fun r o => r = vB (decide (x = y))) := by
 refine z8 Tryz.func97 rfl rfl (Nat.le_of_ble_eq_true rfl) fun C hC hCl hDs hGk => ?_
 obtain ⟨d, c, ⟨⟩⟩ := x
 obtain ⟨e, k, ⟨⟩⟩ := y
 have hd : decide (((d, c, ()) : Sp) = (e, k, ())) = (decide (d = e) && decide (c = k)) := by
  rw [Bool.eq_iff_iff]
  simp
 refine z6 tabOk Tryz.func97 rfl trivial (fun h => ?_) (fun h => ?_)
 ·have h : d = e := by simpa using h
  refine ze tabOk Tryz.func97 rfl trivial (zj9 c k) (.refl _) rfl ⟨_, rfl⟩ (by rintro r o rfl; rfl) ?_
  rintro _ o rfl
  refine z7 tabOk Tryz.func97 rfl trivial ?_
  rw [hd, decide_eq_true h, Bool.true_and]
  rfl
 ·have h : ¬ d = e := by simpa using h
  refine z7 tabOk Tryz.func97 rfl trivial ?_
  rw [hd, decide_eq_false h, Bool.false_and]
  rfl
theorem zpm (a b : List Sp) : ACall Tryz.prog 96 [.d (eSps a), .d (eSps b), vFn 97] [] (fun r o => r = vB (decide (a = b))) := by
 refine z8 Tryz.func96 rfl rfl (Nat.le_of_ble_eq_true rfl) fun C hC hCl hDs hGk => ?_
 refine z4b (t := 0) rfl fun hlen => ?_
 rw [List.length_map] at hlen
 refine z6 tabOk Tryz.func96 rfl trivial (fun h => ?_) (fun h => ?_)
 ·refine z7 tabOk Tryz.func96 rfl trivial ?_
  show vB false = vB _
  have : a ≠ b := by rintro rfl; simp at h
  simp [this]
 have hl : a.length = b.length := by simp at h; omega
 refine za tabOk Tryz.func96 rfl trivial ?_
 refine zj (α := Nat) (fun i => [(1, .d (eSps b)), (2, vFn 97), (15, .d (eSps a)), (16, vI .i64 a.length), (17, vI .i64 i)]) (fun _ => []) (fun i => i ≤ a.length ∧ a.take i = b.take i) (fun i => a.length - i) 0 ⟨Nat.zero_le _, rfl⟩ ?_ ?_
 ·exact fun h => zg h hC hCl ⟨⟨_, rfl, .refl _⟩, ⟨_, rfl, .refl _⟩, ⟨_, rfl, .refl _⟩, ⟨_, rfl, .of (by rw [List.length_map])⟩, ⟨_, rfl, .refl _⟩, trivial⟩ trivial rfl rfl (Nat.zero_le _)
 rintro i ⟨hi, hc⟩ ih
 refine z6 tabOk Tryz.func96 rfl trivial (fun hb => ?_) (fun hb => ?_) <;> simp only [decide_eq_true_eq, decide_eq_false_iff_not, List.length_map] at hb
 ·have hlt : i < a.length := by omega
  have hlb : i < b.length := by omega
  have ea : a.getD i (false, [], ()) = a[i] := by simp [hlt]
  have eb : b.getD i (false, [], ()) = b[i] := by simp [hlb]
  refine ze tabOk Tryz.func96 rfl (by simp only [andP, and_true, true_and, Int.toNat_natCast, List.length_map, List.length_append, List.length_cons, List.length_nil, List.length_replicate]; omega) (zjn (a.getD i (false, [], ())) (b.getD i (false, [], ()))) (.refl _) rfl ⟨_, rfl⟩ (by rintro r o rfl; rfl) ?_
  rintro _ o rfl
  refine z6 tabOk Tryz.func96 rfl trivial (fun hb2 => ?_) (fun hb2 => ?_)
  ·have hb2 : a.getD i (false, [], ()) ≠ b.getD i (false, [], ()) := by simpa using hb2
   refine z7 tabOk Tryz.func96 rfl trivial ?_
   show vB false = vB _
   have : a ≠ b := by rintro rfl; exact hb2 rfl
   simp [this]
  ·have hb2 : a.getD i (false, [], ()) = b.getD i (false, [], ()) := by simpa using hb2
   rw [ea, eb] at hb2
   refine za tabOk Tryz.func96 rfl trivial ?_
   refine zg (ih (i + 1) ⟨by omega, ?_⟩ (by omega)) hC hCl ⟨⟨_, rfl, .refl _⟩, ⟨_, rfl, .refl _⟩, ⟨_, rfl, .refl _⟩, ⟨_, rfl, .refl _⟩, ⟨_, rfl, .of (by rw [zb (by omega) (by omega)]; rfl)⟩, trivial⟩ trivial rfl rfl (Nat.zero_le _)
   rw [List.take_add_one, List.take_add_one, hc, List.getElem?_eq_getElem hlt, List.getElem?_eq_getElem hlb, hb2]
 ·obtain rfl : i = a.length := by omega
  refine z7 tabOk Tryz.func96 rfl trivial ?_
  rw [List.take_length, hl, List.take_length] at hc
  rw [decide_eq_true hc]
  rfl
theorem z8z (a b : List Sp) : ACall Tryz.prog 54 [.d (eSps a), .d (eSps b)] [] (fun r o => r = vB (decide (a = b))) := by
 refine z8 Tryz.func54 rfl rfl (Nat.le_of_ble_eq_true rfl) fun C hC hCl hDs hGk => ?_
 refine ze tabOk Tryz.func54 rfl trivial (zpm a b) (.refl _) rfl ⟨_, rfl⟩ (by rintro r o rfl; rfl) ?_
 rintro _ o rfl
 exact z7 tabOk Tryz.func54 rfl trivial rfl
@[reducible] def sDel : List UInt8 := [100, 32]
@[reducible] def gSps (l : List Sp) : AObj := gL 87 2 eSp (false, [], ()) l
theorem z8s {b : List UInt8} {at_ : Int} {s : List UInt8} (h0 : 0 ≤ at_) (h1 : at_ ≤ b.length) : at_ ≤ isTo b at_ s ∧ isTo b at_ s ≤ b.length := by
 cases h : isAt b at_ s with
 | true =>
  have := z63 h
  omega
 | false =>
  unfold isAt at h
  rw [decide_eq_true ⟨h0, h1⟩, Bool.true_and] at h
  rw [isTo, if_neg (fun hh => hh ⟨h0, h1⟩), if_neg (by rw [h]; decide)]
  omega
@[reducible] def gIss (l : List (List Int)) : AObj := gL 24 1 eIs [] l
def idP {α : Type} (p : α → Bool) (l : List α) : Int := match l.findIdx? p with | some i => i | none => -1
theorem z84 {α : Type} {p : α → Bool} {l : List α} {j : Nat} (hj : j < l.length) (h1 : p l[j] = true) (h2 : ∀ q (hq : q < l.length), q < j → p l[q] = false) : idP p l = j := by
 have : l.findIdx? p = some j := List.findIdx?_eq_some_iff_getElem.2 ⟨hj, h1, fun q hq => by rw [h2 q (by omega) hq]; decide⟩
 rw [idP, this]
theorem z85 {α : Type} {p : α → Bool} {l : List α} (h2 : ∀ q (hq : q < l.length), p l[q] = false) : idP p l = -1 := by
 have : l.findIdx? p = none := List.findIdx?_eq_none_iff.2 fun x hx => by
  obtain ⟨q, hq, rfl⟩ := List.mem_iff_getElem.1 hx
  exact h2 q hq
 rw [idP, this]
theorem zhy (c : List (List Int)) (hlen : c.length ≤ 1000000) : ACall Tryz.prog 115 [.d (eIss c)] [] (fun r o => r = .gs 0 ∧ o = [some (gIss c)]) := by
 refine z8 Tryz.func115 rfl rfl (Nat.le_of_ble_eq_true rfl) fun C hC hCl hDs hGk => ?_
 refine z3w tabOk Tryz.func115 rfl trivial ?_
 refine zee tabOk rfl rfl rfl rfl rfl rfl rfl rfl (fun hx => ?_) ?_
 ·have hc : c = [] := List.map_eq_nil_iff.1 hx
  subst hc
  refine zh 6 tabOk Tryz.func115 rfl trivial ?_
  refine z3r (e := 24) (s := 1) (t := 2) (.inl rfl) (fun i => eIs (([] : List (List Int)).getD i [])) ?_
  refine zp tabOk Tryz.func115 rfl trivial hC hCl (.refl _) (o2 := [some (gIss [])]) ⟨.refl _, trivial⟩ rfl rfl (Nat.zero_le _) ⟨rfl, rfl⟩
 ·refine zp tabOk Tryz.func115 rfl ?_ hC hCl (.refl _) (o2 := [some (gIss c)]) ⟨.gL rfl, trivial⟩ rfl rfl (Nat.zero_le _) ⟨rfl, rfl⟩
  simp only [andP, List.length_map]
  exact ⟨by show c.length * 24 ≤ _; omega, trivial⟩
@[reducible] def bOwn (own : List Int) : AObj := .cells 24 [.d (eIs own)]
theorem zgg (own d : List Int) (hd : ∀ x ∈ d, -1000000 ≤ x ∧ x ≤ 1000000) (hl : d.length ≤ 1000000) : ACall Tryz.prog 208 [.d (eIs d), .ptr 0 0] [some (bOwn own)] (fun r o => r = vB (decide (sortU d = own)) ∧ o = [some (bOwn own)]) := by
 refine z8 Tryz.func208 rfl rfl (Nat.le_of_ble_eq_true rfl) fun C hC hCl hDs hGk => ?_
 refine zn 3 tabOk Tryz.func208 rfl rfl trivial (by kernel_rfl) ?_
 refine zx tabOk rfl trivial (zgb d hd hl) (zf Tryz.func207 rfl rfl) (by rintro r o rfl; rfl) (.refl _) rfl rfl ⟨_, rfl⟩ ?_
 refine zo tabOk rfl trivial ?_
 refine ze tabOk Tryz.func208 rfl trivial (zj9 (sortU d) own) (.refl _) rfl ⟨_, rfl⟩ (by rintro r o rfl; rfl) ?_
 rintro _ o rfl
 exact z7 tabOk Tryz.func208 rfl trivial ⟨rfl, rfl⟩
theorem zo6 (g : FuncId) (p : List Int → Bool) (own : List Int) (l : List (List Int)) (hp : ∀ d ∈ l, ACall Tryz.prog g [.d (eIs d), .ptr 0 0] [some (bOwn own)] (fun r o => r = vB (p d) ∧ o = [some (bOwn own)])) (hl : l.length ≤ 1000000) (vh : Value) :
  ACall Tryz.prog 146 [.gs 0, .fn (.func g) [.ptr 1 0]] [some (gIss l), some (bOwn own), some (.hold (.gs 0) vh)] (fun r o => r = vI .i64 (idP p l) ∧ o = [some (gIss l), some (bOwn own), some (.hold (.gs 0) vh)]) := by
 refine z8 Tryz.func146 rfl rfl (Nat.le_of_ble_eq_true rfl) fun C hC hCl hDs hGk => ?_
 refine za tabOk Tryz.func146 rfl trivial ?_
 refine zj (α := Nat) (fun i => [(0, .gs 0), (1, .fn (.func g) [.ptr 1 0]), (7, vI .i64 l.length), (8, vI .i64 (i : Int))]) (fun i => [some (gIss l), some (bOwn own), some (.hold (.gs 0) vh)]) (fun i => i ≤ l.length ∧ ∀ q (hq : q < l.length), q < i → p l[q] = false) (fun i => l.length - i) 0 ⟨Nat.zero_le _, fun q _ h => absurd h (Nat.not_lt_zero q)⟩ ?_ ?_
 ·exact fun h => zg h hC hCl ⟨⟨_, rfl, .refl _⟩, ⟨_, rfl, .refl _⟩, ⟨_, rfl, .of (by rw [List.length_map])⟩, ⟨_, rfl, .refl _⟩, trivial⟩ ⟨.refl _, .refl _, .refl _, trivial⟩ rfl rfl (Nat.le_refl _)
 rintro i ⟨hi, hno⟩ ih
 refine z6 tabOk Tryz.func146 rfl trivial (fun h => ?_) (fun h => ?_)
 ·have h : decide ((i : Int) < (l.length : Int)) = true := h
  rw [decide_eq_true_eq] at h
  have hlt : i < l.length := by omega
  have eg : l.getD i [] = l[i] := by simp [hlt]
  refine zm [1] tabOk Tryz.func146 rfl (by simp only [andP, and_true, true_and, Int.toNat_natCast, List.length_map, List.length_append, List.length_cons, List.length_nil, List.length_replicate]; omega) (hp (l.getD i []) (by rw [eg]; exact List.getElem_mem hlt)) ⟨⟨_, rfl, .refl _⟩, trivial⟩ (.refl _) rfl rfl rfl ⟨_, rfl⟩ ?_
  rintro r o ⟨rfl, rfl⟩
  refine z6 tabOk Tryz.func146 rfl trivial (fun h2 => ?_) (fun h2 => ?_)
  ·have h2 : p (l.getD i []) = true := h2
   rw [eg] at h2
   refine zp tabOk Tryz.func146 rfl trivial hC hCl (.of ?_) (o2 := [some (gIss l), some (bOwn own), some (.hold (.gs 0) vh)]) ⟨.refl _, .refl _, .refl _, trivial⟩ rfl rfl (Nat.le_refl _) ⟨rfl, rfl⟩
   rw [z84 hlt h2 hno]
   rfl
  ·have h2 : p (l.getD i []) = false := h2
   rw [eg] at h2
   refine za tabOk Tryz.func146 rfl trivial ?_
   refine zg (ih (i + 1) ⟨by omega, fun q hq hqi => ?_⟩ (by omega)) hC hCl ⟨⟨_, rfl, .refl _⟩, ⟨_, rfl, .refl _⟩, ⟨_, rfl, .refl _⟩, ⟨_, rfl, .of (by rw [zb (by omega) (by omega)]; rfl)⟩, trivial⟩ ⟨.refl _, .refl _, .refl _, trivial⟩ rfl rfl (Nat.le_refl _)
   rcases Nat.lt_or_ge q i with h3 | h3
   ·exact hno q hq h3
   ·obtain rfl : q = i := by omega
    exact h2
 ·have h : decide ((i : Int) < (l.length : Int)) = false := h
  rw [decide_eq_false_iff_not] at h
  obtain rfl : i = l.length := by omega
  refine z7 tabOk Tryz.func146 rfl trivial ⟨?_, rfl⟩
  rw [z85 fun q hq => hno q hq hq]
  rfl
end Go.Proofs.YtkemmijjpclckaaGreatDoor
namespace Go.Proofs.YtkemmijjpclckaaGreatDoor
open Go Ab Go.RowKit Go.Shelf Go.Lib Go.Sort Go.Proofs
theorem zpo (l : List (List Int)) (i : Nat) (hi : i < l.length) : ACall Tryz.prog 209 [.gs 0, vI .i64 (i : Int), vI .i64 ((i + 1 : Nat) : Int)] [some (gIss l)] (fun r o => r = .gs 0 ∧ o = [some (gIss (l.take i ++ l.drop (i + 1)))]) := by
 have h := zkf (P := Tryz.prog) (g := 209) (zr := ⟨.slice none 0 0, rfl⟩) (fun b o cap i j d w h1 h2 h3 h4 h5 => AnyE.slices_Delete Tryz.sdelL encF (fun x => x.2) ⟨.slice none 0 0, rfl⟩ Tryz.zeroValue24 _ rfl rfl b o cap i j d w h1 h2 h3 h4 h5)
  (fun args w => zf Tryz.func209 rfl rfl args w) (e := 24) (xs := l.map eIs) (rd := fun i => eIs (l.getD i [])) (rd' := fun k => eIs ((l.take i ++ l.drop (i + 1)).getD k [])) (i := i) (by simpa using hi) (by
   rw [← List.map_take, ← List.map_drop, ← List.map_append]
   exact z2v eIs [] _)
 rw [← List.map_take, ← List.map_drop, ← List.map_append] at h
 exact h
end Go.Proofs.YtkemmijjpclckaaGreatDoor
namespace Go.Proofs.YtkemmijjpclckaaGreatDoor
open Go Ab Go.RowKit
noncomputable def refB (l : List (List Int)) (c : List Int) : Bool := @decide (Cf l (c.map fun x => -x)) (Classical.propDecidable _)
theorem zd5 {l : List (List Int)} {c : List Int} : refB l c = true ↔ Cf l (c.map fun x => -x) := by
 unfold refB
 exact @decide_eq_true_iff _ (Classical.propDecidable _)
theorem zlp {n : Int} {l : List (List Int)} {c : List Int} (h : Okl n l c) (hn : n ≤ 100000) (hb : lits l ≤ 1000000) (hc : c.length ≤ 1000000) : ACall Tryz.prog 200 [vI .i64 n, .d (eIss l), .d (eIs c)] [] (fun r o => r = vB (refB l c)) := by
 refine (zlo h hn hb hc).mono ?_
 rintro r o ⟨b, rfl, h1⟩
 congr 3
 rw [Bool.eq_iff_iff, h1, zd5]
def eqS (c d : List Int) : Bool := decide (sortU d = sortU c)
theorem zo0 {n : Int} {l : List (List Int)} {c : List Int} (h : Okl n l c) (hn : n ≤ 100000) (hb : lits l ≤ 1000000) (hc : c.length ≤ 1000000) (hl : l.length ≤ 1000000) :
  ACall Tryz.prog 199 [.d (eIs c), vI .i64 n, .gs 0] [some (gIss l)] (fun r o => r = .tp [.gs 0, vB (refB l c)] ∧ o = [some (gIss (if refB l c = true then l ++ [c] else l))]) := by
 refine z8 Tryz.func199 rfl rfl (Nat.le_of_ble_eq_true rfl) fun C hC hCl hDs hGk => ?_
 refine zlg tabOk Tryz.func199 rfl trivial (zlp h hn hb hc) ⟨.inl (.refl _), .inr ⟨0, 24, 1, _, _, _, rfl, rfl, rfl, z2v eIs [] l⟩, .inl (.refl _), trivial⟩ rfl ⟨_, rfl⟩ (by rintro r o rfl; rfl) ?_
 rintro _ o rfl
 cases refB l c with
 | false =>
  refine z6 tabOk Tryz.func199 rfl trivial (fun _ => ?_) (fun h => by cases h)
  exact z7 tabOk Tryz.func199 rfl trivial ⟨rfl, rfl⟩
 | true =>
  refine z6 tabOk Tryz.func199 rfl trivial (fun h => by cases h) (fun _ => ?_)
  refine zp tabOk Tryz.func199 rfl ?nd hC hCl (.refl _) (o2 := [some (gIss (l ++ [c]))]) ⟨.gL ?_, trivial⟩ rfl rfl (Nat.le_refl _) ⟨rfl, rfl⟩
  case nd =>
   show ((l.map eIs).length + 1) * 24 ≤ 140737488355328 ∧ True
   rw [List.length_map]
   exact ⟨by omega, trivial⟩
  rw [List.map_append]
  rfl
def takeR (l : List (List Int)) (c : List Int) : Option (List (List Int)) := (l.findIdx? (eqS c)).map fun j => l.take j ++ l.drop (j + 1)
theorem zjc {l : List (List Int)} {c : List Int} (n : Int) (hll : ∀ d ∈ l, (∀ x ∈ d, -1000000 ≤ x ∧ x ≤ 1000000) ∧ d.length ≤ 1000000) (hcc : ∀ x ∈ c, -1000000 ≤ x ∧ x ≤ 1000000) (hc : c.length ≤ 1000000) (hl : l.length ≤ 1000000) :
  ACall Tryz.prog 206 [.d (eIs c), vI .i64 n, .gs 0] [some (gIss l)] (fun r o => r = .tp [.gs 0, vB (takeR l c).isSome] ∧ o = [some (gIss ((takeR l c).getD l))]) := by
 refine z8 Tryz.func206 rfl rfl (Nat.le_of_ble_eq_true rfl) fun C hC hCl hDs hGk => ?_
 refine ze tabOk Tryz.func206 rfl trivial (zgb c hcc hc) (.refl _) rfl ⟨_, rfl⟩ (by rintro r o rfl; rfl) ?_
 rintro _ o rfl
 refine zh 7 tabOk Tryz.func206 rfl trivial ?_
 refine zi3 2 0 rfl (fun vh _ => ?_)
 refine zm [0, 1, 2] tabOk Tryz.func206 rfl trivial (zo6 208 (eqS c) (sortU c) l (fun d hd => zgg (sortU c) d (hll d hd).1 (hll d hd).2) hl vh) ⟨⟨_, rfl, .refl _⟩, ⟨_, rfl, .refl _⟩, ⟨_, rfl, .refl _⟩, trivial⟩ (.refl _) rfl rfl rfl ⟨_, rfl⟩ ?_
 rintro _ o ⟨rfl, rfl⟩
 refine zc5 2 2 rfl rfl ?_
 unfold takeR idP
 cases hf : l.findIdx? (eqS c) with
 | none =>
  refine z6 tabOk Tryz.func206 rfl trivial (fun _ => ?_) (fun h => by cases h)
  exact zp tabOk Tryz.func206 rfl trivial hC hCl (.refl _) (o2 := [some (gIss l)]) ⟨.refl _, trivial⟩ rfl rfl (Nat.le_refl _) ⟨rfl, rfl⟩
 | some j =>
  have hj : j < l.length := (List.findIdx?_eq_some_iff_getElem.1 hf).1
  refine z6 tabOk Tryz.func206 rfl trivial (fun h => ?_) (fun h => ?_)
  ·have h : decide ((j : Int) < 0) = true := h
   rw [decide_eq_true_eq] at h
   omega
  refine zm [0] tabOk Tryz.func206 rfl trivial (zpo l j hj) ⟨⟨_, rfl, .refl _⟩, trivial⟩ ⟨.refl _, .refl _, .of ?_, trivial⟩ rfl rfl rfl ⟨_, rfl⟩ ?_
  ·show vI .i64 (IntKind.i64.wrap ((j : Int) + 1)) = vI .i64 ((j + 1 : Nat) : Int)
   rw [zb (by omega) (by omega)]
   rfl
  rintro _ o ⟨rfl, rfl⟩
  exact zp tabOk Tryz.func206 rfl trivial hC hCl (.refl _) (o2 := [some (gIss (l.take j ++ l.drop (j + 1)))]) ⟨.refl _, trivial⟩ rfl rfl (Nat.le_refl _) ⟨rfl, rfl⟩
theorem zq9 (s : Sp) : ACall Tryz.prog 116 [.d (eSp s)] [] (fun r o => r = .d (.ifc (if s.1 = true then 211 else 182) (eIs s.2.1))) := by
 refine z8 Tryz.func116 rfl rfl (Nat.le_of_ble_eq_true rfl) fun C hC hCl hDs hGk => ?_
 obtain ⟨d, c, ⟨⟩⟩ := s
 cases d with
 | true =>
  refine z6 tabOk Tryz.func116 rfl trivial (fun _ => ?_) (fun h => by cases h)
  exact z7 tabOk Tryz.func116 rfl trivial rfl
 | false =>
  refine z6 tabOk Tryz.func116 rfl trivial (fun h => by cases h) (fun _ => ?_)
  exact z7 tabOk Tryz.func116 rfl trivial rfl
noncomputable def stepR (l : List (List Int)) (s : Sp) : Option (List (List Int)) := if s.1 = true then takeR l s.2.1 else if refB l s.2.1 = true then some (l ++ [s.2.1]) else none
noncomputable def chk : List (List Int) → Nat → List Sp → Nat × Int
 | _, i, [] => (i, 6)
 | l, i, s :: r => match stepR l s with
  | none => (i, if s.1 = true then 4 else 6)
  | some l' => if s.1 = false ∧ s.2.1 = [] then (i, 0) else chk l' (i + 1) r
structure Cls (n : Int) (l : List (List Int)) : Prop where
 lit : ∀ c ∈ l, ∀ x ∈ c, litOk n x
 len : ∀ c ∈ l, c.length ≤ 1000
theorem Cls.lits {n : Int} {l : List (List Int)} (h : Cls n l) (hl : l.length ≤ 1000) : lits l ≤ 1000000 := Nat.le_trans (zmm 1000 l h.len) (Nat.le_trans (Nat.mul_le_mul_right 1000 hl) (by decide))
theorem zl1 {n : Int} {l l' : List (List Int)} {s : Sp} (h : Cls n l) (hs : (∀ x ∈ s.2.1, litOk n x) ∧ s.2.1.length ≤ 1000) (he : stepR l s = some l') : Cls n l' ∧ l'.length ≤ l.length + 1 := by
 unfold stepR takeR at he
 split at he
 ·cases hf : l.findIdx? (eqS s.2.1) with
  | none => rw [hf] at he; cases he
  | some j =>
   rw [hf] at he
   simp only [Option.map_some, Option.some.injEq] at he
   subst he
   have hm : ∀ c, c ∈ l.take j ++ l.drop (j + 1) → c ∈ l := fun c hc => by
    rcases List.mem_append.1 hc with hc | hc
    ·exact List.mem_of_mem_take hc
    ·exact List.mem_of_mem_drop hc
   refine ⟨⟨fun c hc => h.lit c (hm c hc), fun c hc => h.len c (hm c hc)⟩, ?_⟩
   simp only [List.length_append, List.length_take, List.length_drop]
   omega
 ·split at he
  ·cases he
   have hm : ∀ c, c ∈ l ++ [s.2.1] → c ∈ l ∨ c = s.2.1 := fun c hc => by simpa using hc
   refine ⟨⟨fun c hc => ?_, fun c hc => ?_⟩, by simp⟩
   ·rcases hm c hc with h1 | rfl
    ·exact h.lit c h1
    ·exact hs.1
   ·rcases hm c hc with h1 | rfl
    ·exact h.len c h1
    ·exact hs.2
  ·cases he
@[reducible] def bCf (n : Int) (l : List (List Int)) : AObj := .cells 129 [vI .i64 n, .d (eIss l)]
theorem zjr (v : Value) (w : World) : (Go.method (Tryz.prog.types.size + Made.depth) 211 v "vidimus/drup.do").run Tryz.prog w = .ok (206, v) w := by kernel_rfl
theorem zmh (v : Value) (w : World) : (Go.method (Tryz.prog.types.size + Made.depth) 182 v "vidimus/drup.do").run Tryz.prog w = .ok (199, v) w := by kernel_rfl
theorem z96 {n : Int} {l0 : List (List Int)} {p : List Sp} (hn : 0 ≤ n ∧ n ≤ 100000) (hc : Cls n l0) (hp : ∀ s ∈ p, (∀ x ∈ s.2.1, litOk n x) ∧ s.2.1.length ≤ 1000) (hs : l0.length + p.length ≤ 1000) :
  ACall Tryz.prog 68 [.d (eCnf n l0), .d (eSps p)] [] (fun r o => r = tupOf [vI .i64 ((chk l0 0 p).1 : Int), vI .i64 (chk l0 0 p).2]) := by
 refine z8 Tryz.func68 rfl rfl (Nat.le_of_ble_eq_true rfl) fun C hC hCl hDs hGk => ?_
 generalize hq : chk l0 0 p = q at *
 refine zm [] tabOk Tryz.func68 rfl trivial (zhy l0 (by omega)) trivial (.refl _) rfl rfl rfl ⟨_, rfl⟩ ?_
 rintro _ o ⟨rfl, rfl⟩
 refine za tabOk Tryz.func68 rfl trivial ?_
 refine zj (α := Nat × List (List Int)) (fun s => [(1, .d (eSps p)), (2, .ptr 0 0), (6, .gs 1), (17, .d (eSps p)), (18, vI .i64 p.length), (19, vI .i64 (s.1 : Int))]) (fun s => [some (bCf n l0), some (gIss s.2)]) (fun s => s.1 ≤ p.length ∧ Cls n s.2 ∧ s.2.length ≤ l0.length + s.1 ∧ chk s.2 s.1 (p.drop s.1) = q) (fun s => p.length - s.1) (0, l0) ⟨Nat.zero_le _, hc, Nat.le_refl _, hq⟩ ?_ ?_
 ·exact fun h => zg h hC hCl ⟨⟨_, rfl, .refl _⟩, ⟨_, rfl, .refl _⟩, ⟨_, rfl, .refl _⟩, ⟨_, rfl, .refl _⟩, ⟨_, rfl, .of (by rw [List.length_map])⟩, ⟨_, rfl, .refl _⟩, trivial⟩ ⟨.refl _, .refl _, trivial⟩ rfl rfl (Nat.zero_le _)
 rintro ⟨i, l⟩ ⟨hi, hcl, hll, hck⟩ ih
 simp only at hi hcl hll hck ih ⊢
 refine z6 tabOk Tryz.func68 rfl trivial (fun h => ?_) (fun h => ?_)
 rotate_left
 ·have h : decide ((i : Int) < (p.length : Int)) = false := h
  rw [decide_eq_false_iff_not] at h
  obtain rfl : i = p.length := by omega
  rw [List.drop_length, chk] at hck
  refine z7 tabOk Tryz.func68 rfl trivial ?_
  rw [← hck]
  show tupOf [vI .i64 (((p.map eSp).length : Nat) : Int), vI .i64 6] = _
  rw [List.length_map]
 have h : decide ((i : Int) < (p.length : Int)) = true := h
 rw [decide_eq_true_eq] at h
 have hlt : i < p.length := by omega
 have eg : p.getD i (false, [], ()) = p[i] := by simp [hlt]
 rw [List.drop_eq_getElem_cons hlt, chk] at hck
 have hps := hp _ (List.getElem_mem hlt)
 rw [← eg] at hps hck
 generalize hsi : p.getD i (false, [], ()) = si at *
 have hl1 : l.length ≤ 1000 := by omega
 have hok : Okl n l si.2.1 := ⟨hn.1, hcl.lit, hps.1⟩
 have hlits := hcl.lits hl1
 have hstep := zl1 hcl hps (l' := (stepR l si).getD [])
 refine ze tabOk Tryz.func68 rfl (by simp only [andP, and_true, true_and, Int.toNat_natCast, List.length_map, List.length_append, List.length_cons, List.length_nil, List.length_replicate]; omega) (zq9 (p.getD i (false, [], ()))) (.refl _) rfl ⟨_, rfl⟩ ?_ ?_
 ·rintro r o rfl
  rfl
 rintro _ o rfl
 rw [hsi]
 refine zh 8 tabOk Tryz.func68 rfl trivial ?_
 obtain ⟨d, c, ⟨⟩⟩ := si
 simp only at hck hps hok
 have hlim : ∀ d ∈ l, (∀ x ∈ d, -1000000 ≤ x ∧ x ≤ 1000000) ∧ d.length ≤ 1000000 := fun d hd => ⟨fun x hx => zmo (hcl.lit d hd x hx) hn.2, Nat.le_trans (hcl.len d hd) (by decide)⟩
 cases d with
 | true =>
  refine zag [1] rfl rfl rfl rfl zjr rfl (zjc (l := l) (c := c) n hlim (fun x hx => zmo (hps.1 x hx) hn.2) (Nat.le_trans hps.2 (by decide)) (by omega)) (zf Tryz.func206 rfl rfl) ⟨⟨_, rfl, .refl _⟩, trivial⟩ (.refl _) rfl rfl rfl ⟨_, rfl⟩ ?_
  rintro _ o ⟨rfl, rfl⟩
  refine zh 9 tabOk Tryz.func68 rfl trivial ?_
  refine zg (env' := [(1, .d (eSps p)), (2, .ptr 0 0), (17, .d (eSps p)), (18, vI .i64 p.length), (19, vI .i64 (i : Int)), (7, vI .i64 (i : Int)), (10, .gs 1), (11, vB (takeR l c).isSome), (35, .d (.ifc 211 (eIs c)))]) (objs' := [some (bCf n l0), some (gIss ((takeR l c).getD l))]) ?_ hC hCl ⟨⟨_, rfl, .refl _⟩, ⟨_, rfl, .refl _⟩, ⟨_, rfl, .refl _⟩, ⟨_, rfl, .refl _⟩, ⟨_, rfl, .refl _⟩, ⟨_, rfl, .refl _⟩, ⟨_, rfl, .refl _⟩, ⟨_, rfl, .refl _⟩, ⟨_, rfl, .refl _⟩, trivial⟩ ⟨.refl _, .refl _, trivial⟩ rfl rfl (Nat.zero_le _)
  refine zgl (t2 := 211) rfl rfl rfl rfl (by decide) (d := .slice _) rfl rfl Tryz.zeroValue182 rfl rfl ?_
  unfold stepR at hck hstep
  simp only [if_true] at hck hstep
  cases ht : takeR l c with
  | none =>
   rw [ht] at hck
   refine z6 tabOk Tryz.func68 rfl trivial (fun _ => ?_) (fun h => by cases h)
   refine z6 tabOk Tryz.func68 rfl trivial (fun h => by cases h) (fun _ => ?_)
   refine z6 tabOk Tryz.func68 rfl trivial (fun _ => ?_) (fun h => by cases h)
   refine z7 tabOk Tryz.func68 rfl trivial ?_
   rw [← hck]
  | some l' =>
   rw [ht] at hck hstep
   obtain ⟨k1, k2⟩ := hstep rfl
   simp only [Option.getD_some] at k1 k2
   simp only [reduceCtorEq, false_and, if_false] at hck
   refine z6 tabOk Tryz.func68 rfl trivial (fun h => by cases h) (fun _ => ?_)
   refine z6 tabOk Tryz.func68 rfl trivial (fun h => by cases h) (fun _ => ?_)
   refine z6 tabOk Tryz.func68 rfl trivial (fun h => by cases h) (fun _ => ?_)
   refine z6 tabOk Tryz.func68 rfl trivial (fun h => by cases h) (fun _ => ?_)
   refine z6 tabOk Tryz.func68 rfl trivial (fun h => by cases h) (fun _ => ?_)
   refine za tabOk Tryz.func68 rfl trivial ?_
   exact zg (ih (i + 1, l') ⟨by omega, k1, by simp only; omega, hck⟩ (by simp only; omega)) hC hCl ⟨⟨_, rfl, .refl _⟩, ⟨_, rfl, .refl _⟩, ⟨_, rfl, .refl _⟩, ⟨_, rfl, .refl _⟩, ⟨_, rfl, .refl _⟩, ⟨_, rfl, .of (by rw [zb (by omega) (by omega)]; rfl)⟩, trivial⟩ ⟨.refl _, .refl _, trivial⟩ rfl rfl (Nat.zero_le _)
 | false =>
  refine zag [1] rfl rfl rfl rfl zmh rfl (zo0 (l := l) (c := c) hok hn.2 hlits (Nat.le_trans hps.2 (by decide)) (by omega)) (zf Tryz.func199 rfl rfl) ⟨⟨_, rfl, .refl _⟩, trivial⟩ (.refl _) rfl rfl rfl ⟨_, rfl⟩ ?_
  rintro _ o ⟨rfl, rfl⟩
  refine zh 9 tabOk Tryz.func68 rfl trivial ?_
  refine zg (env' := [(1, .d (eSps p)), (2, .ptr 0 0), (17, .d (eSps p)), (18, vI .i64 p.length), (19, vI .i64 (i : Int)), (7, vI .i64 (i : Int)), (10, .gs 1), (11, vB (refB l c)), (35, .d (.ifc 182 (eIs c)))]) (objs' := [some (bCf n l0), some (gIss (if refB l c = true then l ++ [c] else l))]) ?_ hC hCl ⟨⟨_, rfl, .refl _⟩, ⟨_, rfl, .refl _⟩, ⟨_, rfl, .refl _⟩, ⟨_, rfl, .refl _⟩, ⟨_, rfl, .refl _⟩, ⟨_, rfl, .refl _⟩, ⟨_, rfl, .refl _⟩, ⟨_, rfl, .refl _⟩, ⟨_, rfl, .refl _⟩, trivial⟩ ⟨.refl _, .refl _, trivial⟩ rfl rfl (Nat.zero_le _)
  refine zgk rfl rfl rfl rfl (d := .slice _) rfl rfl rfl ?_
  unfold stepR at hck hstep
  simp only [Bool.false_eq_true, if_false] at hck hstep
  cases ht : refB l c with
  | false =>
   rw [ht] at hck
   refine z6 tabOk Tryz.func68 rfl trivial (fun _ => ?_) (fun h => by cases h)
   refine z6 tabOk Tryz.func68 rfl trivial (fun _ => ?_) (fun h => by cases h)
   refine z7 tabOk Tryz.func68 rfl trivial ?_
   rw [← hck]
   rfl
  | true =>
   rw [ht] at hck hstep
   obtain ⟨k1, k2⟩ := hstep rfl
   simp only [if_true, Option.getD_some] at k1 k2
   simp only [if_true, true_and] at hck
   refine z6 tabOk Tryz.func68 rfl trivial (fun h => by cases h) (fun _ => ?_)
   refine z6 tabOk Tryz.func68 rfl trivial (fun h => by cases h) (fun _ => ?_)
   refine z6 tabOk Tryz.func68 rfl trivial (fun h => by cases h) (fun _ => ?_)
   refine z6 tabOk Tryz.func68 rfl trivial (fun _ => ?_) (fun h => by cases h)
   refine z6 tabOk Tryz.func68 rfl trivial (fun h3 => ?_) (fun h3 => ?_)
   ·have h3 : ((((c.map eI).length : Nat) : Int) == 0) = true := h3
    rw [beq_iff_eq, List.length_map] at h3
    have h3 : c = [] := List.length_eq_zero_iff.1 (by omega)
    rw [if_pos h3] at hck
    refine z7 tabOk Tryz.func68 rfl trivial ?_
    rw [← hck]
   ·have h3 : ((((c.map eI).length : Nat) : Int) == 0) = false := h3
    rw [beq_eq_false_iff_ne, List.length_map] at h3
    have h3 : ¬ c = [] := fun e => h3 (by rw [e]; rfl)
    rw [if_neg h3] at hck
    refine za tabOk Tryz.func68 rfl trivial ?_
    exact zg (ih (i + 1, l ++ [c]) ⟨by omega, k1, by simp only; omega, hck⟩ (by simp only; omega)) hC hCl ⟨⟨_, rfl, .refl _⟩, ⟨_, rfl, .refl _⟩, ⟨_, rfl, .refl _⟩, ⟨_, rfl, .refl _⟩, ⟨_, rfl, .refl _⟩, ⟨_, rfl, .of (by rw [zb (by omega) (by omega)]; rfl)⟩, trivial⟩ ⟨.refl _, .refl _, trivial⟩ rfl rfl (Nat.zero_le _)
theorem zky {l l' : List (List Int)} {c : List Int} (h : takeR l c = some l') : ∀ d ∈ l', d ∈ l := by
 unfold takeR at h
 cases hf : l.findIdx? (eqS c) with
 | none => rw [hf] at h; cases h
 | some j =>
  rw [hf] at h
  simp only [Option.map_some, Option.some.injEq] at h
  subst h
  intro d hd
  rcases List.mem_append.1 hd with hd | hd
  ·exact List.mem_of_mem_take hd
  ·exact List.mem_of_mem_drop hd
theorem zgh {n : Int} {l l' : List (List Int)} {s : Sp} {m : List Bool} (hl : zck l m) (hs : ∀ x ∈ s.2.1, litOk n x) (hm : (m.length : Int) = n) (h : stepR l s = some l') : zck l' m ∧ (s.1 = false → clT s.2.1 m) := by
 unfold stepR at h
 cases hd : s.1 with
 | true =>
  rw [hd] at h
  simp only [if_true] at h
  exact ⟨fun c hc => hl c (zky h c hc), fun h => by cases h⟩
 | false =>
  rw [hd] at h
  simp only [Bool.false_eq_true, if_false] at h
  split at h
  ·rename_i hr
   cases h
   have hc := zlq hl hs hm (zd5.1 hr)
   refine ⟨fun c hcm => ?_, fun _ => hc⟩
   rcases List.mem_append.1 hcm with h1 | h1
   ·exact hl c h1
   ·rw [List.mem_singleton.1 h1]
    exact hc
  ·cases h
theorem zfy {n : Int} {m : List Bool} (hm : (m.length : Int) = n) : ∀ (p : List Sp) (l : List (List Int)) (i : Nat), zck l m → (∀ s ∈ p, ∀ x ∈ s.2.1, litOk n x) → (chk l i p).2 ≠ 0 ∧ ∀ k (hk : k < p.length), i + k < (chk l i p).1 → p[k].1 = false → clT p[k].2.1 m
 | [], l, i, _, _ => by simp [chk]
 | s :: r, l, i, hl, hp => by
  rw [chk]
  cases hst : stepR l s with
  | none =>
   simp only
   refine ⟨by split <;> decide, fun k _ hk => ?_⟩
   omega
  | some l' =>
   obtain ⟨q1, q2⟩ := zgh hl (hp s List.mem_cons_self) hm hst
   simp only
   split
   ·rename_i he
    have := q2 he.1
    rw [he.2] at this
    obtain ⟨x, hx, _⟩ := this
    cases hx
   ·obtain ⟨h1, h2⟩ := zfy hm r l' (i + 1) q1 fun t ht => hp t (List.mem_cons_of_mem _ ht)
    refine ⟨h1, fun k hk hki => ?_⟩
    cases k with
    | zero => exact q2
    | succ k => exact h2 k (by simpa using hk) (by omega)
end Go.Proofs.YtkemmijjpclckaaGreatDoor
namespace Go.Proofs.YtkemmijjpclckaaGreatDoor
open Go Ab
abbrev P2 := Int × Int
structure Ag where
 i : Int
 l : List P2
 g : List P2
 outs : List Int
 bad : List Int
 con : List Int
 names : List (UInt8 × Int × List UInt8)
 deriving Inhabited
def litB (v : List Bool) (l : Int) : Bool := if l < 0 ∨ (v.length : Int) ≤ l / 2 then false else if l % 2 = 1 then !(v.getD (l / 2).toNat false) else v.getD (l / 2).toNat false
theorem z9z {α : Type} {v t : List α} {j : Nat} (d : α) (h : j < v.length) : (v ++ t).getD j d = v.getD j d := by
 simp only [List.getD_eq_getElem?_getD, List.getElem?_append_left h]
def GOkF : Nat → List P2 → Prop
 | _, [] => True
 | v, p :: r => (0 ≤ p.2 ∧ p.2 ≤ p.1 ∧ p.1 < 2 * (v : Int)) ∧ GOkF (v + 1) r
def litF (n k : Nat) (l : Int) : Int := if l % 2 = 1 then -((k : Int) * ((n : Int) + 1) + l / 2 + 1) else (k : Int) * ((n : Int) + 1) + l / 2 + 1
def turnL (l : Int) : Int := if l % 2 = 1 then l - 1 else l + 1
theorem z52 (n k : Nat) (l : Int) : litF n k (turnL l) = -litF n k l := by
 unfold litF turnL
 by_cases h : l % 2 = 1
 ·rw [if_pos h, if_neg (by omega), if_pos h, Int.neg_neg]
  have : (l - 1) / 2 = l / 2 := by omega
  rw [this]
 ·rw [if_neg h, if_pos (by omega), if_neg h]
  have : (l + 1) / 2 = l / 2 := by omega
  rw [this]
def z4h (n k : Nat) : Nat → List P2 → List (List Int)
 | _, [] => []
 | v, p :: r => [-litF n k (2 * (v : Int)), litF n k p.1] :: [-litF n k (2 * (v : Int)), litF n k p.2] :: [litF n k (2 * (v : Int)), -litF n k p.1, -litF n k p.2] :: z4h n k (v + 1) r
def z1y (n k b : Nat) (g : List P2) : List (List Int) := [-litF n k 0] :: z4h n k (b + 1) g
def z2b (n : Nat) : Nat → List P2 → List (List Int)
 | _, [] => []
 | v, p :: r => (if p.2 = 0 then [[-litF n 0 (2 * (v : Int))]] else if p.2 = 1 then [[litF n 0 (2 * (v : Int))]] else []) ++ z2b n (v + 1) r
def linkF (n : Nat) : Nat → List P2 → List (List Int)
 | _, [] => []
 | v, p :: r => [-litF n 1 (2 * (v : Int)), litF n 0 p.1] :: [litF n 1 (2 * (v : Int)), -litF n 0 p.1] :: linkF n (v + 1) r
def consF (n : Nat) (c : List Int) : List (List Int) := c.map fun l => [litF n 0 l]
structure SimF (m : List Bool) (n k : Nat) (V : List Bool) : Prop where
 len : V.length = n + 1
 fit : (k + 1) * (n + 1) ≤ m.length
 get : ∀ j, j < n + 1 → m.getD (k * (n + 1) + j) false = V.getD j false
theorem SimF.lit {m V : List Bool} {n k : Nat} (h : SimF m n k V) {l : Int} (h0 : 0 ≤ l) (h1 : l ≤ 2 * (n : Int) + 1) : (litB V l = true → litT m (litF n k l)) ∧ (litB V l = false → litT m (-litF n k l)) := by
 have hj : (l / 2).toNat < n + 1 := by omega
 have hg := h.get _ hj
 have hm : k * (n + 1) + (l / 2).toNat < m.length := by
  have := h.fit
  rw [Nat.add_mul, Nat.one_mul] at this
  omega
 have hc : ((k * (n + 1) + (l / 2).toNat : Nat) : Int) = (k : Int) * ((n : Int) + 1) + l / 2 := by
  rw [Int.natCast_add, Int.natCast_mul, Int.natCast_add]
  have : (((l / 2).toNat : Nat) : Int) = l / 2 := by omega
  rw [this]
  rfl
 unfold litB litF
 rw [if_neg (by have := h.len; omega), ← hc]
 by_cases hp : l % 2 = 1
 ·rw [if_pos hp, if_pos hp]
  constructor
  ·intro hb
   rw [Bool.not_eq_true'] at hb
   exact ⟨_, hm, .inr ⟨by rw [hg]; exact hb, by omega⟩⟩
  ·intro hb
   rw [Bool.not_eq_false'] at hb
   exact ⟨_, hm, .inl ⟨by rw [hg]; exact hb, by omega⟩⟩
 ·rw [if_neg hp, if_neg hp]
  constructor
  ·intro hb
   exact ⟨_, hm, .inl ⟨by rw [hg]; exact hb, by omega⟩⟩
  ·intro hb
   exact ⟨_, hm, .inr ⟨by rw [hg]; exact hb, by omega⟩⟩
theorem SimF.or {m V : List Bool} {n k : Nat} (h : SimF m n k V) {l : Int} (h0 : 0 ≤ l) (h1 : l ≤ 2 * (n : Int) + 1) : (litB V l = true ∧ litT m (litF n k l)) ∨ (litB V l = false ∧ litT m (-litF n k l)) := by
 cases hb : litB V l with
 | true => exact .inl ⟨rfl, (h.lit h0 h1).1 hb⟩
 | false => exact .inr ⟨rfl, (h.lit h0 h1).2 hb⟩
def zd2 (n b : Nat) (i : Nat) (l g : List P2) (inv : Int) : List (List Int) := z1y n 0 b g ++ z2b n (i + 1) l ++ [[-litF n 0 inv]]
def zi1 (n b : Nat) (i : Nat) (l g : List P2) (con : List Int) (inv : Int) : List (List Int) := z1y n 0 b g ++ z1y n 1 b g ++ linkF n (i + 1) l ++ consF n con ++ [[litF n 0 inv]] ++ [[-litF n 1 inv]]
def safeF (n b : Nat) (g : List P2) (con : List Int) (inv bad : Int) : List (List Int) := z1y n 0 b g ++ consF n con ++ [[litF n 0 inv]] ++ [[litF n 0 bad]]
def hangG : List P2 → List Bool → List Bool
 | [], h => h
 | p :: r, h => hangG r (h ++ [h.getD (p.1 / 2).toNat false || h.getD (p.2 / 2).toNat false])
def hang0 (i s : Nat) : List Bool := false :: (List.replicate i true ++ List.replicate s false)
def hangA (i s : Nat) (g : List P2) : List Bool := hangG g (hang0 i s)
theorem z56 (i s : Nat) : (hang0 i s).length = i + s + 1 := by simp [hang0]
theorem zfa : ∀ (g : List P2) (v : List Bool), (hangG g v).length = v.length + g.length
 | [], v => rfl
 | p :: g, v => by rw [hangG, zfa g, List.length_append, List.length_cons]; simp; omega
theorem zfb (i s : Nat) (g : List P2) : (hangA i s g).length = i + s + g.length + 1 := by
 unfold hangA
 rw [zfa, z56]
 omega
structure Agree (H V W : List Bool) : Prop where
 lv : V.length = H.length
 lw : W.length = H.length
 eq : ∀ j, j < H.length → H.getD j false = false → V.getD j false = W.getD j false
theorem Agree.lit {H V W : List Bool} (h : Agree H V W) {l : Int} (h0 : 0 ≤ l) (h1 : l / 2 < H.length) (hf : H.getD (l / 2).toNat false = false) : litB V l = litB W l := by
 unfold litB
 rw [h.lv, h.lw, h.eq (l / 2).toNat (by omega) hf]
end Go.Proofs.YtkemmijjpclckaaGreatDoor
