/- A part of the proof. -/
import Derived.Test.YtdnpkeahgpbkoaaU6
import Derived.Test.YtdnpkeahgpbkoaaAb35
namespace Go.Proofs.Ytdnpkeahgpbkoaa
open Go Ab
set_option maxRecDepth 100000
set_option linter.unusedVariables false
set_option linter.unusedSimpArgs false

theorem Clone_call (c : List Int) (hlen : c.length ≤ 1000000) : ACall Try.prog 29 [.d (eIs c)] [] (fun r o => r = .gs 0 ∧ o = [some (gIs c)]) := by
  refine acall_enter Try.func29 rfl rfl (Nat.le_of_ble_eq_true rfl) fun C hC hCl => ?_
  have hC0 : C.objs.length ≤ [some (gIs c)].length := by rw [hC]; exact Nat.zero_le _
  refine sat_goto tabOk Try.func29 rfl trivial ?_
  refine sat_isnil tabOk rfl rfl rfl rfl rfl rfl rfl rfl (fun hx => ?_) ?_
  · have hc : c = [] := List.map_eq_nil_iff.1 hx
    subst hc
    refine sat_steps 6 tabOk Try.func29 rfl trivial ?_
    refine sat_own (e := 3) (s := 1) (t := 2) (.inl rfl) (fun i => eI (([] : List Int).getD i 0)) ?_
    refine sat_retL tabOk Try.func29 rfl trivial hC hCl (.refl _) (o2 := [some (gIs [])]) ⟨.refl _, trivial⟩ rfl rfl (Nat.zero_le _) ⟨rfl, rfl⟩
  · refine sat_retL tabOk Try.func29 rfl ?_ hC hCl (.refl _) (o2 := [some (gIs c)]) ⟨.gL rfl, trivial⟩ rfl rfl (Nat.zero_le _) ⟨rfl, rfl⟩
    simp only [andP, List.length_map]
    exact ⟨by show c.length * 8 ≤ _; omega, trivial⟩

abbrev Sm := {x : Int // -1000000 ≤ x ∧ x ≤ 1000000}
instance : Inhabited Sm := ⟨⟨0, by omega, by omega⟩⟩
def encS (x : Sm) : Value := .int .i64 x.1
def cfS (x y : Sm) : Int := byI x.1 y.1
theorem cmpI_lt (a b : Int) : cmpI a b < 0 ↔ a < b := by
  unfold cmpI
  split
  · simp; assumption
  · split <;> simp <;> omega
theorem cmpI_eq (a b : Int) : cmpI a b = 0 ↔ a = b := by
  unfold cmpI
  split
  · simp; omega
  · split
    · simp; omega
    · simp; omega
/-- By their variables, the one below 0 first. -/
def ltI (a b : Int) : Prop := max a (-a) < max b (-b) ∨ (max a (-a) = max b (-b) ∧ a < b)
instance (a b : Int) : Decidable (ltI a b) := by unfold ltI; infer_instance
theorem byI_lt (a b : Int) : byI a b < 0 ↔ ltI a b := by
  unfold byI ltI
  split
  · rename_i h
    rw [cmpI_eq] at h
    rw [cmpI_lt]
    omega
  · rename_i h
    rw [cmpI_eq] at h
    rw [cmpI_lt]
    omega
theorem ltS (x y : Sm) : Go.Proofs.ltOf cfS x y = decide (ltI x.1 y.1) := by
  have : Go.Proofs.ltOf cfS x y = decide (byI x.1 y.1 < 0) := rfl
  rw [this]
  simp only [byI_lt]
theorem ltI_trans {x y z : Int} (h : ltI x y) (k : ltI y z) : ltI x z := by unfold ltI at *; omega
theorem ltI_ntrans {x y z : Int} (h : ¬ ltI x y) (k : ¬ ltI y z) : ¬ ltI x z := by unfold ltI at *; omega
theorem ltI_tot {x y : Int} (h : ¬ ltI x y) (k : ¬ ltI y x) : x = y := by unfold ltI at *; omega
theorem ltI_irr (x : Int) : ¬ ltI x x := by unfold ltI; omega
theorem swoS : Go.Sort.SWO (Go.Proofs.ltOf cfS) where
  irrefl x := by rw [ltS]; simpa using ltI_irr x.1
  trans x y z h1 h2 := by
    rw [ltS, decide_eq_true_eq] at h1 h2 ⊢
    exact ltI_trans h1 h2
  ntrans x y z h1 h2 := by
    rw [ltS, decide_eq_false_iff_not] at h1 h2 ⊢
    exact ltI_ntrans h1 h2
theorem totS (x y : Sm) (h1 : Go.Proofs.ltOf cfS x y = false) (h2 : Go.Proofs.ltOf cfS y x = false) : x = y := by
  rw [ltS, decide_eq_false_iff_not] at h1 h2
  exact Subtype.ext (ltI_tot h1 h2)
def leI (x y : Int) : Bool := !decide (ltI y x)
def sortU (c : List Int) : List Int := Lib.compact (c.mergeSort leI)

def toS (x : Int) : Sm := if h : -1000000 ≤ x ∧ x ≤ 1000000 then ⟨x, h⟩ else default
theorem toS_val {x : Int} (h : -1000000 ≤ x ∧ x ≤ 1000000) : (toS x).1 = x := by simp [toS, h]
theorem sorted_val (cs : List Sm) : (cs.mergeSort fun x y => !(Go.Proofs.ltOf cfS) y x).map (·.1) = (cs.map (·.1)).mergeSort leI := by
  refine List.map_mergeSort fun a _ b _ => ?_
  rw [ltS]
  rfl

theorem SortFunc_call (c : List Int) (hc : ∀ x ∈ c, -1000000 ≤ x ∧ x ≤ 1000000) (hlen : c.length ≤ 1000000) (v : Value) :
    ACall Try.prog 30 [.gs 0, .d (.v (.func (.func 31) #[] #[]))] [some (gIs c), some (.hold (.gs 0) v)] (fun r o => r = .tp [] ∧ o = [some (gIs (c.mergeSort leI)), some (.hold (.gs 0) v)]) := by
  have e0 : (c.map toS).map (·.1) = c := by
    rw [List.map_map]
    conv => rhs; rw [← List.map_id c]
    exact List.map_congr_left fun x hx => toS_val (hc x hx)
  have h := sortFunc_acall Try.sortL (enc := encS) (fun _ => rfl) (fun _ => rfl) swoS totS (g := 31) (fun args w => callFunc_run Try.func31 rfl rfl args w) (fun args w => callFunc_run Try.func30 rfl rfl args w) (fun x y => by_call x.1 y.1 x.2 y.2) 3 (c.map toS) (fun i => eI (c.getD i 0)) (by simp; omega) v
  have e1 : ∀ l : List Sm, l.map (fun x => D.v (encS x)) = (l.map (·.1)).map eI := by intro l; rw [List.map_map]; rfl
  rw [e1, e0] at h
  refine h.less ?_
  rintro r o ⟨rfl, rfl⟩
  refine ⟨.tp [], [some (gIs (c.mergeSort leI)), some (.hold (.gs 0) v)], ⟨rfl, rfl⟩, .refl _, ⟨.gL ?_, .refl _, trivial⟩, rfl, rfl, Nat.le_refl _⟩
  rw [e1, sorted_val, e0]

theorem Sort_call (c : List Int) (hc : ∀ x ∈ c, -1000000 ≤ x ∧ x ≤ 1000000) (hlen : c.length ≤ 1000000) : ACall Try.prog 17 [.d (eIs c)] [] (fun r o => r = .d (eIs (sortU c))) := by
  refine acall_enter Try.func17 rfl rfl (Nat.le_of_ble_eq_true rfl) fun C hC hCl => ?_
  refine sat_callG [] tabOk Try.func17 rfl trivial (Clone_call c hlen) trivial (.refl _) rfl rfl rfl ⟨_, rfl⟩ ?_
  rintro r o ⟨rfl, rfl⟩
  refine sat_steps 5 tabOk Try.func17 rfl trivial ?_
  refine sat_hold 3 0 rfl fun v hv => ?_
  refine sat_callG [0, 1] tabOk Try.func17 rfl trivial (SortFunc_call c hc hlen v) ⟨⟨_, rfl, .refl _⟩, ⟨_, rfl, .refl _⟩, trivial⟩ (.refl _) rfl rfl rfl ⟨_, rfl⟩ ?_
  rintro r o ⟨rfl, rfl⟩
  refine sat_unhold 3 1 rfl rfl ?_
  refine sat_callG [0] tabOk Try.func17 rfl trivial (compact_call (c.mergeSort leI)) ⟨⟨_, rfl, .refl _⟩, trivial⟩ (.refl _) rfl rfl rfl ⟨_, rfl⟩ ?_
  rintro r o ⟨rfl, rfl⟩
  refine sat_freeze 0 rfl ?_
  refine sat_ret tabOk Try.func17 rfl trivial ?_
  rfl
end Go.Proofs.Ytdnpkeahgpbkoaa
