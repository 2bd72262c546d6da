/- A part of the proof: K6, K7, K8, K9, K10, K11, K12, K15, K16, K17, K18, K24, K41, K42, K43, K44, Ab70, Ab71, Ab72, K50, K51, K52, K53, K54, K55. -/
import Derived.Test.YtffomfbbplpljaaDoorP12
import Derived.Lib.SliceRun
import Derived.Recover
import Derived.Shelf.SlicesE.Delete
set_option linter.unusedVariables false
set_option linter.unusedSimpArgs false
namespace Go.Proofs.YtffomfbbplpljaaDoor
open Go Ab Go.Shelf Go.RowKit Go.Lib Go.Sort
set_option maxRecDepth 100000
set_option linter.unusedVariables false
set_option linter.unusedSimpArgs false

theorem gives27 (x : Int) (W : World) : FnGives Tryd.prog 93 #[] #[.int .i64 x] (.bool (decide (x = 0))) W := by
  show Calls Tryd.prog 93 #[.int .i64 x] W _
  go_enter Tryd.func93, Tryd.ntmps93
  go_wp2
  all_goals (go_ret; exact ⟨by cases h : (x == 0) <;> simp_all, 0, rfl⟩)

theorem delOk : DelOk := by
  intro xs hne
  intro X π w vs hgk m hv
  refine .inl ⟨callFunc_run Tryd.func92 rfl rfl _ _, ?_⟩
  cases hv with
  | cons hv ht =>
    cases ht with
    | cons hg ht =>
      cases ht
      cases hg with | d hg => cases hg with | v _ =>
      obtain ⟨h, hp, hrel⟩ := m.obj 0 _ rfl
      have hlenπ := m.len
      obtain ⟨h0, rfl⟩ : ∃ h0, π = [h0] := by
        cases π with
        | nil => cases hlenπ
        | cons a r => cases r with
          | nil => exact ⟨a, rfl⟩
          | cons _ _ => simp at hlenπ
      cases hp
      cases hv with
      | gs hh =>
        cases hh
        rename_i n c A
        have hrel' : RelO w _ _ (.grow 3 1 (xs.map fun x => D.v (Value.int .i64 x)) (fun i => eI (xs.getD i 0))) (.slice A n c) := hrel
        obtain ⟨b, o, c', rfl, rfl⟩ : ∃ b o c', A = some ⟨b, o, none⟩ ∧ c = c' + 1 := by
          generalize hxs : (xs.map fun x => D.v (Value.int .i64 x)) = ys at hrel'
          cases hrel' with
          | gnil => exact absurd (List.map_eq_nil_iff.1 hxs) hne
          | grow _ _ _ _ _ _ _ _ => exact ⟨_, _, _, rfl, rfl⟩
        obtain ⟨q1, q2, q3, q4, q5⟩ := holds_row hrel'
        subst q2
        have hml : maxLen = 9223372036854775807 := rfl
        have eg : ∀ args w, (callFunc 93 args).run Tryd.prog w = .ok (.enter 93 args) w := fun args w => callFunc_run Tryd.func93 rfl rfl args w
        have hcall := AnyE.slices_DeleteFunc Tryd.delL (Value.int .i64) (fun _ => rfl) (fun x => decide (x = 0)) 93 #[] eg 0 Tryd.zeroValue3 b o (c' + 1) xs.toArray w (fun W x _ => gives27 x W) (fun n os dk x _ => gives27 x _) q1 (by simp; omega) (by simp; omega)
        simp only [List.size_toArray] at hcall
        have hf : (xs.filter fun x => !decide (x = 0)) = xs.filter (· ≠ 0) := by congr 1; funext x; simp
        rw [hf] at hcall
        have hle : (xs.filter (· ≠ 0)).length ≤ xs.length := List.length_filter_le _ _
        generalize xs.filter (· ≠ 0) = F at hcall hle
        refine Calls.mono hcall ?_
        rintro e' w' ⟨rfl, q, rfl⟩
        have htr := row_tr (q := q) (os := #[]) (k := F.length) (L := F ++ List.replicate (xs.length - F.length) 0) (rd' := fun i => eI (F.getD i 0)) (enc := Value.int .i64) (fun _ => rfl) m (by simp; omega) (by simp) (by
          intro i hi
          rw [List.take_left]
          simp [List.getD_eq_getElem?_getD, hi, eI])
        rw [List.take_left] at htr
        unfold sortWorld at htr
        rw [grow_empty] at htr
        refine ⟨_, .gs 0, _, _, rfl, ⟨rfl, rfl⟩, htr.mem, .gs rfl, htr.hist⟩

theorem compactUpTo_le (d : Array Int) : ∀ m, (compactUpTo d m).length ≤ m
  | 0 => by simp [compactUpTo]
  | m + 1 => by
    rw [compactUpTo_succ]
    have := compactUpTo_le d m
    split <;> simp <;> omega

/-- What Compact leaves. -/
theorem compact_call (xs : List Int) : ACall Tryd.prog 102 [.gs 0] [some (gIs xs)] (fun r o => r = .gs 0 ∧ o = [some (gIs (Lib.compact xs))]) := by
  intro X π w vs hgk m hv
  refine .inl ⟨callFunc_run Tryd.func102 rfl rfl _ _, ?_⟩
  cases hv with
  | cons hv ht =>
    cases ht
    obtain ⟨h, hp, hrel⟩ := m.obj 0 _ rfl
    have hlenπ := m.len
    obtain ⟨h0, rfl⟩ : ∃ h0, π = [h0] := by
      cases π with
      | nil => cases hlenπ
      | cons a r => cases r with
        | nil => exact ⟨a, rfl⟩
        | cons _ _ => simp at hlenπ
    cases hp
    cases hv with
    | gs hh =>
      cases hh
      rename_i n c A
      have hrel' : RelO w _ _ (.grow 3 1 (xs.map fun x => D.v (Value.int .i64 x)) (fun i => eI (xs.getD i 0))) (.slice A n c) := hrel
      by_cases hgn : ∃ b o c', A = some ⟨b, o, none⟩ ∧ c = c' + 1
      · obtain ⟨b, o, c', rfl, rfl⟩ := hgn
        obtain ⟨q1, q2, q3, q4, q5⟩ := holds_row hrel'
        subst q2
        have hml : maxLen = 9223372036854775807 := rfl
        have hcall := AnyG.slices_Compact_int Tryd.compactL b o (c' + 1) xs w q1 (by omega) q4
        have hle : (Lib.compact xs).length ≤ xs.length := compactUpTo_le _ _
        generalize Lib.compact xs = F at hcall hle
        refine Calls.mono hcall ?_
        rintro e' w' ⟨rfl, q, rfl⟩
        have htr := row_tr (q := q) (os := #[]) (k := F.length) (L := F ++ List.replicate (xs.length - F.length) 0) (rd' := fun i => eI (F.getD i 0)) (enc := Value.int .i64) (fun _ => rfl) m (by simp; omega) (by simp) (by
          intro i hi
          rw [List.take_left]
          simp [List.getD_eq_getElem?_getD, hi, eI])
        rw [List.take_left] at htr
        unfold sortWorld at htr
        rw [grow_empty] at htr
        refine ⟨_, .gs 0, _, _, rfl, ⟨rfl, rfl⟩, htr.mem, .gs rfl, htr.hist⟩
      · have hnil : xs = [] ∧ n = 0 ∧ c = 0 := by
          generalize hxs : (xs.map fun x => D.v (Value.int .i64 x)) = ys at hrel'
          cases hrel' with
          | gnil => exact ⟨List.map_eq_nil_iff.1 hxs, rfl, rfl⟩
          | grow _ _ _ _ _ _ _ _ => exact absurd ⟨_, _, _, rfl, rfl⟩ hgn
        obtain ⟨rfl, rfl, rfl⟩ := hnil
        refine Calls.mono (AnyG.slices_Compact_int_empty Tryd.compactL A 0 w) ?_
        rintro e' w' ⟨rfl, rfl⟩
        refine ⟨_, .gs 0, _, _, rfl, ⟨rfl, ?_⟩, m, .gs rfl, .refl _ _ _⟩
        rfl
end Go.Proofs.YtffomfbbplpljaaDoor
namespace Go.Proofs.YtffomfbbplpljaaDoor
open Go Ab
set_option maxRecDepth 100000
set_option linter.unusedVariables false
set_option linter.unusedSimpArgs false

theorem Clone_call (c : List Int) (hlen : c.length ≤ 1000000) : ACall Tryd.prog 99 [.d (eIs c)] [] (fun r o => r = .gs 0 ∧ o = [some (gIs c)]) := by
  refine acall_enter Tryd.func99 rfl rfl (Nat.le_of_ble_eq_true rfl) fun C hC hCl hDs hGk => ?_
  have hC0 : C.objs.length ≤ [some (gIs c)].length := by rw [hC]; exact Nat.zero_le _
  refine sat_goto tabOk Tryd.func99 rfl trivial ?_
  refine sat_isnil tabOk rfl rfl rfl rfl rfl rfl rfl rfl (fun hx => ?_) ?_
  · have hc : c = [] := List.map_eq_nil_iff.1 hx
    subst hc
    refine sat_steps 6 tabOk Tryd.func99 rfl trivial ?_
    refine sat_own (e := 3) (s := 1) (t := 2) (.inl rfl) (fun i => eI (([] : List Int).getD i 0)) ?_
    refine sat_retL tabOk Tryd.func99 rfl trivial hC hCl (.refl _) (o2 := [some (gIs [])]) ⟨.refl _, trivial⟩ rfl rfl (Nat.zero_le _) ⟨rfl, rfl⟩
  · refine sat_retL tabOk Tryd.func99 rfl ?_ hC hCl (.refl _) (o2 := [some (gIs c)]) ⟨.gL rfl, trivial⟩ rfl rfl (Nat.zero_le _) ⟨rfl, rfl⟩
    simp only [andP, List.length_map]
    exact ⟨by show c.length * 8 ≤ _; omega, trivial⟩

abbrev Sm := {x : Int // -1000000 ≤ x ∧ x ≤ 1000000}
instance : Inhabited Sm := ⟨⟨0, by omega, by omega⟩⟩
def encS (x : Sm) : Value := .int .i64 x.1
def cfS (x y : Sm) : Int := byI x.1 y.1
theorem cmpI_lt (a b : Int) : cmpI a b < 0 ↔ a < b := by
  unfold cmpI
  split
  · simp; assumption
  · split <;> simp <;> omega
theorem cmpI_eq (a b : Int) : cmpI a b = 0 ↔ a = b := by
  unfold cmpI
  split
  · simp; omega
  · split
    · simp; omega
    · simp; omega
/-- By their variables, the one below 0 first. -/
def ltI (a b : Int) : Prop := max a (-a) < max b (-b) ∨ (max a (-a) = max b (-b) ∧ a < b)
instance (a b : Int) : Decidable (ltI a b) := by unfold ltI; infer_instance
theorem byI_lt (a b : Int) : byI a b < 0 ↔ ltI a b := by
  unfold byI ltI
  split
  · rename_i h
    rw [cmpI_eq] at h
    rw [cmpI_lt]
    omega
  · rename_i h
    rw [cmpI_eq] at h
    rw [cmpI_lt]
    omega
theorem ltS (x y : Sm) : Go.Proofs.ltOf cfS x y = decide (ltI x.1 y.1) := by
  have : Go.Proofs.ltOf cfS x y = decide (byI x.1 y.1 < 0) := rfl
  rw [this]
  simp only [byI_lt]
theorem ltI_trans {x y z : Int} (h : ltI x y) (k : ltI y z) : ltI x z := by unfold ltI at *; omega
theorem ltI_ntrans {x y z : Int} (h : ¬ ltI x y) (k : ¬ ltI y z) : ¬ ltI x z := by unfold ltI at *; omega
theorem ltI_tot {x y : Int} (h : ¬ ltI x y) (k : ¬ ltI y x) : x = y := by unfold ltI at *; omega
theorem ltI_irr (x : Int) : ¬ ltI x x := by unfold ltI; omega
theorem swoS : Go.Sort.SWO (Go.Proofs.ltOf cfS) where
  irrefl x := by rw [ltS]; simpa using ltI_irr x.1
  trans x y z h1 h2 := by
    rw [ltS, decide_eq_true_eq] at h1 h2 ⊢
    exact ltI_trans h1 h2
  ntrans x y z h1 h2 := by
    rw [ltS, decide_eq_false_iff_not] at h1 h2 ⊢
    exact ltI_ntrans h1 h2
theorem totS (x y : Sm) (h1 : Go.Proofs.ltOf cfS x y = false) (h2 : Go.Proofs.ltOf cfS y x = false) : x = y := by
  rw [ltS, decide_eq_false_iff_not] at h1 h2
  exact Subtype.ext (ltI_tot h1 h2)
def leI (x y : Int) : Bool := !decide (ltI y x)
def sortU (c : List Int) : List Int := Lib.compact (c.mergeSort leI)

def toS (x : Int) : Sm := if h : -1000000 ≤ x ∧ x ≤ 1000000 then ⟨x, h⟩ else default
theorem toS_val {x : Int} (h : -1000000 ≤ x ∧ x ≤ 1000000) : (toS x).1 = x := by simp [toS, h]
theorem sorted_val (cs : List Sm) : (cs.mergeSort fun x y => !(Go.Proofs.ltOf cfS) y x).map (·.1) = (cs.map (·.1)).mergeSort leI := by
  refine List.map_mergeSort fun a _ b _ => ?_
  rw [ltS]
  rfl

theorem SortFunc_call (c : List Int) (hc : ∀ x ∈ c, -1000000 ≤ x ∧ x ≤ 1000000) (hlen : c.length ≤ 1000000) (v : Value) :
    ACall Tryd.prog 100 [.gs 0, .d (.v (.func (.func 101) #[] #[]))] [some (gIs c), some (.hold (.gs 0) v)] (fun r o => r = .tp [] ∧ o = [some (gIs (c.mergeSort leI)), some (.hold (.gs 0) v)]) := by
  have e0 : (c.map toS).map (·.1) = c := by
    rw [List.map_map]
    conv => rhs; rw [← List.map_id c]
    exact List.map_congr_left fun x hx => toS_val (hc x hx)
  have h := sortFunc_acall Tryd.sortL (enc := encS) (fun _ => rfl) (fun _ => rfl) swoS totS (g := 101) (fun args w => callFunc_run Tryd.func101 rfl rfl args w) (fun args w => callFunc_run Tryd.func100 rfl rfl args w) (fun x y => @by_call Draws.all x.1 y.1 x.2 y.2) 3 (c.map toS) (fun i => eI (c.getD i 0)) (by simp; omega) v
  have e1 : ∀ l : List Sm, l.map (fun x => D.v (encS x)) = (l.map (·.1)).map eI := by intro l; rw [List.map_map]; rfl
  rw [e1, e0] at h
  refine h.less ?_
  rintro r o ⟨rfl, rfl⟩
  refine ⟨.tp [], [some (gIs (c.mergeSort leI)), some (.hold (.gs 0) v)], ⟨rfl, rfl⟩, .refl _, ⟨.gL ?_, .refl _, trivial⟩, rfl, rfl, Nat.le_refl _⟩
  rw [e1, sorted_val, e0]

theorem Sort_call (c : List Int) (hc : ∀ x ∈ c, -1000000 ≤ x ∧ x ≤ 1000000) (hlen : c.length ≤ 1000000) : ACall Tryd.prog 96 [.d (eIs c)] [] (fun r o => r = .d (eIs (sortU c))) := by
  refine acall_enter Tryd.func96 rfl rfl (Nat.le_of_ble_eq_true rfl) fun C hC hCl hDs hGk => ?_
  refine sat_callG [] tabOk Tryd.func96 rfl trivial (Clone_call c hlen) trivial (.refl _) rfl rfl rfl ⟨_, rfl⟩ ?_
  rintro r o ⟨rfl, rfl⟩
  refine sat_steps 5 tabOk Tryd.func96 rfl trivial ?_
  refine sat_hold 3 0 rfl fun v hv => ?_
  refine sat_callG [0, 1] tabOk Tryd.func96 rfl trivial (SortFunc_call c hc hlen v) ⟨⟨_, rfl, .refl _⟩, ⟨_, rfl, .refl _⟩, trivial⟩ (.refl _) rfl rfl rfl ⟨_, rfl⟩ ?_
  rintro r o ⟨rfl, rfl⟩
  refine sat_unhold 3 1 rfl rfl ?_
  refine sat_callG [0] tabOk Tryd.func96 rfl trivial (compact_call (c.mergeSort leI)) ⟨⟨_, rfl, .refl _⟩, trivial⟩ (.refl _) rfl rfl rfl ⟨_, rfl⟩ ?_
  rintro r o ⟨rfl, rfl⟩
  refine sat_freeze 0 rfl ?_
  refine sat_ret tabOk Tryd.func96 rfl trivial ?_
  rfl
end Go.Proofs.YtffomfbbplpljaaDoor
namespace Go.Proofs.YtffomfbbplpljaaDoor
open Go Ab
set_option maxRecDepth 100000
set_option linter.unusedVariables false
set_option linter.unusedSimpArgs false

theorem Ints_call (a b : List Int) : ACall Tryd.prog 30 [.d (eIs a), .d (eIs b)] [] (fun r o => r = vB (decide (a = b))) := by
  refine acall_enter Tryd.func30 rfl rfl (Nat.le_of_ble_eq_true rfl) fun C hC hCl hDs hGk => ?_
  refine sat_len (t := 0) rfl fun hlen => ?_
  rw [List.length_map] at hlen
  refine sat_branch tabOk Tryd.func30 rfl trivial (fun h => ?_) (fun h => ?_)
  · refine sat_ret tabOk Tryd.func30 rfl trivial ?_
    show vB false = vB _
    have : a ≠ b := by rintro rfl; simp at h
    simp [this]
  · have hl : a.length = b.length := by simp at h; omega
    refine sat_stop tabOk Tryd.func30 rfl trivial ?_
    refine sat_while (α := Nat) (fun i => [(0, .d (eIs a)), (1, .d (eIs b)), (5, vI .i64 i)]) (fun _ => []) (fun i => i ≤ a.length ∧ a.take i = b.take i) (fun i => a.length - i) 0 ⟨Nat.zero_le _, rfl⟩ ?_ ?_
    · exact fun h => sat_le h hC hCl ⟨⟨_, rfl, .refl _⟩, ⟨_, rfl, .refl _⟩, ⟨_, rfl, .refl _⟩, trivial⟩ trivial rfl rfl (Nat.zero_le _)
    · rintro i ⟨hi, hc⟩ ih
      refine sat_branch tabOk Tryd.func30 rfl trivial (fun hb => ?_) (fun hb => ?_) <;> simp only [decide_eq_true_eq, decide_eq_false_iff_not, List.length_map] at hb
      · have hlt : i < a.length := by omega
        have hlb : i < b.length := by omega
        refine sat_draw tabOk Tryd.func30 rfl rfl trivial (by kernel_rfl) rfl ?_ ?_
        · simp only [Int.toNat_natCast, List.length_map]; exact ⟨⟨by omega, by omega⟩, ⟨by omega, by omega⟩, trivial⟩
        have ea : a.getD i 0 = a[i] := by simp [hlt]
        have eb : b.getD i 0 = b[i] := by simp [hlb]
        refine sat_branch tabOk Tryd.func30 rfl trivial (fun hb2 => ?_) (fun hb2 => ?_)
        · have hb2 : a.getD i 0 ≠ b.getD i 0 := by simpa using hb2
          refine sat_ret tabOk Tryd.func30 rfl trivial ?_
          show vB false = vB _
          have : a ≠ b := by rintro rfl; exact hb2 rfl
          simp [this]
        · have hb2 : a.getD i 0 = b.getD i 0 := by simpa using hb2
          rw [ea, eb] at hb2
          refine sat_stop tabOk Tryd.func30 rfl trivial ?_
          refine sat_le (ih (i + 1) ⟨by omega, ?_⟩ (by omega)) hC hCl ⟨⟨_, rfl, .refl _⟩, ⟨_, rfl, .refl _⟩, ⟨_, rfl, .of (by rw [wrap_id (by omega) (by omega)]; rfl)⟩, trivial⟩ trivial rfl rfl (Nat.zero_le _)
          rw [List.take_add_one, List.take_add_one, hc, List.getElem?_eq_getElem hlt, List.getElem?_eq_getElem hlb, hb2]
      · obtain rfl : i = a.length := by omega
        rw [List.take_length, hl, List.take_length] at hc
        refine sat_ret tabOk Tryd.func30 rfl trivial ?_
        show vB true = vB _
        simp [hc]

/-! ### Formulas -/
@[reducible] def eCnf (n : Int) (l : List (List Int)) : D := .ag [eI n, eIss l]
end Go.Proofs.YtffomfbbplpljaaDoor
namespace Go.Proofs.YtffomfbbplpljaaDoor
open Go Ab
set_option maxRecDepth 100000
set_option linter.unusedVariables false
set_option linter.unusedSimpArgs false

instance (n x : Int) : Decidable (litOk n x) := by unfold litOk; infer_instance
def clOk (n : Int) (c : List Int) : Bool := decide (c.length ≤ 1000) && c.all (fun x => decide (litOk n x))
def rightB (n : Int) (l : List (List Int)) : Bool := decide (0 ≤ n ∧ n ≤ 100000 ∧ l.length ≤ 20000) && l.all (clOk n)

theorem Right_call (n : Int) (l : List (List Int)) (hll : l.length ≤ maxLen) (hcl : ∀ c ∈ l, c.length ≤ maxLen) : ACall Tryd.prog 17 [.d (eCnf n l)] [] (fun r o => r = vB (rightB n l)) := by
  have hml : maxLen = 9223372036854775807 := rfl
  refine acall_enter Tryd.func17 rfl rfl (Nat.le_of_ble_eq_true rfl) fun C hC hCl hDs hGk => ?_
  have bad : ∀ {nd : Prop} {todo env objs o}, srun tab Tryd.f17.ntmps Tryd.f17.results.toList 2000 True todo env objs = .ret nd (vB false) o → nd → rightB n l = false → ASat Tryd.prog 17 Tryd.f17.ntmps C todo env objs (fun r o => r = vB (rightB n l)) := by
    intro nd todo env objs o h1 h2 h3
    exact sat_ret tabOk Tryd.func17 h1 h2 (by rw [h3])
  refine sat_branch tabOk Tryd.func17 rfl trivial (fun h1 => ?_) (fun h1 => ?_)
  · have h1 : n < 0 := by simpa using h1
    refine sat_branch tabOk Tryd.func17 rfl trivial (fun _ => ?_) (fun h => by cases h)
    refine sat_branch tabOk Tryd.func17 rfl trivial (fun _ => ?_) (fun h => by cases h)
    exact bad rfl trivial (by simp [rightB]; omega)
  have h1 : 0 ≤ n := by simpa using h1
  refine sat_branch tabOk Tryd.func17 rfl trivial (fun h2 => ?_) (fun h2 => ?_)
  · have h2 : 100000 < n := by simpa using h2
    refine sat_branch tabOk Tryd.func17 rfl trivial (fun _ => ?_) (fun h => by cases h)
    exact bad rfl trivial (by simp [rightB]; omega)
  have h2 : n ≤ 100000 := by simpa using h2
  refine sat_branch tabOk Tryd.func17 rfl trivial (fun h3 => ?_) (fun h3 => ?_)
  · have h3 : 20000 < l.length := by simp at h3; omega
    exact bad rfl trivial (by simp [rightB]; omega)
  have h3 : l.length ≤ 20000 := by simp at h3; omega
  have hR : rightB n l = l.all (clOk n) := by simp [rightB, h1, h2, h3]
  refine sat_stop tabOk Tryd.func17 rfl trivial ?_
  refine sat_while (α := Nat) (fun i => [(1, .ptr 0 0), (3, vI .i64 i)]) (fun _ => [some (.cells 24 [.d (eI n), .d (eIss l)])]) (fun i => i ≤ l.length ∧ rightB n l = (l.drop i).all (clOk n)) (fun i => l.length - i) 0 ⟨Nat.zero_le _, hR⟩ ?_ ?_
  · exact fun h => sat_le h hC hCl ⟨⟨_, rfl, .refl _⟩, ⟨_, rfl, .refl _⟩, trivial⟩ ⟨.refl _, trivial⟩ rfl rfl (Nat.zero_le _)
  rintro i ⟨hi, hc⟩ ih
  refine sat_branch tabOk Tryd.func17 rfl trivial (fun hb => ?_) (fun hb => ?_) <;> simp only [decide_eq_true_eq, decide_eq_false_iff_not, List.length_map] at hb
  · have hlt : i < l.length := by omega
    have hget : l.getD i [] = l[i] := by simp [hlt]
    have hcm := hcl _ (List.getElem_mem hlt)
    rw [List.drop_eq_getElem_cons hlt, List.all_cons] at hc
    generalize hx : l[i] = c at *
    refine sat_branch tabOk Tryd.func17 rfl ?_ (fun hb2 => ?_) (fun hb2 => ?_)
    · simp only [Int.toNat_natCast, List.length_map]; exact ⟨⟨by omega, by omega⟩, trivial⟩
    · have hb2 : 1000 < c.length := by rw [← hget]; simp at hb2; simp; omega
      exact bad rfl trivial (by rw [hc, clOk]; simp; intro h; omega)
    have hb2 : c.length ≤ 1000 := by rw [← hget]; simp at hb2; simp; omega
    refine sat_stop tabOk Tryd.func17 rfl trivial ?_
    refine sat_while (α := Nat) (fun k => [(1, .ptr 0 0), (3, vI .i64 i), (4, vI .i64 k)]) (fun _ => [some (.cells 24 [.d (eI n), .d (eIss l)])]) (fun k => k ≤ c.length ∧ rightB n l = ((c.drop k).all (fun x => decide (litOk n x)) && (l.drop (i + 1)).all (clOk n))) (fun k => c.length - k) 0 ⟨Nat.zero_le _, by rw [hc, clOk]; simp [hb2]⟩ ?_ ?_
    · exact fun h => sat_le h hC hCl ⟨⟨_, rfl, .refl _⟩, ⟨_, rfl, .refl _⟩, ⟨_, rfl, .refl _⟩, trivial⟩ ⟨.refl _, trivial⟩ rfl rfl (Nat.zero_le _)
    rintro k ⟨hk, hck⟩ ihk
    refine sat_branch tabOk Tryd.func17 rfl ?_ (fun hb => ?_) (fun hb => ?_)
    · simp only [Int.toNat_natCast, List.length_map]; exact ⟨⟨by omega, by omega⟩, trivial⟩
    · have hltk : k < c.length := by rw [← hget]; simp at hb; simp; omega
      have hgk : (l.getD i []).getD k 0 = c[k] := by rw [hget]; simp [hltk]
      rw [List.drop_eq_getElem_cons hltk, List.all_cons] at hck
      generalize hxx : c[k] = x at *
      refine sat_branch tabOk Tryd.func17 rfl ?_ (fun hb3 => ?_) (fun hb3 => ?_)
      · simp only [Int.toNat_natCast, List.length_map]
        rw [hget]
        exact ⟨⟨by omega, by omega⟩, ⟨by omega, by omega⟩, trivial⟩
      · have hb3 : x = 0 := by rw [← hgk]; simpa using hb3
        refine sat_branch tabOk Tryd.func17 rfl trivial (fun _ => ?_) (fun h => by cases h)
        refine sat_branch tabOk Tryd.func17 rfl trivial (fun _ => ?_) (fun h => by cases h)
        exact bad rfl trivial (by rw [hck]; simp [litOk, hb3])
      have hb3 : x ≠ 0 := by rw [← hgk]; simpa using hb3
      refine sat_branch tabOk Tryd.func17 rfl trivial (fun hb4 => ?_) (fun hb4 => ?_)
      · have hb4 : n < x := by rw [← hgk]; simpa using hb4
        refine sat_branch tabOk Tryd.func17 rfl trivial (fun _ => ?_) (fun h => by cases h)
        exact bad rfl trivial (by rw [hck, show decide (litOk n x) = false from decide_eq_false (fun hh => by obtain ⟨_, h7, h8⟩ := hh; omega)]; rfl)
      have hb4 : x ≤ n := by rw [← hgk]; simpa using hb4
      have w1 : IntKind.i64.wrap (0 - n) = -n := by rw [wrap_id (by omega) (by omega), Int.zero_sub]
      refine sat_branch tabOk Tryd.func17 rfl trivial (fun hb5 => ?_) (fun hb5 => ?_)
      · have hb5 : x < -n := by rw [w1] at hb5; rw [← hgk]; simpa using hb5
        exact bad rfl trivial (by rw [hck, show decide (litOk n x) = false from decide_eq_false (fun hh => by obtain ⟨_, h7, h8⟩ := hh; omega)]; rfl)
      have hb5 : -n ≤ x := by rw [w1] at hb5; rw [← hgk]; simpa using hb5
      refine sat_stop tabOk Tryd.func17 rfl trivial ?_
      refine sat_le (ihk (k + 1) ⟨by omega, ?_⟩ (by omega)) hC hCl ⟨⟨_, rfl, .refl _⟩, ⟨_, rfl, .refl _⟩, ⟨_, rfl, .of (by rw [wrap_id (by omega) (by omega)]; rfl)⟩, trivial⟩ ⟨.refl _, trivial⟩ rfl rfl (Nat.zero_le _)
      rw [hck]
      simp [litOk, hb3, hb4, hb5]
    · have hkc : k = c.length := by
        have : ¬ (k : Int) < (l.getD i []).length := by simpa using hb
        rw [hget] at this
        omega
      subst hkc
      rw [List.drop_length] at hck
      refine sat_stop tabOk Tryd.func17 rfl trivial ?_
      refine sat_le (ih (i + 1) ⟨by omega, by simpa using hck⟩ (by omega)) hC hCl ⟨⟨_, rfl, .refl _⟩, ⟨_, rfl, .of (by rw [wrap_id (by omega) (by omega)]; rfl)⟩, trivial⟩ ⟨.refl _, trivial⟩ rfl rfl (Nat.zero_le _)
  · obtain rfl : i = l.length := by omega
    rw [List.drop_length] at hc
    refine sat_ret tabOk Tryd.func17 rfl trivial ?_
    show vB true = vB _
    rw [hc]
    rfl
end Go.Proofs.YtffomfbbplpljaaDoor
namespace Go.Proofs.YtffomfbbplpljaaDoor
open Go Ab
set_option maxRecDepth 100000
set_option linter.unusedVariables false
set_option linter.unusedSimpArgs false

theorem negs_set (c : List Int) (i : Nat) (hi : i < c.length) : ((c.take i).map (fun x => -x) ++ List.replicate (c.length - i) 0).set i (-c[i]) = (c.take (i + 1)).map (fun x => -x) ++ List.replicate (c.length - (i + 1)) 0 := by
  apply List.ext_getElem?
  intro j
  have hl : ((c.take i).map (fun x => -x)).length = i := by simp; omega
  have hl1 : ((c.take (i + 1)).map (fun x => -x)).length = i + 1 := by simp; omega
  rw [List.getElem?_set]
  by_cases e : i = j
  · subst e
    rw [if_pos rfl, if_pos (by simp; omega), List.getElem?_append_left (by omega)]
    simp [hi]
  · rw [if_neg e]
    rcases Nat.lt_or_ge j i with h | h
    · rw [List.getElem?_append_left (by omega), List.getElem?_append_left (by omega)]
      simp [List.getElem?_take, h, Nat.lt_succ_of_lt h]
    · rw [List.getElem?_append_right (by omega), List.getElem?_append_right (by omega), hl, hl1]
      rw [List.getElem?_replicate, List.getElem?_replicate]
      by_cases h2 : j < c.length
      · rw [if_pos (by omega), if_pos (by omega)]
      · rw [if_neg (by omega), if_neg (by omega)]

theorem litOk_neg {n x : Int} (h : litOk n x) : litOk n (-x) := by unfold litOk at *; omega

theorem Refutes_call (n : Int) (l : List (List Int)) (c : List Int) (hn : 0 ≤ n ∧ n ≤ 100000) (hl : ∀ c ∈ l, ∀ x ∈ c, litOk n x) (hc : ∀ x ∈ c, litOk n x) (hb : lits l ≤ 1000000) (hcl : c.length ≤ 1000000) :
    ACall Tryd.prog 88 [vI .i64 n, .d (eIss l), .d (eIs c)] [] (fun r o => ∃ s, CloseRel n l (c.map fun x => -x) s ∧ WkV n s ∧ r = vB s.clash) := by
  refine acall_enter Tryd.func88 rfl rfl (Nat.le_of_ble_eq_true rfl) fun C hC hCl hDs hGk => ?_
  refine sat_stop tabOk Tryd.func88 rfl ?_ ?_
  · refine ⟨?_, trivial⟩
    rw [List.length_map]
    refine ⟨by omega, Int.le_refl _, ?_⟩
    show (c.length : Int) * (8 : Int) ≤ _
    omega
  refine sat_while (α := Nat) (fun i => [(0, vI .i64 n), (1, .d (eIss l)), (2, .d (eIs c)), (7, .gs 0), (15, .d (eIs c)), (16, vI .i64 c.length), (17, vI .i64 i)]) (fun i => [some (gIs ((c.take i).map (fun x => -x) ++ List.replicate (c.length - i) 0))]) (fun i => i ≤ c.length) (fun i => c.length - i) 0 (Nat.zero_le _) ?_ ?_
  · refine fun h => sat_le h hC hCl ?_ ⟨.gL ?_, trivial⟩ rfl rfl (Nat.zero_le _)
    · exact ⟨⟨_, rfl, .refl _⟩, ⟨_, rfl, .refl _⟩, ⟨_, rfl, .refl _⟩, ⟨_, rfl, .refl _⟩, ⟨_, rfl, .refl _⟩, ⟨_, rfl, .of (by rw [List.length_map])⟩, ⟨_, rfl, .refl _⟩, trivial⟩
    · simp only [List.take_zero, List.map_nil, List.nil_append, List.length_map, Int.toNat_natCast, Nat.sub_zero, List.map_replicate]
      rfl
  · rintro i hi ih
    refine sat_branch tabOk Tryd.func88 rfl trivial (fun hbr => ?_) (fun hbr => ?_) <;> simp only [decide_eq_true_eq, decide_eq_false_iff_not] at hbr
    · have hlt : i < c.length := by omega
      have hget : c.getD i 0 = c[i] := by simp [hlt]
      have hx := hc _ (List.getElem_mem hlt)
      obtain ⟨x0, x1, x2⟩ := hx
      have w1 : IntKind.i64.wrap (0 - c.getD i 0) = -c[i] := by rw [hget, wrap_id (by omega) (by omega), Int.zero_sub]
      refine sat_stop tabOk Tryd.func88 rfl ?_ ?_
      · simp only [andP, Int.toNat_natCast, List.length_map, List.length_append, List.length_replicate, List.length_take]
        exact ⟨by omega, ⟨by omega, by omega⟩, ⟨by omega, by omega⟩, trivial⟩
      refine sat_le (ih (i + 1) (by omega) (by omega)) hC hCl ?_ ⟨.gL ?_, trivial⟩ rfl rfl (Nat.zero_le _)
      · exact ⟨⟨_, rfl, .refl _⟩, ⟨_, rfl, .refl _⟩, ⟨_, rfl, .refl _⟩, ⟨_, rfl, .refl _⟩, ⟨_, rfl, .refl _⟩, ⟨_, rfl, .refl _⟩, ⟨_, rfl, .of (by rw [wrap_id (by omega) (by omega)]; rfl)⟩, trivial⟩
      · rw [← negs_set c i hlt, List.map_set, ← w1]
        rfl
    · obtain rfl : i = c.length := by omega
      refine sat_freeze 0 rfl ?_
      have e1 : (c.take c.length).map (fun x => -x) ++ List.replicate (c.length - c.length) 0 = c.map fun x => -x := by simp
      rw [e1]
      refine sat_call tabOk Tryd.func88 rfl trivial (Close_call n l (c.map fun x => -x) hn hl (by intro x hx; obtain ⟨y, hy, rfl⟩ := List.mem_map.1 hx; exact litOk_neg (hc y hy)) hb delOk) (.refl _) rfl ⟨_, rfl⟩ ?_ ?_
      · rintro r o ⟨s, _, _, rfl⟩
        unfold closeEnd
        split <;> rfl
      · rintro r o ⟨s, h1, h2, rfl⟩
        cases hcl : s.clash with
        | true =>
          have : closeEnd s = .tp [.d (.v (.slice none 0 0)), vB true] := by simp [closeEnd, hcl]
          rw [this]
          exact sat_ret tabOk Tryd.func88 rfl trivial ⟨s, h1, h2, by rw [hcl]; rfl⟩
        | false =>
          have : closeEnd s = .tp [.d (eIs (s.forced.filter (· ≠ 0))), vB false] := by simp [closeEnd, hcl]
          rw [this]
          exact sat_ret tabOk Tryd.func88 rfl trivial ⟨s, h1, h2, by rw [hcl]; rfl⟩
end Go.Proofs.YtffomfbbplpljaaDoor
namespace Go.Proofs.YtffomfbbplpljaaDoor
open Go Ab
set_option maxRecDepth 100000
set_option linter.unusedVariables false
set_option linter.unusedSimpArgs false

/-! ### The steps, one by one -/
end Go.Proofs.YtffomfbbplpljaaDoor
namespace Go.Proofs.YtffomfbbplpljaaDoor
open Go Ab Go.Lib
set_option linter.unusedVariables false
set_option linter.unusedSimpArgs false

end Go.Proofs.YtffomfbbplpljaaDoor
namespace Go.Proofs.YtffomfbbplpljaaDoor
open Go Ab
set_option linter.unusedVariables false
set_option linter.unusedSimpArgs false

/-! ### What is forced, by definition -/
inductive Fo (l : List (List Int)) (a : List Int) : Int → Prop
  | mem {x : Int} (h : x ∈ a) : Fo l a x
  | unit {c : List Int} {x : Int} (hc : c ∈ l) (hx : x ∈ c) (h : ∀ y ∈ c, y ≠ x → Fo l a (-y)) : Fo l a x
def Cf (l : List (List Int)) (a : List Int) : Prop := (∃ x, Fo l a x ∧ Fo l a (-x)) ∨ ∃ c ∈ l, ∀ y ∈ c, Fo l a (-y)

theorem va_neg (x : Int) : va (-x) = va x := by unfold va; congr 1; omega
theorem va_eq {x y : Int} (h : va x = va y) : x = y ∨ x = -y := by unfold va at h; omega

/-- What stands is right: each entry at its own place, each forced. -/
structure Snd (l : List (List Int)) (a : List Int) (n : Int) (s : Wk) : Prop where
  v : WkV n s
  at_ : ∀ i, i < s.forced.length → s.forced.getD i 0 ≠ 0 → va (s.forced.getD i 0) = i ∧ Fo l a (s.forced.getD i 0) ∧ litOk n (s.forced.getD i 0)
  cl : s.clash = true → Cf l a
theorem getD_set (l : List Int) (i j : Nat) (x : Int) (hi : i < l.length) : (l.set i x).getD j 0 = if i = j then x else l.getD j 0 := by
  by_cases h : i = j
  · subst h; simp [List.getD_eq_getElem?_getD, hi]
  · simp [List.getD_eq_getElem?_getD, List.getElem?_set, h]
theorem force_snd {l : List (List Int)} {a : List Int} {n x : Int} {s : Wk} (h : Snd l a n s) (hx : litOk n x) (hf : Fo l a x) : Snd l a n (forceW s x) := by
  have hlt : va x < s.forced.length := by rw [h.v.len]; exact va_lt hx
  refine ⟨forceW_V hx h.v, ?_, ?_⟩
  · unfold forceW
    split
    · exact h.at_
    · split
      · intro i hi hne
        simp only [List.length_set] at hi
        simp only [getD_set _ _ _ _ hlt] at hne ⊢
        split at hne
        · rename_i e
          rw [if_pos e]
          exact ⟨e, hf, hx⟩
        · rename_i e
          rw [if_neg e]
          exact h.at_ i hi hne
      · exact h.at_
  · unfold forceW
    split
    · exact h.cl
    · split
      · exact h.cl
      · rename_i h1 h2
        intro _
        obtain ⟨e1, e2, e3⟩ := h.at_ _ hlt h2
        rcases va_eq e1 with e | e
        · exact absurd e h1
        · exact .inl ⟨x, hf, by rw [← e]; exact e2⟩

theorem scan_spec (f : List Int) : ∀ (r : List Int) (only o : Int), (∀ y ∈ r, y ≠ 0) → scanW f only r = some o → (∀ y ∈ r, f.getD (va y) 0 = -y ∨ y = o) ∧ (only ≠ 0 → o = only) ∧ (o = only ∨ o ∈ r)
  | [], only, o, _, h => by
    simp only [scanW, Option.some.injEq] at h
    subst h
    exact ⟨by simp, fun _ => rfl, .inl rfl⟩
  | x :: r, only, o, h0, h => by
    simp only [scanW] at h
    split at h
    · cases h
    · split at h
      · rename_i hx
        obtain ⟨a1, a2, a3⟩ := scan_spec f r only o (fun y hy => h0 y (List.mem_cons_of_mem _ hy)) h
        refine ⟨fun y hy => ?_, a2, a3.imp id (List.mem_cons_of_mem _)⟩
        rcases List.mem_cons.1 hy with rfl | hy
        · exact .inl hx
        · exact a1 y hy
      · split at h
        · cases h
        · rename_i hno
          obtain ⟨a1, a2, a3⟩ := scan_spec f r x o (fun y hy => h0 y (List.mem_cons_of_mem _ hy)) h
          have hox : o = x := a2 (h0 x List.mem_cons_self)
          refine ⟨fun y hy => ?_, fun hne => ?_, .inr (by rw [hox]; exact List.mem_cons_self)⟩
          · rcases List.mem_cons.1 hy with rfl | hy
            · exact .inr hox.symm
            · exact a1 y hy
          · have : only = x := Decidable.not_not.1 fun hh => hno ⟨hne, hh⟩
            rw [hox, this]

theorem Snd.neg {l : List (List Int)} {a : List Int} {n : Int} {s : Wk} (h : Snd l a n s) {y : Int} (hy : litOk n y) (hf : s.forced.getD (va y) 0 = -y) : Fo l a (-y) := by
  have hlt : va y < s.forced.length := by rw [h.v.len]; exact va_lt hy
  have hne : s.forced.getD (va y) 0 ≠ 0 := by rw [hf]; have := hy.1; omega
  have := (h.at_ _ hlt hne).2.1
  rwa [hf] at this
theorem look_snd {l : List (List Int)} {a : List Int} {n : Int} {s : Wk} {c : List Int} (h : Snd l a n s) (hc : c ∈ l) (hx : ∀ x ∈ c, litOk n x) : Snd l a n (lookW s c) := by
  refine ⟨lookW_V hx h.v, ?_, ?_⟩ <;> unfold lookW
  all_goals
    split
    · first | exact h.at_ | exact h.cl
    · rename_i only ho
      obtain ⟨a1, a2, a3⟩ := scan_spec s.forced c 0 only (fun y hy => (hx y hy).1) ho
      split
      · rename_i h0
        first
        | exact h.at_
        | exact fun _ => .inr ⟨c, hc, fun y hy => h.neg (hx y hy) ((a1 y hy).resolve_right (by rw [h0]; exact (hx y hy).1))⟩
      · rename_i h0
        have hm : only ∈ c := a3.resolve_left h0
        have hfo : Fo l a only := .unit hc hm fun y hy hne => h.neg (hx y hy) ((a1 y hy).resolve_right hne)
        first
        | exact (force_snd h (hx only hm) hfo).at_
        | exact (force_snd h (hx only hm) hfo).cl

theorem foldl_inv {α β : Type} (I : β → Prop) (f : β → α → β) : ∀ (r : List α) (b : β), I b → (∀ b a, a ∈ r → I b → I (f b a)) → I (r.foldl f b)
  | [], b, h, _ => h
  | a :: r, b, h, hs => foldl_inv I f r (f b a) (hs b a List.mem_cons_self h) fun b' a' ha hb => hs b' a' (List.mem_cons_of_mem _ ha) hb

structure Okl (n : Int) (l : List (List Int)) (a : List Int) : Prop where
  n0 : 0 ≤ n
  cl : ∀ c ∈ l, ∀ x ∈ c, litOk n x
  asm : ∀ x ∈ a, litOk n x

theorem at_mem {l : List (List Int)} {i : Int} {x : Int} (h : i ∈ gget x (gatherL l 0 [])) : l.getD i.toNat [] ∈ l ∧ -x ∈ l.getD i.toNat [] := by
  rw [gget_gatherL, gget, List.nil_append] at h
  obtain ⟨j, h1, h2, h3⟩ := idxs_mem.1 h
  have : i.toNat = j := by omega
  rw [this]
  refine ⟨?_, h3⟩
  simp [h1]

theorem first_snd {n : Int} {l : List (List Int)} {a : List Int} (h : Okl n l a) : Snd l a n (firstW n l a) := by
  unfold firstW
  refine foldl_inv (Snd l a n) lookW l _ ?_ fun s c hc hs => look_snd hs hc (h.cl c hc)
  refine foldl_inv (Snd l a n) forceW a _ ?_ fun s x hx hs => force_snd hs (h.asm x hx) (.mem hx)
  refine ⟨⟨by simp, by simp⟩, fun i hi hne => ?_, fun h => by cases h⟩
  exact absurd (by simp only [List.length_replicate] at hi; simp only [List.getD_eq_getElem?_getD, List.getElem?_replicate]; split <;> rfl) hne
theorem pop_snd {n : Int} {l : List (List Int)} {a : List Int} (h : Okl n l a) {s : Wk} {x : Int} {q : List Int} (hs : Snd l a n s) (hq : s.queue = x :: q) : Snd l a n (popW l (gatherL l 0 []) s x q) := by
  unfold popW
  refine foldl_inv (Snd l a n) (lookAt l) _ _ ?_ fun t i hi ht => look_snd ht (at_mem hi).1 (h.cl _ (at_mem hi).1)
  refine ⟨⟨hs.v.len, ?_⟩, hs.at_, hs.cl⟩
  have := hs.v.sz
  rw [hq] at this
  simp only [List.length_cons] at this
  simp only
  omega
theorem close_snd {n : Int} {l : List (List Int)} {a : List Int} {s : Wk} (h : Okl n l a) (hr : CloseRel n l a s) : Snd l a n s := by
  have : ∀ {t}, Star l (gatherL l 0 []) (firstW n l a) t → Snd l a n t := by
    intro t ht
    induction ht with
    | refl => exact first_snd h
    | step _ hc hq ih => exact pop_snd h ih hq
  exact this hr.1
end Go.Proofs.YtffomfbbplpljaaDoor
namespace Go.Proofs.YtffomfbbplpljaaDoor
open Go Ab
set_option linter.unusedVariables false
set_option linter.unusedSimpArgs false

/-! ### All that is forced is found -/
def Fine (f : List Int) (c : List Int) : Prop := (∃ y ∈ c, f.getD (va y) 0 = y) ∨ ∃ y ∈ c, ∃ z ∈ c, y ≠ z ∧ f.getD (va y) 0 ≠ -y ∧ f.getD (va z) 0 ≠ -z
def Pd (s : Wk) (c : List Int) : Prop := ∃ y ∈ c, -y ∈ s.queue
def J (l : List (List Int)) (s : Wk) (rest : List (List Int)) : Prop := s.clash = true ∨ ∀ c ∈ l, Fine s.forced c ∨ Pd s c ∨ c ∈ rest

theorem scan_none (f : List Int) : ∀ (r : List Int) (only : Int), (∀ y ∈ r, y ≠ 0) → scanW f only r = none → (∃ y ∈ r, f.getD (va y) 0 = y) ∨ (only ≠ 0 ∧ ∃ z ∈ r, only ≠ z ∧ f.getD (va z) 0 ≠ -z) ∨ ∃ y ∈ r, ∃ z ∈ r, y ≠ z ∧ f.getD (va y) 0 ≠ -y ∧ f.getD (va z) 0 ≠ -z
  | [], only, _, h => by simp [scanW] at h
  | x :: r, only, h0, h => by
    have hr := fun y hy => h0 y (List.mem_cons_of_mem x hy)
    have up : ∀ {p : Int → Prop}, (∃ y ∈ r, p y) → ∃ y ∈ x :: r, p y := fun ⟨y, hy, hp⟩ => ⟨y, List.mem_cons_of_mem _ hy, hp⟩
    simp only [scanW] at h
    split at h
    · rename_i hx
      exact .inl ⟨x, List.mem_cons_self, hx⟩
    · split at h
      · rcases scan_none f r only hr h with h | ⟨h1, h2⟩ | ⟨y, hy, z, hz, h2⟩
        · exact .inl (up h)
        · exact .inr (.inl ⟨h1, up h2⟩)
        · exact .inr (.inr ⟨y, List.mem_cons_of_mem _ hy, z, List.mem_cons_of_mem _ hz, h2⟩)
      · rename_i hnx
        split at h
        · rename_i hh
          exact .inr (.inl ⟨hh.1, x, List.mem_cons_self, hh.2, hnx⟩)
        · rcases scan_none f r x hr h with h | ⟨h1, z, hz, h3, h4⟩ | ⟨y, hy, z, hz, h2⟩
          · exact .inl (up h)
          · exact .inr (.inr ⟨x, List.mem_cons_self, z, List.mem_cons_of_mem _ hz, h3, hnx, h4⟩)
          · exact .inr (.inr ⟨y, List.mem_cons_of_mem _ hy, z, List.mem_cons_of_mem _ hz, h2⟩)
theorem scan_fine {f c : List Int} (h0 : ∀ y ∈ c, y ≠ 0) (h : scanW f 0 c = none) : Fine f c := by
  rcases scan_none f c 0 h0 h with h | ⟨h1, _⟩ | h
  · exact .inl h
  · exact absurd rfl h1
  · exact .inr h

theorem force_clash {s : Wk} {x : Int} (h : s.clash = true) : (forceW s x).clash = true := by
  unfold forceW
  split
  · exact h
  · split
    · exact h
    · rfl
theorem look_clash {s : Wk} {c : List Int} (h : s.clash = true) : (lookW s c).clash = true := by
  unfold lookW
  split
  · exact h
  · split
    · rfl
    · exact force_clash h
/-- What is forced stays. -/
def Grows (f g : List Int) : Prop := ∀ i, f.getD i 0 ≠ 0 → g.getD i 0 = f.getD i 0
theorem force_grows {s : Wk} {x : Int} (hlt : va x < s.forced.length) : Grows s.forced (forceW s x).forced := by
  intro i hi
  unfold forceW
  split
  · rfl
  · split
    · rename_i h2
      simp only [getD_set _ _ _ _ hlt]
      rw [if_neg (fun e => by subst e; exact hi h2)]
    · rfl
theorem force_at {s : Wk} {x : Int} (hlt : va x < s.forced.length) (hc : (forceW s x).clash = false) : (forceW s x).forced.getD (va x) 0 = x := by
  unfold forceW at hc ⊢
  split
  · assumption
  · rename_i h1
    rw [if_neg h1] at hc
    split
    · simp only [getD_set _ _ _ _ hlt, if_true]
    · rename_i h2
      rw [if_neg h2] at hc
      cases hc
theorem force_J {l rest : List (List Int)} {n x : Int} {s : Wk} (hl : ∀ c ∈ l, ∀ y ∈ c, litOk n y) (hv : WkV n s) (hx : litOk n x) (h : J l s rest) : J l (forceW s x) rest := by
  rcases h with h | h
  · exact .inl (force_clash h)
  have hlt : va x < s.forced.length := by rw [hv.len]; exact va_lt hx
  unfold forceW
  split
  · exact .inr h
  · split
    · rename_i h1 h2
      refine .inr fun c hc => ?_
      rcases h c hc with h | ⟨y, hy, hq⟩ | h
      · rcases h with ⟨y, hy, hf⟩ | ⟨y, hy, z, hz, hne, hfy, hfz⟩
        · refine .inl (.inl ⟨y, hy, ?_⟩)
          simp only [getD_set _ _ _ _ hlt]
          rw [if_neg ?_]
          · exact hf
          · intro e
            rw [← e, h2] at hf
            exact (hl c hc y hy).1 hf.symm
        · by_cases e1 : x = -y
          · exact .inr (.inl ⟨y, hy, by rw [← e1]; simp⟩)
          · by_cases e2 : x = -z
            · exact .inr (.inl ⟨z, hz, by rw [← e2]; simp⟩)
            · refine .inl (.inr ⟨y, hy, z, hz, hne, ?_, ?_⟩)
              · simp only [getD_set _ _ _ _ hlt]
                split
                · exact e1
                · exact hfy
              · simp only [getD_set _ _ _ _ hlt]
                split
                · exact e2
                · exact hfz
      · exact .inr (.inl ⟨y, hy, List.mem_append_left _ hq⟩)
      · exact .inr (.inr h)
    · exact .inl rfl
theorem look_J {l rest : List (List Int)} {n : Int} {s : Wk} {c : List Int} (hl : ∀ c ∈ l, ∀ y ∈ c, litOk n y) (hv : WkV n s) (hcl : c ∈ l) (h : J l s (c :: rest)) : J l (lookW s c) rest := by
  rcases h with h | h
  · exact .inl (look_clash h)
  have hc0 := hl c hcl
  unfold lookW
  split
  · rename_i hs
    refine .inr fun d hd => ?_
    rcases h d hd with h | h | h
    · exact .inl h
    · exact .inr (.inl h)
    · rcases List.mem_cons.1 h with rfl | h
      · exact .inl (scan_fine (fun y hy => (hc0 y hy).1) hs)
      · exact .inr (.inr h)
  · rename_i only ho
    split
    · exact .inl rfl
    · rename_i hne
      obtain ⟨a1, a2, a3⟩ := scan_spec s.forced c 0 only (fun y hy => (hc0 y hy).1) ho
      have hm : only ∈ c := a3.resolve_left hne
      have hj := force_J hl hv (hc0 only hm) (.inr h : J l s (c :: rest))
      rcases hj with hj | hj
      · exact .inl hj
      · cases hcf : (forceW s only).clash with
        | true => exact .inl hcf
        | false =>
          refine .inr fun d hd => ?_
          rcases hj d hd with h | h | h
          · exact .inl h
          · exact .inr (.inl h)
          · rcases List.mem_cons.1 h with rfl | h
            · exact .inl (.inl ⟨only, hm, force_at (by rw [hv.len]; exact va_lt (hc0 only hm)) hcf⟩)
            · exact .inr (.inr h)

theorem foldl_J {l : List (List Int)} {n : Int} (hl : ∀ c ∈ l, ∀ y ∈ c, litOk n y) : ∀ (r : List (List Int)) (s : Wk), (∀ c ∈ r, c ∈ l) → WkV n s → J l s r → J l (r.foldl lookW s) []
  | [], s, _, _, h => h
  | c :: r, s, hr, hv, h => foldl_J hl r (lookW s c) (fun d hd => hr d (List.mem_cons_of_mem _ hd)) (lookW_V (hl c (hr c List.mem_cons_self)) hv) (look_J hl hv (hr c List.mem_cons_self) h)
theorem popW_eq (l : List (List Int)) (G : List (Int × List Int)) (s : Wk) (x : Int) (q : List Int) : popW l G s x q = ((gget x G).map fun i => l.getD i.toNat []).foldl lookW ⟨s.forced, q, s.clash⟩ := by
  rw [popW, List.foldl_map]
  rfl
theorem first_J {n : Int} {l : List (List Int)} {a : List Int} (h : Okl n l a) : J l (firstW n l a) [] := by
  unfold firstW
  refine foldl_J h.cl l _ (fun c hc => hc) ?_ (.inr fun c hc => .inr (.inr hc))
  exact foldl_inv (WkV n) forceW a _ ⟨by simp, by simp⟩ fun s x hx hs => forceW_V (h.asm x hx) hs
theorem pop_J {n : Int} {l : List (List Int)} {a : List Int} (h : Okl n l a) {s : Wk} {x : Int} {q : List Int} (hv : WkV n s) (hj : J l s []) (hq : s.queue = x :: q) : J l (popW l (gatherL l 0 []) s x q) [] := by
  rw [popW_eq]
  refine foldl_J h.cl _ _ (fun c hc => ?_) ⟨hv.len, ?_⟩ ?_
  · obtain ⟨i, hi, rfl⟩ := List.mem_map.1 hc
    exact (at_mem hi).1
  · have := hv.sz
    rw [hq] at this
    simp only [List.length_cons] at this
    simp only
    omega
  · rcases hj with hj | hj
    · exact .inl hj
    · refine .inr fun c hc => ?_
      rcases hj c hc with h1 | ⟨y, hy, hm⟩ | h1
      · exact .inl h1
      · rw [hq] at hm
        rcases List.mem_cons.1 hm with e | hm
        · refine .inr (.inr (List.mem_map.2 ?_))
          obtain ⟨j, hj1, hj2⟩ := List.mem_iff_getElem.1 hc
          refine ⟨(j : Int), ?_, by simp [hj1, hj2]⟩
          rw [gget_gatherL, gget, List.nil_append]
          refine idxs_mem.2 ⟨j, hj1, by simp, ?_⟩
          have : -x = y := by omega
          rw [this]
          simpa [hj1, hj2] using hy
        · exact .inr (.inl ⟨y, hy, hm⟩)
      · simp at h1
theorem close_J {n : Int} {l : List (List Int)} {a : List Int} {s : Wk} (h : Okl n l a) (hr : CloseRel n l a s) : J l s [] := by
  have : ∀ {t}, Star l (gatherL l 0 []) (firstW n l a) t → J l t [] ∧ WkV n t := by
    intro t ht
    induction ht with
    | refl => exact ⟨first_J h, (first_snd h).v⟩
    | step hst hc hq ih => exact ⟨pop_J h ih.2 ih.1 hq, (pop_snd h (by
        have : ∀ {t}, Star l (gatherL l 0 []) (firstW n l a) t → Snd l a n t := by
          intro t ht
          induction ht with
          | refl => exact first_snd h
          | step _ hc hq ih => exact pop_snd h ih hq
        exact this hst) hq).v⟩
  exact (this hr.1).1
end Go.Proofs.YtffomfbbplpljaaDoor
namespace Go.Proofs.YtffomfbbplpljaaDoor
open Go Ab
set_option linter.unusedVariables false
set_option linter.unusedSimpArgs false

/-- What is told stays told. -/
def Kp (x : Int) (s : Wk) : Prop := s.clash = true ∨ s.forced.getD (va x) 0 = x
theorem kp_force {n x y : Int} {s : Wk} (hv : WkV n s) (hy : litOk n y) (hx : x ≠ 0) (h : Kp x s) : Kp x (forceW s y) := by
  rcases h with h | h
  · exact .inl (force_clash h)
  · exact .inr (by rw [force_grows (by rw [hv.len]; exact va_lt hy) _ (by rw [h]; exact hx)]; exact h)
theorem kp_look {n x : Int} {s : Wk} {c : List Int} (hv : WkV n s) (hc : ∀ y ∈ c, litOk n y) (hx : x ≠ 0) (h : Kp x s) : Kp x (lookW s c) := by
  unfold lookW
  split
  · exact h
  · rename_i only ho
    split
    · exact .inl rfl
    · rename_i hne
      exact kp_force hv (hc only ((scan_spec s.forced c 0 only (fun y hy => (hc y hy).1) ho).2.2.resolve_left hne)) hx h
theorem kp_first {n : Int} {l : List (List Int)} {a : List Int} (h : Okl n l a) {x : Int} (hx : x ∈ a) : Kp x (firstW n l a) := by
  have hx0 := (h.asm x hx).1
  have key : ∀ (r : List Int) (s : Wk), WkV n s → (∀ y ∈ r, litOk n y) → (x ∈ r ∨ Kp x s) → Kp x (r.foldl forceW s) := by
    intro r
    induction r with
    | nil => intro s _ _ h; exact h.resolve_left (by simp)
    | cons y r ih =>
      intro s hv hr h
      have hy := hr y List.mem_cons_self
      refine ih _ (forceW_V hy hv) (fun z hz => hr z (List.mem_cons_of_mem _ hz)) ?_
      rcases h with h | h
      · rcases List.mem_cons.1 h with rfl | h
        · right
          cases hc : (forceW s x).clash with
          | true => exact .inl hc
          | false => exact .inr (force_at (by rw [hv.len]; exact va_lt hy) hc)
        · exact .inl h
      · exact .inr (kp_force hv hy hx0 h)
  unfold firstW
  have h1 := key a ⟨List.replicate (n + 1).toNat 0, [], false⟩ ⟨by simp, by simp⟩ h.asm (.inl hx)
  have h2 : WkV n (a.foldl forceW ⟨List.replicate (n + 1).toNat 0, [], false⟩) := foldl_inv (WkV n) forceW a _ ⟨by simp, by simp⟩ fun s x hx hs => forceW_V (h.asm x hx) hs
  exact (foldl_inv (fun s => WkV n s ∧ Kp x s) lookW l _ ⟨h2, h1⟩ fun s c hc hs => ⟨lookW_V (h.cl c hc) hs.1, kp_look hs.1 (h.cl c hc) hx0 hs.2⟩).2
theorem kp_star {n : Int} {l : List (List Int)} {a : List Int} (h : Okl n l a) {x : Int} (hx : x ∈ a) {t : Wk} (ht : Star l (gatherL l 0 []) (firstW n l a) t) : Snd l a n t ∧ Kp x t := by
  have hx0 := (h.asm x hx).1
  induction ht with
  | refl => exact ⟨first_snd h, kp_first h hx⟩
  | step _ hc hq ih =>
    refine ⟨pop_snd h ih.1 hq, ?_⟩
    rename_i t y q _
    have hv1 : WkV n ⟨t.forced, q, t.clash⟩ := ⟨ih.1.v.len, by
      have := ih.1.v.sz
      rw [hq] at this
      simp only [List.length_cons] at this
      simp only
      omega⟩
    rw [popW_eq]
    refine (foldl_inv (fun s => WkV n s ∧ Kp x s) lookW _ _ ⟨hv1, ih.2⟩ fun s c hc hs => ?_).2
    obtain ⟨i, hi, rfl⟩ := List.mem_map.1 hc
    have hcl := h.cl _ (at_mem hi).1
    exact ⟨lookW_V hcl hs.1, kp_look hs.1 hcl hx0 hs.2⟩

theorem fo_lit {n : Int} {l : List (List Int)} {a : List Int} (h : Okl n l a) {x : Int} (hf : Fo l a x) : litOk n x := by
  cases hf with
  | mem hx => exact h.asm x hx
  | unit hc hx _ => exact h.cl _ hc x hx

theorem close_fo {n : Int} {l : List (List Int)} {a : List Int} {s : Wk} (h : Okl n l a) (hr : CloseRel n l a s) (hc : s.clash = false) {x : Int} (hf : Fo l a x) : s.forced.getD (va x) 0 = x := by
  have hj : ∀ c ∈ l, Fine s.forced c := by
    intro c hcl
    rcases close_J h hr with hj | hj
    · rw [hc] at hj; cases hj
    · rcases hj c hcl with h1 | ⟨y, _, hq⟩ | h1
      · exact h1
      · rcases hr.2 with e | e
        · rw [e] at hq; simp at hq
        · rw [hc] at e; cases e
      · simp at h1
  induction hf with
  | mem hx =>
    rcases (kp_star h hx hr.1).2 with e | e
    · rw [hc] at e; cases e
    · exact e
  | unit hcl hx _ ih =>
    rename_i c x hrest
    have hneg : ∀ y ∈ c, y ≠ x → s.forced.getD (va y) 0 = -y := fun y hy hne => by rw [← va_neg]; exact ih y hy hne
    rcases hj c hcl with ⟨y, hy, he⟩ | ⟨y, hy, z, hz, hne, h1, h2⟩
    · by_cases e : y = x
      · rw [← e]; exact he
      · have := hneg y hy e
        have := (h.cl c hcl y hy).1
        omega
    · by_cases e : y = x
      · exact absurd (hneg z hz (fun e2 => hne (e.trans e2.symm))) h2
      · exact absurd (hneg y hy e) h1

theorem close_cf {n : Int} {l : List (List Int)} {a : List Int} {s : Wk} (h : Okl n l a) (hr : CloseRel n l a s) : s.clash = true ↔ Cf l a := by
  constructor
  · exact (close_snd h hr).cl
  · intro hcf
    cases hc : s.clash with
    | true => rfl
    | false =>
      exfalso
      rcases hcf with ⟨x, h1, h2⟩ | ⟨c, hcl, hall⟩
      · have e1 := close_fo h hr hc h1
        have e2 := close_fo h hr hc h2
        rw [va_neg, e1] at e2
        have := (fo_lit h h1).1
        omega
      · have hneg : ∀ y ∈ c, s.forced.getD (va y) 0 = -y := fun y hy => by rw [← va_neg]; exact close_fo h hr hc (hall y hy)
        rcases close_J h hr with hj | hj
        · rw [hc] at hj; cases hj
        · rcases hj c hcl with h1 | ⟨y, _, hq⟩ | h1
          · rcases h1 with ⟨y, hy, he⟩ | ⟨y, hy, z, hz, hne, h1, h2⟩
            · have := hneg y hy
              have := (h.cl c hcl y hy).1
              omega
            · exact h1 (hneg y hy)
          · rcases hr.2 with e | e
            · rw [e] at hq; simp at hq
            · rw [hc] at e; cases e
          · simp at h1
end Go.Proofs.YtffomfbbplpljaaDoor
namespace Go.Proofs.YtffomfbbplpljaaDoor
open Go Ab
set_option maxRecDepth 100000
set_option linter.unusedVariables false
set_option linter.unusedSimpArgs false

theorem okl_neg {n : Int} {l : List (List Int)} {c : List Int} (h : Okl n l c) : Okl n l (c.map fun x => -x) :=
  ⟨h.n0, h.cl, fun x hx => by obtain ⟨y, hy, rfl⟩ := List.mem_map.1 hx; exact litOk_neg (h.asm y hy)⟩
def refR (l : List (List Int)) (c : List Int) (r : AV) (_ : List (Option AObj)) : Prop := ∃ b, r = vB b ∧ (b = true ↔ Cf l (c.map fun x => -x))
theorem refutes_c {n : Int} {l : List (List Int)} {c : List Int} (h : Okl n l c) (hn : n ≤ 100000) (hb : lits l ≤ 1000000) (hc : c.length ≤ 1000000) : ACall Tryd.prog 88 [vI .i64 n, .d (eIss l), .d (eIs c)] [] (refR l c) := by
  refine (Refutes_call n l c ⟨h.n0, hn⟩ h.cl h.asm hb hc).mono ?_
  rintro r o ⟨s, h1, h2, rfl⟩
  exact ⟨_, rfl, close_cf (okl_neg h) h1⟩
theorem lits_le (m : Nat) : ∀ l : List (List Int), (∀ c ∈ l, c.length ≤ m) → lits l ≤ l.length * m
  | [], _ => by simp [lits]
  | c :: r, h => by
    have ih := lits_le m r fun d hd => h d (List.mem_cons_of_mem _ hd)
    have h1 := h c List.mem_cons_self
    simp only [lits, List.map_cons, List.sum_cons, List.length_cons] at ih ⊢
    rw [Nat.add_mul]
    omega
end Go.Proofs.YtffomfbbplpljaaDoor
namespace Go.Proofs.YtffomfbbplpljaaDoor
open Go Ab Go.RowKit
set_option linter.unusedVariables false

theorem litOk_b {n x : Int} (h : litOk n x) (hn : n ≤ 100000) : -1000000 ≤ x ∧ x ≤ 1000000 := by obtain ⟨_, h1, h2⟩ := h; omega
end Go.Proofs.YtffomfbbplpljaaDoor
namespace Go.Proofs.YtffomfbbplpljaaDoor
open Go Ab Go.RowKit
set_option maxRecDepth 100000
set_option linter.unusedVariables false
set_option linter.unusedSimpArgs false
set_option maxHeartbeats 4000000

@[reducible] def sNl : List UInt8 := [10]
@[reducible] def sSp : List UInt8 := [32]
/-- A clause that stands there: its literals, the place behind; or what is wrong, and where. -/
def clR (b : List UInt8) (n : Int) : Nat → Int → List Int → (Int × Int) ⊕ (List Int × Int)
  | 0, at_, _ => .inl (at_, 2)
  | f + 1, at_, out =>
    if (signR b at_ n).2.2 ≠ 0 then .inl (at_, (signR b at_ n).2.2)
    else if (signR b at_ n).1 = 0 then (if isAt b (signR b at_ n).2.1 sNl = true then .inr (out, isTo b (signR b at_ n).2.1 sNl) else .inl ((signR b at_ n).2.1, 2))
    else if out.length = 1000 then .inl (at_, 3)
    else if isAt b (signR b at_ n).2.1 sSp = true then clR b n f (isTo b (signR b at_ n).2.1 sSp) (out ++ [(signR b at_ n).1]) else .inl ((signR b at_ n).2.1, 2)
theorem numR_pl {b : List UInt8} {i most : Int} (h : (numR b i most).2.2 = 0) : 0 ≤ i ∧ i < (numR b i most).2.1 ∧ (numR b i most).2.1 ≤ b.length := by
  unfold numR at h ⊢
  split at h
  · exact absurd h (by decide)
  · rename_i h1
    rw [if_neg h1]
    have h1 : 0 ≤ i ∧ i ≤ b.length := Decidable.not_not.1 h1
    split at h
    · exact absurd h (by simp)
    · rename_i h2
      rw [if_neg h2]
      split at h
      · exact absurd h (by simp)
      · rename_i h3
        rw [if_neg h3]
        have := runN_le isDig (b.drop i.toNat)
        rw [List.length_drop] at this
        have hne : runN isDig (b.drop i.toNat) ≠ 0 := fun e => h2 (.inl e)
        refine ⟨h1.1, ?_, ?_⟩ <;> simp only <;> omega
theorem isTo_pl {b : List UInt8} {i : Int} {s : List UInt8} (h : isAt b i s = true) : 0 ≤ i ∧ isTo b i s = i + s.length ∧ isTo b i s ≤ b.length := by
  unfold isAt at h
  rw [Bool.and_eq_true, decide_eq_true_eq] at h
  obtain ⟨h1, h2⟩ := h
  have h3 : isTo b i s = i + s.length := by rw [isTo, if_neg (fun hh => hh h1), if_pos h2]
  refine ⟨h1.1, h3, ?_⟩
  rw [pre_take, decide_eq_true_eq, List.length_drop] at h2
  rw [h3]
  omega
theorem signR_pl {b : List UInt8} {i most : Int} (h : (signR b i most).2.2 = 0) : 0 ≤ i ∧ i < (signR b i most).2.1 ∧ (signR b i most).2.1 ≤ b.length := by
  unfold signR at h ⊢
  split at h
  · exact absurd h (by decide)
  · rename_i h1
    rw [if_neg h1]
    have h1 : 0 ≤ i ∧ i ≤ b.length := Decidable.not_not.1 h1
    split at h
    · rename_i h2
      rw [if_pos h2]
      have := numR_pl h
      have e : isTo b i sMinus = i := by
        unfold isAt at h2
        rw [decide_eq_true h1, Bool.true_and] at h2
        rw [isTo, if_neg (fun hh => hh h1), if_neg (by rw [h2]; decide)]
      rw [e] at this ⊢
      exact this
    · rename_i h2
      rw [if_neg h2]
      have h2 : isAt b i sMinus = true := by simpa using h2
      obtain ⟨q1, q2, q3⟩ := isTo_pl h2
      split at h
      · exact absurd h (by simp)
      · rename_i h3
        rw [if_neg h3]
        split at h
        · rename_i h4
          exact absurd h h4
        · rename_i h4
          rw [if_neg h4]
          have := numR_pl (Decidable.not_not.1 h4)
          refine ⟨q1, ?_, this.2.2⟩
          have h5 := this.2.1
          rw [q2] at h5 ⊢
          simp only [List.length_cons, List.length_nil] at h5 ⊢
          omega
@[reducible] def clP (q : (Int × Int) ⊕ (List Int × Int)) (x : D) : Prop := ∃ a e, q = .inl (a, e) ∧ x = wrD a e
@[reducible] def clQ (q : (Int × Int) ⊕ (List Int × Int)) (r : AV) : Prop := ∃ l p, q = .inr (l, p) ∧ r = tupOf [.d (eIs l), vI .i64 p]
theorem clause_call (b : List UInt8) (at0 n : Int) (hb : b.length ≤ 1000000) (h0 : 0 ≤ at0) (h1 : at0 ≤ b.length) : ACallP Tryd.prog 29 [.d (eBy b), vI .i64 at0, vI .i64 n] [] (fun r o => clQ (clR b n (b.length + 1) at0 []) r) (clP (clR b n (b.length + 1) at0 [])) := by
  refine acallP_enter Tryd.func29 rfl rfl (Nat.le_of_ble_eq_true rfl) fun C hC hCl hDs hGk hPn => ?_
  have hrefs : ∀ q x, clP q x → refsB 0 (.d x) = true := by
    rintro q _ ⟨a, e, _, rfl⟩
    rfl
  generalize hq : clR b n (b.length + 1) at0 [] = q at *
  refine sat_stop tabOk Tryd.func29 rfl trivial ?_
  refine sat_own (s := 1) (e := 3) (t := 8) (.inl rfl) (fun i => eI (([] : List Int).getD i 0)) ?_
  refine sat_while (α := Nat × Int × List Int) (fun s => [(0, .d (eBy b)), (1, vI .i64 s.2.1), (2, vI .i64 n), (8, .gs 0)]) (fun s => [some (gIs s.2.2)]) (fun s => 0 ≤ s.2.1 ∧ s.2.1 ≤ b.length ∧ b.length - s.2.1 < s.1 ∧ s.2.2.length ≤ 1000 ∧ clR b n s.1 s.2.1 s.2.2 = q) (fun s => s.1) (b.length + 1, at0, []) ⟨h0, h1, by simp only; omega, by simp, hq⟩ ?_ ?_
  · exact fun h => sat_le h hC hCl ⟨⟨_, rfl, .refl _⟩, ⟨_, rfl, .refl _⟩, ⟨_, rfl, .refl _⟩, ⟨_, rfl, .refl _⟩, trivial⟩ ⟨.refl _, trivial⟩ rfl rfl (Nat.zero_le _)
  rintro ⟨f, at_, out⟩ ⟨ha, hab, hf, hout, hcl⟩ ih
  simp only at ha hab hf hout hcl ih ⊢
  obtain ⟨f, rfl⟩ : ∃ k, f = k + 1 := ⟨f - 1, by omega⟩
  rw [clR] at hcl
  have hpl := @signR_pl b at_ n
  refine sat_call tabOk Tryd.func29 rfl trivial (Signed_call b at_ n hb) (.refl _) rfl ⟨_, rfl⟩ (by rintro r o rfl; rfl) ?_
  rintro _ o rfl
  generalize signR b at_ n = sg at *
  obtain ⟨l, nx, e⟩ := sg
  simp only at hcl hpl
  refine sat_branch tabOk Tryd.func29 rfl trivial (fun he => ?_) (fun he => ?_)
  · have he : e ≠ 0 := by simpa using he
    rw [if_pos he] at hcl
    refine sat_steps 9 tabOk Tryd.func29 rfl trivial ?_
    refine sat_panic Tryd.func29 rfl rfl rfl rfl ?_
    rw [hPn]
    exact ⟨_, _, hcl.symm, rfl⟩
  have he : e = 0 := by simpa using he
  obtain ⟨-, p2, p3⟩ := hpl he
  rw [if_neg (fun hh => hh he)] at hcl
  refine sat_branch tabOk Tryd.func29 rfl trivial (fun hl => ?_) (fun hl => ?_)
  · have hl : l = 0 := by simpa using hl
    rw [if_pos hl] at hcl
    refine sat_callP tabOk Tryd.func29 rfl trivial (must_call b nx sNl hb (by decide)) ?_ ?_ (.refl _) rfl ⟨_, rfl⟩ (by rintro r o ⟨rfl, -⟩; rfl) ?_
    · rintro x ⟨rfl, hx⟩
      rw [hPn]
      rw [if_neg (by rw [hx]; decide)] at hcl
      exact ⟨_, _, hcl.symm, rfl⟩
    · rintro x ⟨rfl, hx⟩
      rfl
    rintro r o ⟨rfl, hx⟩
    rw [if_pos hx] at hcl
    refine sat_freeze 0 rfl ?_
    exact sat_ret tabOk Tryd.func29 rfl trivial ⟨_, _, hcl.symm, rfl⟩
  have hl : l ≠ 0 := by simpa using hl
  rw [if_neg hl] at hcl
  refine sat_branch tabOk Tryd.func29 rfl trivial (fun ho => ?_) (fun ho => ?_)
  · have ho : out.length = 1000 := by
      have ho : ((((out.map eI).length : Nat) : Int) == 1000) = true := ho
      rw [List.length_map, beq_iff_eq] at ho
      omega
    rw [if_pos ho] at hcl
    refine sat_steps 9 tabOk Tryd.func29 rfl trivial ?_
    refine sat_panic Tryd.func29 rfl rfl rfl rfl ?_
    rw [hPn]
    exact ⟨_, _, hcl.symm, rfl⟩
  have ho : out.length ≠ 1000 := by
    have ho : ((((out.map eI).length : Nat) : Int) == 1000) = false := ho
    rw [List.length_map, beq_eq_false_iff_ne] at ho
    omega
  rw [if_neg ho] at hcl
  refine sat_callP tabOk Tryd.func29 rfl ?nd (must_call b nx sSp hb (by decide)) ?_ ?_ (.refl _) rfl ⟨_, rfl⟩ (by rintro r o ⟨rfl, -⟩; rfl) ?_
  case nd =>
    show ((out.map eI).length + 1) * 8 ≤ 140737488355328 ∧ True
    rw [List.length_map]
    exact ⟨by omega, trivial⟩
  · rintro x ⟨rfl, hx⟩
    rw [hPn]
    rw [if_neg (by rw [hx]; decide)] at hcl
    exact ⟨_, _, hcl.symm, rfl⟩
  · rintro x ⟨rfl, hx⟩
    rfl
  rintro r o ⟨rfl, hx⟩
  rw [if_pos hx] at hcl
  obtain ⟨t1, t2, t3⟩ := isTo_pl hx
  have t2 : isTo b nx sSp = nx + 1 := t2
  refine sat_stop tabOk Tryd.func29 rfl trivial ?_
  refine sat_le (ih (f, isTo b nx sSp, out ++ [l]) ⟨by simp only; omega, by simp only; omega, by simp only; omega, by simp only [List.length_append, List.length_cons, List.length_nil]; omega, hcl⟩ (by simp only; omega)) hC hCl ⟨⟨_, rfl, .refl _⟩, ⟨_, rfl, .refl _⟩, ⟨_, rfl, .refl _⟩, ⟨_, rfl, .refl _⟩, trivial⟩ ⟨.gL ?_, trivial⟩ rfl rfl (Nat.zero_le _)
  rw [List.map_append]
  rfl
end Go.Proofs.YtffomfbbplpljaaDoor
namespace Go.Proofs.YtffomfbbplpljaaDoor
open Go Ab Go.RowKit
set_option maxRecDepth 100000
set_option linter.unusedVariables false
set_option linter.unusedSimpArgs false
set_option maxHeartbeats 2000000

theorem EqI_call (a b : List Int) : ACall Tryd.prog 36 [.d (eIs a), .d (eIs b)] [] (fun r o => r = vB (decide (a = b))) := by
  refine acall_enter Tryd.func36 rfl rfl (Nat.le_of_ble_eq_true rfl) fun C hC hCl hDs hGk => ?_
  refine sat_len (t := 0) rfl fun hlen => ?_
  rw [List.length_map] at hlen
  refine sat_branch tabOk Tryd.func36 rfl trivial (fun h => ?_) (fun h => ?_)
  · refine sat_ret tabOk Tryd.func36 rfl trivial ?_
    show vB false = vB _
    have : a ≠ b := by rintro rfl; simp at h
    simp [this]
  have hl : a.length = b.length := by simp at h; omega
  refine sat_stop tabOk Tryd.func36 rfl trivial ?_
  refine sat_while (α := Nat) (fun i => [(0, .d (eIs a)), (1, .d (eIs b)), (12, vI .i64 a.length), (13, vI .i64 i)]) (fun _ => []) (fun i => i ≤ a.length ∧ a.take i = b.take i) (fun i => a.length - i) 0 ⟨Nat.zero_le _, rfl⟩ ?_ ?_
  · exact fun h => sat_le h hC hCl ⟨⟨_, rfl, .refl _⟩, ⟨_, rfl, .refl _⟩, ⟨_, rfl, .of (by rw [List.length_map])⟩, ⟨_, rfl, .refl _⟩, trivial⟩ trivial rfl rfl (Nat.zero_le _)
  rintro i ⟨hi, hc⟩ ih
  refine sat_branch tabOk Tryd.func36 rfl trivial (fun hb => ?_) (fun hb => ?_) <;> simp only [decide_eq_true_eq, decide_eq_false_iff_not, List.length_map] at hb
  · have hlt : i < a.length := by omega
    have hlb : i < b.length := by omega
    have ea : a.getD i 0 = a[i] := by simp [hlt]
    have eb : b.getD i 0 = b[i] := by simp [hlb]
    refine sat_drawT 8 tabOk Tryd.func36 rfl rfl trivial (by kernel_rfl) ?_
    refine ds_done tabOk rfl ?_ ?_
    · exact (by simp only [andP, and_true, true_and, Int.toNat_natCast, List.length_map, List.length_append, List.length_cons, List.length_nil, List.length_replicate]; omega)
    refine sat_branch tabOk Tryd.func36 rfl trivial (fun hb2 => ?_) (fun hb2 => ?_)
    · simp only [Int.toNat_natCast, bne_iff_ne, ne_eq] at hb2
      refine sat_ret tabOk Tryd.func36 rfl trivial ?_
      show vB false = vB _
      have : a ≠ b := by rintro rfl; exact hb2 rfl
      simp [this]
    · simp only [Int.toNat_natCast, bne_eq_false_iff_eq] at hb2
      rw [ea, eb] at hb2
      refine sat_stop tabOk Tryd.func36 rfl trivial ?_
      refine sat_le (ih (i + 1) ⟨by omega, ?_⟩ (by omega)) hC hCl ⟨⟨_, rfl, .refl _⟩, ⟨_, rfl, .refl _⟩, ⟨_, rfl, .refl _⟩, ⟨_, rfl, .of (by rw [wrap_id (by omega) (by omega)]; rfl)⟩, trivial⟩ trivial rfl rfl (Nat.zero_le _)
      rw [List.take_add_one, List.take_add_one, hc, List.getElem?_eq_getElem hlt, List.getElem?_eq_getElem hlb, hb2]
  · obtain rfl : i = a.length := by omega
    rw [List.take_length, hl, List.take_length] at hc
    refine sat_ret tabOk Tryd.func36 rfl trivial ?_
    show vB true = vB _
    simp [hc]

end Go.Proofs.YtffomfbbplpljaaDoor
namespace Go.Proofs.YtffomfbbplpljaaDoor
open Go Ab Go.RowKit
set_option maxRecDepth 100000
set_option linter.unusedVariables false
set_option linter.unusedSimpArgs false
set_option maxHeartbeats 2000000

/-- A step: does it take away; its clause. -/
@[reducible] def Sp := Bool × List Int × Unit
@[reducible] def eSp (x : Sp) : D := .ag [.v (.bool x.1), eIs x.2.1]
@[reducible] def eSps (l : List Sp) : D := eL 2 eSp (false, [], ()) l
theorem same1_call (x y : Sp) : ACall Tryd.prog 35 [.d (eSp x), .d (eSp y)] [] (fun r o => r = vB (decide (x = y))) := by
  refine acall_enter Tryd.func35 rfl rfl (Nat.le_of_ble_eq_true rfl) fun C hC hCl hDs hGk => ?_
  obtain ⟨d, c, ⟨⟩⟩ := x
  obtain ⟨e, k, ⟨⟩⟩ := y
  have hd : decide (((d, c, ()) : Sp) = (e, k, ())) = (decide (d = e) && decide (c = k)) := by
    rw [Bool.eq_iff_iff]
    simp
  refine sat_branch tabOk Tryd.func35 rfl trivial (fun h => ?_) (fun h => ?_)
  · have h : d = e := by simpa using h
    refine sat_call tabOk Tryd.func35 rfl trivial (EqI_call c k) (.refl _) rfl ⟨_, rfl⟩ (by rintro r o rfl; rfl) ?_
    rintro _ o rfl
    refine sat_ret tabOk Tryd.func35 rfl trivial ?_
    rw [hd, decide_eq_true h, Bool.true_and]
    rfl
  · have h : ¬ d = e := by simpa using h
    refine sat_ret tabOk Tryd.func35 rfl trivial ?_
    rw [hd, decide_eq_false h, Bool.false_and]
    rfl
end Go.Proofs.YtffomfbbplpljaaDoor
namespace Go.Proofs.YtffomfbbplpljaaDoor
open Go Ab Go.RowKit
set_option maxRecDepth 100000
set_option linter.unusedVariables false
set_option linter.unusedSimpArgs false
set_option maxHeartbeats 2000000

theorem EqS_call (a b : List Sp) : ACall Tryd.prog 34 [.d (eSps a), .d (eSps b), vFn 35] [] (fun r o => r = vB (decide (a = b))) := by
  refine acall_enter Tryd.func34 rfl rfl (Nat.le_of_ble_eq_true rfl) fun C hC hCl hDs hGk => ?_
  refine sat_len (t := 0) rfl fun hlen => ?_
  rw [List.length_map] at hlen
  refine sat_branch tabOk Tryd.func34 rfl trivial (fun h => ?_) (fun h => ?_)
  · refine sat_ret tabOk Tryd.func34 rfl trivial ?_
    show vB false = vB _
    have : a ≠ b := by rintro rfl; simp at h
    simp [this]
  have hl : a.length = b.length := by simp at h; omega
  refine sat_stop tabOk Tryd.func34 rfl trivial ?_
  refine sat_while (α := Nat) (fun i => [(1, .d (eSps b)), (2, vFn 35), (15, .d (eSps a)), (16, vI .i64 a.length), (17, vI .i64 i)]) (fun _ => []) (fun i => i ≤ a.length ∧ a.take i = b.take i) (fun i => a.length - i) 0 ⟨Nat.zero_le _, rfl⟩ ?_ ?_
  · exact fun h => sat_le h hC hCl ⟨⟨_, rfl, .refl _⟩, ⟨_, rfl, .refl _⟩, ⟨_, rfl, .refl _⟩, ⟨_, rfl, .of (by rw [List.length_map])⟩, ⟨_, rfl, .refl _⟩, trivial⟩ trivial rfl rfl (Nat.zero_le _)
  rintro i ⟨hi, hc⟩ ih
  refine sat_branch tabOk Tryd.func34 rfl trivial (fun hb => ?_) (fun hb => ?_) <;> simp only [decide_eq_true_eq, decide_eq_false_iff_not, List.length_map] at hb
  · have hlt : i < a.length := by omega
    have hlb : i < b.length := by omega
    have ea : a.getD i (false, [], ()) = a[i] := by simp [hlt]
    have eb : b.getD i (false, [], ()) = b[i] := by simp [hlb]
    refine sat_call tabOk Tryd.func34 rfl (by simp only [andP, and_true, true_and, Int.toNat_natCast, List.length_map, List.length_append, List.length_cons, List.length_nil, List.length_replicate]; omega) (same1_call (a.getD i (false, [], ())) (b.getD i (false, [], ()))) (.refl _) rfl ⟨_, rfl⟩ (by rintro r o rfl; rfl) ?_
    rintro _ o rfl
    refine sat_branch tabOk Tryd.func34 rfl trivial (fun hb2 => ?_) (fun hb2 => ?_)
    · have hb2 : a.getD i (false, [], ()) ≠ b.getD i (false, [], ()) := by simpa using hb2
      refine sat_ret tabOk Tryd.func34 rfl trivial ?_
      show vB false = vB _
      have : a ≠ b := by rintro rfl; exact hb2 rfl
      simp [this]
    · have hb2 : a.getD i (false, [], ()) = b.getD i (false, [], ()) := by simpa using hb2
      rw [ea, eb] at hb2
      refine sat_stop tabOk Tryd.func34 rfl trivial ?_
      refine sat_le (ih (i + 1) ⟨by omega, ?_⟩ (by omega)) hC hCl ⟨⟨_, rfl, .refl _⟩, ⟨_, rfl, .refl _⟩, ⟨_, rfl, .refl _⟩, ⟨_, rfl, .refl _⟩, ⟨_, rfl, .of (by rw [wrap_id (by omega) (by omega)]; rfl)⟩, trivial⟩ trivial rfl rfl (Nat.zero_le _)
      rw [List.take_add_one, List.take_add_one, hc, List.getElem?_eq_getElem hlt, List.getElem?_eq_getElem hlb, hb2]
  · obtain rfl : i = a.length := by omega
    refine sat_ret tabOk Tryd.func34 rfl trivial ?_
    rw [List.take_length, hl, List.take_length] at hc
    rw [decide_eq_true hc]
    rfl
theorem dSame_call (a b : List Sp) : ACall Tryd.prog 20 [.d (eSps a), .d (eSps b)] [] (fun r o => r = vB (decide (a = b))) := by
  refine acall_enter Tryd.func20 rfl rfl (Nat.le_of_ble_eq_true rfl) fun C hC hCl hDs hGk => ?_
  refine sat_call tabOk Tryd.func20 rfl trivial (EqS_call a b) (.refl _) rfl ⟨_, rfl⟩ (by rintro r o rfl; rfl) ?_
  rintro _ o rfl
  exact sat_ret tabOk Tryd.func20 rfl trivial rfl
end Go.Proofs.YtffomfbbplpljaaDoor
set_option linter.unusedSimpArgs false
set_option linter.unusedVariables false
set_option linter.unusedSectionVars false
namespace Ab
open Go
variable [Draws]

/-- What is put off is what v holds. -/
def OffV (g : FuncId) (v : Value) (d : Deferred) : Prop := ∃ caps : Array Value, v = .func (.func g) #[] caps ∧ d.target = .fn (.func g) caps ∧ d.args = #[]

/-- A call that is put off recovers the panic x, and leaves these objects. -/
def ACatch (P : Program) [Globals P] (g : FuncId) (cs : List AV) (objs : List (Option AObj)) (x : D) (objs' : List (Option AObj)) : Prop :=
  ∀ X π w (caps : List Value) v, GOk P π objs w → Mem X π objs w → RelVs w (okOf X π objs) π cs caps → RelD w (okOf X π objs) x v →
    CallsD P g caps.toArray (.panicking [{ v, recovered := false }]) w fun e u' w' => (∃ u, e = .returned u) ∧ settle u' = .returning ∧ ∃ π', Mem X π' objs' w' ∧ Hist π objs w π' objs' w'

section
variable {P : Program} [Globals P] {T : Tab} {f : FuncId} {fn : Func} {n : Nat} {C : Cx} {R : AV → List (Option AObj) → Prop} {todo todo' k : List Item} {env env' : Env} {objs objs' : List (Option AObj)} {nd : Prop}

/-- A closure is put off; what it holds is kept. -/
theorem sat_deferH {g : FuncId} {cs : List AV} {ops : Array Oper} {i : Nat} {rest : List Nat} {o : Oper} {t : Tmp} {at_ : Array TypeId} (ho : ops[i]? = some o) (hop : o.op = .defer { callee := .value (.tmp t), args := #[], argTypes := at_ }) (hg : o.guard = none) (hd : o.dst = none) (hl : look env t = some (.fn (.func g) cs))
    (h : ∀ d v, OffV g v d → ASat P f n { C with ds := d :: C.ds } (.inRegion ops rest :: k) env (objs ++ [some (.hold (.fn (.func g) cs) v)]) R) : ASat P f n C (.inRegion ops (i :: rest) :: k) env objs R := by
  intro π w tmps hn hm hh he
  have hv := he t _ hl
  obtain ⟨us, hus⟩ : ∃ us : List Value, tmps.getD t undef = .func (.func g) #[] us.toArray := by
    revert hv
    generalize tmps.getD t undef = v
    intro hv
    cases hv with | fn h => exact ⟨_, rfl⟩
  have hr : (execOp (Act.eval ⟨tmps, []⟩) o).run P w = .ok (.defer { target := .fn (.func g) us.toArray, args := #[] }) w := by
    unfold execOp
    simp [hop, resolve, Deferred.ofValue, Act.eval, hus]
  refine .opDefer ho (by simp [Region.wanted, hg]) hr ?_
  have htr : Tr C.X π objs w none (π ++ [.tuple #[]]) (objs ++ [some (.hold (.fn (.func g) cs) (tmps.getD t undef))]) w :=
    tr_newW hm rfl rfl ⟨rfl, dr_mono (Nat.le_refl _)⟩ (Nat.le_refl _) (fun _ _ => rfl) _ _ (by intro b e; cases e)
      (.hold (hv.mono (new_keepsW (fun _ _ => rfl) _ _ hm.len (by intro b e; cases e)) (new_hand _)))
  have := h { target := .fn (.func g) us.toArray, args := #[] } _ ⟨us.toArray, hus, rfl, rfl⟩ _ w tmps hn htr.mem (hist_tr hh htr) (fun u c hu => env_tr he htr u c hu)
  rw [hd]
  exact this

/-- Pointers alone. -/
def ptrE (m : Nat) : Env → Bool
  | [] => true
  | (_, .ptr i _) :: r => match Nat.blt i m with | true => ptrE m r | false => false
  | _ => false
theorem ptrE_look {m : Nat} : ∀ {env : Env} {t : Nat} {a : AV}, ptrE m env = true → look env t = some a → ∃ i off, a = .ptr i off ∧ i < m
  | [], _, _, _, h => by simp [look] at h
  | (u, x) :: r, t, a, hp, h => by
    cases x <;> simp only [ptrE] at hp <;> try cases hp
    split at hp
    · rename_i hb
      simp only [look] at h
      split at h
      · cases h
        exact ⟨_, _, rfl, by simpa [Nat.blt_eq] using hb⟩
      · exact ptrE_look hp h
    · cases hp

theorem leaves_catch {g : FuncId} {d : Deferred} {vh v : Value} {m : Nat} {cs l : List AV} {o2 o3 : List (Option AObj)} {x : D} {env2 : Env} {π : List Value} {w : World} {tmps : Array Value} (hT : TabOk P T) (hoff : OffV g vh d)
    (hen : ∀ args w, (callFunc g args).run P w = .ok (.enter g args) w) (hm0 : nth objs m = some (some (.hold (.fn (.func g) cs) vh))) (hc : ACatch P g cs o2 x o3) (hO : subO o2 objs) (hro : refsO o2.length o2 = true) (hcs : refsBs o2.length cs = true)
    (hCo : C.objs.length ≤ o2.length) (hCl : C.π.length = C.objs.length) (hE : subE env2 env) (hpE : ptrE o2.length env2 = true) (hres : resOf T env2 o3 fn.results.toList = some l) (hR : R (tupOf l) o3)
    (hm : Mem C.X π objs w) (hh : Hist C.π C.objs C.w π objs w) (he : EnvRel w (okOf C.X π objs) π env tmps) (hx : RelD w (okOf C.X π objs) x v) (hG : GOk P C.π C.objs C.w) : Leaves P fn tmps (APost C R) [d] (.panicking [{ v, recovered := false }]) w := by
  obtain ⟨caps, rfl, h1, h2⟩ := hoff
  obtain ⟨h0, hp0, hrel⟩ := hm.obj m _ hm0
  obtain ⟨us, rfl, hus⟩ : ∃ us : List Value, caps = us.toArray ∧ RelVs w (okOf C.X π objs) π cs us := by
    cases hrel with | hold hr =>
    generalize hq : Value.func (.func g) #[] caps = q at hr
    cases hr with
    | fn hr => cases hq; exact ⟨_, rfl, hr⟩
  obtain ⟨m1, m2, m3⟩ := mem_le hm hO hro
  have hh2 := m3 hh (by omega)
  have hus2 : RelVs w (okOf C.X (π.take o2.length) o2) (π.take o2.length) cs us := by
    have := m2 (.tp cs) (.tp cs) (.tuple us.toArray) (VLe.refl _) (by simpa [refsB] using hcs) (.tp hus)
    generalize hq : Value.tuple us.toArray = q at this
    cases this with
    | tp h => cases hq; exact h
  have hx2 : RelD w (okOf C.X (π.take o2.length) o2) x v := by
    have := m2 (.d x) (.d x) v (VLe.refl _) rfl (.d hx)
    cases this with | d h => exact h
  have hcall := hc C.X (π.take o2.length) w us v (hG.hist hh2) m1 hus2 hx2
  refine ⟨by simp, .func g, us.toArray, g, us.toArray, h1, ?_, ?_⟩
  · rw [h1, h2]
    simp [invoke, hen]
  · intro c cs' hc'
    obtain ⟨e, u', w', fr, ⟨⟨v0, rfl⟩, hset, π', hm', hh'⟩, hrest⟩ := hcall c cs' hc'
    refine ⟨_, _, w', fr, ?_, hrest⟩
    have heE : EnvRel w' (okOf C.X π' o3) π' env2 tmps := by
      intro t a ht
      obtain ⟨i, off, rfl, hi⟩ := ptrE_look hpE ht
      obtain ⟨b, hb1, hb2⟩ := subE_look hE ht
      have hv := hb2 _ _ _ _ (he t b hb1)
      revert hv
      generalize tmps.getD t undef = y
      intro hv
      cases hv with
      | ptr hn => exact .ptr (hh'.hand _ _ (nth_take hi hn) rfl)
    obtain ⟨y, hy1, hy2⟩ := results_run (P := P) (fn := fn) hT hm' heE hres
    show Leaves P fn tmps (APost C R) [] (settle u') w'
    rw [hset]
    exact ⟨y, hy1, .inl ⟨y, _, o3, π', rfl, hR, hm', hy2, hh2.trans hh'⟩⟩

/-- It panics; a call put off recovers that. -/
theorem sat_panicR {g : FuncId} {d : Deferred} {vh : Value} {m : Nat} {cs l : List AV} {o2 o3 : List (Option AObj)} {env2 : Env} {ops : Array Oper} {i : Nat} {r : List Nat} {o : Oper} {xo : Operand} {t : TypeId} {x : D} (hT : TabOk P T) (hf : P.funcs[f]? = some fn) (ho : ops[i]? = some o) (hw : wantE ops env o = .yes) (hop : o.op = .panic xo) (hx : opnd env xo = some (.d (.ifc t x)))
    (hds : C.ds = [d]) (hoff : OffV g vh d) (hen : ∀ args w, (callFunc g args).run P w = .ok (.enter g args) w) (hm0 : nth objs m = some (some (.hold (.fn (.func g) cs) vh))) (hc : ACatch P g cs o2 (.ifc t x) o3) (hO : subO o2 objs) (hro : refsO o2.length o2 = true) (hcs : refsBs o2.length cs = true)
    {o0 : List (Option AObj)} (hC : C.objs = o0) (hCo : o0.length ≤ o2.length) (hCl : C.π.length = C.objs.length) (hE : subE env2 env) (hpE : ptrE o2.length env2 = true) (hres : resOf T env2 o3 fn.results.toList = some l) (hR : R (tupOf l) o3) (hG : GOk P C.π C.objs C.w := by with_reducible assumption) :
    ASat P f n C (.inRegion ops (i :: r) :: k) env objs R := by
  intro π w tmps hn hm hh he
  have hv := opnd_rel (ds := []) he hx
  obtain ⟨v, hv1⟩ : ∃ v, Act.eval ⟨tmps, []⟩ xo = .iface t v := by
    revert hv
    generalize Act.eval ⟨tmps, []⟩ xo = u
    intro hv
    cases hv with | d hv => cases hv; exact ⟨_, rfl⟩
  rw [hds]
  refine .opPanic hf ho ((wanted_of he).1 hw) (w' := w) (v := .iface t v) ?_ ?_
  · unfold execOp
    rw [hop]
    simp [hv1, Instr.panic, goPanic, Sem.run]
  · rw [hv1] at hv
    cases hv with | d hv =>
    exact leaves_catch hT hoff hen hm0 hc hO hro hcs (by rw [hC]; exact hCo) hCl hE hpE hres hR hm hh he hv hG

/-- A call whose arguments and result are data, that may panic; the one call put off recovers that. -/
theorem sat_callR {g g' : FuncId} {d : Deferred} {vh : Value} {m : Nat} {cs : List AV} {o2 : List (Option AObj)} {env2 : Env} {az bs : List AV} {dst : Option Tmp} {R' : AV → List (Option AObj) → Prop} {Pn : D → Prop} (hT : TabOk P T) (hf : P.funcs[f]? = some fn) (h : srun T n fn.results.toList 2000 True todo env objs = .call nd g az dst todo' env' objs') (hn : nd)
    (hds : C.ds = [d]) (hoff : OffV g' vh d) (hen : ∀ args w, (callFunc g' args).run P w = .ok (.enter g' args) w) (hm0 : nth objs' m = some (some (.hold (.fn (.func g') cs) vh))) (hO : subO o2 objs') (hro : refsO o2.length o2 = true) (hcs : refsBs o2.length cs = true)
    {o0 : List (Option AObj)} (hC : C.objs = o0) (hCo : o0.length ≤ o2.length) (hCl : C.π.length = C.objs.length) (hE : subE env2 env') (hpE : ptrE o2.length env2 = true)
    (hp : ∀ x, Pn x → ∃ o3 l, ACatch P g' cs o2 x o3 ∧ resOf T env2 o3 fn.results.toList = some l ∧ R (tupOf l) o3)
    (hc : ACallP P g bs [] R' Pn) (hpr : ∀ x, Pn x → refsB 0 (.d x) = true) (hv : VLs az bs) (hd : refsBs 0 bs = true) (hdst : ∃ e, putE n dst .dead env' = some e) (hr : ∀ r o, R' r o → refsB 0 r = true) (k : ∀ r o, R' r o → ASat P f n C todo' (putD dst r env') objs' R)
    (hG : GOk P C.π C.objs C.w := by with_reducible assumption) : ASat P f n C todo env objs R := by
  suffices hcc : Cont P f n C R (.call nd g az dst todo' env' objs') from (run_sound hT hf 2000 True todo env objs (by rw [h]; exact hcc)).2
  refine ⟨hn, hdst, fun π w tmps hs hm hh he vs hvs => ?_⟩
  have h1 : RelVs w (okOf (Xof C.X π objs') [] []) [] bs vs := (hv.rel hvs).cut (m := 0) (fun b o u a1 a2 => ⟨Xof_ok.2 a1, a2⟩) (fun j _ hj => absurd hj (Nat.not_lt_zero j)) hd
  have cutr : ∀ {r : AV} {o : List (Option AObj)} {π' : List Value} {w' : World} {v : Value}, refsB 0 r = true → RelV w' (okOf (Xof C.X π objs') π' o) π' r v → RelV w' (okOf C.X π objs') π r v := fun hr0 hrel => by
    refine hrel.cut (m := 0) (fun b o u a1 a2 => ⟨?_, a2⟩) (fun j _ hj => absurd hj (Nat.not_lt_zero j)) hr0
    exact Xof_ok.1 ⟨a1.1, fun i o h h1 => by simp [nth] at h1⟩
  refine (hc _ _ w vs (hG.hist hh).nil (mem_nil hm) h1).mono ?_
  rintro e w' (⟨v, r, o, π', rfl, hR, hm', hrel, hhist⟩ | ⟨v, x, o, π', rfl, hP, hm', hrel, hhist⟩)
  · refine .inl ⟨v, rfl, ?_⟩
    have htr := (hist_later hhist).tr hm
    obtain ⟨e, hput⟩ := hdst
    obtain ⟨p1, p2⟩ := put_rel (env_tr he htr) hs (putD_eq hput) (cutr (hr r o hR) hrel)
    exact k r o hR π w' _ p2 htr.mem (hist_tr hh htr) p1
  · refine .inr ⟨_, rfl, fun fn' hfn' => ?_⟩
    rw [hf] at hfn'
    cases hfn'
    have htr := (hist_later hhist).tr hm
    rw [hds]
    obtain ⟨o3, l, hcat, hres, hRR⟩ := hp x hP
    have hxv := cutr (hpr x hP) hrel
    have hxd : RelD w' (okOf C.X π objs') x v := by cases hxv with | d h => exact h
    exact leaves_catch hT hoff hen hm0 hcat hO hro hcs (by rw [hC]; exact hCo) hCl hE hpE hres hRR htr.mem (hist_tr hh htr) (env_tr he htr) hxd hG

/-- The function returns; the one call that was put off changes nothing. -/
theorem sat_retH {g : FuncId} {d : Deferred} {vh : Value} {r : AV} {m : Nat} {cs : List AV} (hds : C.ds = [d]) (hoff : OffV g vh d) (hen : ∀ args w, (callFunc g args).run P w = .ok (.enter g args) w)
    (hm0 : nth objs' m = some (some (.hold (.fn (.func g) cs) vh))) (hcall : ∀ (caps : Array Value) (w : World), Globals.tb P w → caps.size = cs.length → CallsD P g caps .returning w fun e u' w' => (∃ v, e = .returned v) ∧ u' = .returning ∧ Later w w')
    (hT : TabOk P T) (hf : P.funcs[f]? = some fn) (h : srun T n fn.results.toList 2000 True todo env objs = .ret nd r objs') (hn : nd) (hR : R r objs') (hG : GOk P C.π C.objs C.w := by with_reducible assumption) : ASat P f n C todo env objs R :=
  (run_sound hT hf 2000 True todo env objs (by
    rw [h]
    refine ⟨hn, fun fn π w tmps _ hm hh hres => ?_⟩
    obtain ⟨caps, rfl, h1, h2⟩ := hoff
    obtain ⟨h0, hp0, hrel⟩ := hm.obj m _ hm0
    have hsz : caps.size = cs.length := by
      cases hrel with | hold hr =>
      generalize hq : Value.func (.func g) #[] caps = q at hr
      cases hr with
      | fn hr => cases hq; simpa using hr.length
    rw [hds]
    refine ⟨by simp, .func g, caps, g, caps, h1, ?_, ?_⟩
    · rw [h1, h2]
      simp [invoke, hen]
    · intro c cs hc
      obtain ⟨e, u', w', fr, ⟨⟨v0, rfl⟩, rfl, hl⟩, hrest⟩ := hcall caps w (hG.hist hh).tb hsz c cs hc
      refine ⟨_, _, w', fr, ?_, hrest⟩
      obtain ⟨v, h3, h4⟩ := hres w' hl
      have htr := hl.tr hm
      exact ⟨v, h3, .inl ⟨v, r, objs', π, rfl, hR, htr.mem, h4, hist_tr hh htr⟩⟩)).2
end

section
variable {P : Program} [Globals P]
/-- Into a call that was put off, and that recovers first. -/
theorem catchS {g : FuncId} {fn : Func} {c2 : Code} {id : Nat} {ops : Array Oper} {o : Oper} {t : Tmp} {idx : List Nat} {u u' : FrameMode} {y : Value} {caps : List Value} {w : World} {R : Ending → World → Prop}
    (hf : P.funcs[g]? = some fn) (hb : fn.body = some (.seq (.region id ops false) c2)) (ho : ops[0]? = some o) (hop : o.op = .call { callee := .builtin .recover, args := #[], argTypes := #[] }) (hg : o.guard = none) (hd : o.dst = some t) (hr : List.range ops.size = 0 :: idx)
    (hu : ∀ (c : Frame) (cs : List Frame), c.mode = u → (recoverD (c :: cs) = some (y, { c with mode := u' } :: cs)) ∨ (recoverD (c :: cs) = none ∧ y = .nilIface ∧ u' = u))
    (h : Sat P g [] (.inRegion ops idx :: [.code c2]) ((caps.toArray ++ Array.replicate (fn.ntmps - caps.toArray.size) undef).setIfInBounds t y) w R) :
    CallsD P g caps.toArray u w fun e u2 w' => u2 = u' ∧ R e w' := by
  intro c cs hcm
  have henter : Frame.enter P g caps.toArray .deferred = (frK .deferred g).at ⟨caps.toArray ++ Array.replicate (fn.ntmps - caps.toArray.size) undef, []⟩ [.code (.seq (.region id ops false) c2)] := by
    simp [Frame.enter, Frame.at, hf, hb, frK]
  rw [henter]
  clear henter
  generalize caps.toArray ++ Array.replicate (fn.ntmps - caps.toArray.size) undef = A at h
  obtain ⟨e, w', fr, h1, h2, h3, h4, h5⟩ := h .deferred ({ c with mode := u' } :: cs)
  refine ⟨e, u', w', fr, ⟨rfl, h1⟩, ?_, h4, h5⟩
  refine Comes.of_steps (.head step_seq (.head step_region (.one ?_))) h2
  rw [hr]
  have hrun : (execOp (Act.eval ⟨A, []⟩) o).run P w = .ok .recover w := by
    unfold execOp
    simp [hop, resolve, invoke, builtin]
  have hgo := stepG_op (P := P) (b := frK .deferred g) (a := ⟨A, []⟩) (k := [.code c2]) (cs := c :: cs) (w := w) (rest := idx) ho (by simp [Region.wanted, hg])
  have hfin : ∀ v, ((frK .deferred g).at ⟨A, []⟩ (.inRegion ops (0 :: idx) :: [.code c2])).finish v = (frK .deferred g).at ⟨A.setIfInBounds t v, []⟩ (.inRegion ops idx :: [.code c2]) := by
    intro v
    rw [Frame.finish_at, ho]
    simp [Act.put, hd]
  have hk : ((frK .deferred g).at ⟨A, []⟩ (.inRegion ops (0 :: idx) :: [.code c2])).kind = .deferred := rfl
  have htr := tryRecover_deferred hk (c :: cs)
  refine step_lone_go ?_
  rcases hu c cs hcm with hrec | ⟨hrec, rfl, rfl⟩
  · rw [hgo, ← hfin]
    simp only [Frame.at] at htr ⊢
    simp [stepG.apply, hrun, htr, hrec]
  · have hce : ({ c with mode := u' } : Frame) = c := by subst hcm; rfl
    rw [hgo, ← hfin, hce]
    simp only [Frame.at] at htr ⊢
    simp [stepG.apply, hrun, htr, hrec]

theorem enter_env {w : World} {ok : Nat → Prop} {π : List Value} {cs : List AV} {caps : List Value} {m : Nat} {t : Tmp} {a : AV} {y : Value} (hv : RelVs w ok π cs caps) (hn : cs.length ≤ m) (ht : t < m) (ha : RelV w ok π a y) :
    EnvRel w ok π ((t, a) :: envOf 0 cs) ((caps.toArray ++ Array.replicate (m - caps.toArray.size) undef).setIfInBounds t y) ∧ ((caps.toArray ++ Array.replicate (m - caps.toArray.size) undef).setIfInBounds t y).size = m := by
  have hl := hv.length
  have hsz : (caps.toArray ++ Array.replicate (m - caps.toArray.size) undef).size = m := by simp [hl]; omega
  have he : EnvRel w ok π (envOf 0 cs) (caps.toArray ++ Array.replicate (m - caps.toArray.size) undef) := by
    intro u b hu
    obtain ⟨_, v, h1, h2⟩ := envOf_rel hv 0 u b hu
    have hlt := (List.getElem?_eq_some_iff.1 h1).1
    have : (caps.toArray ++ Array.replicate (m - caps.toArray.size) undef).getD u undef = v := by
      simp only [Nat.sub_zero] at h1
      simp only [Array.getD_eq_getD_getElem?]
      rw [Array.getElem?_append_left (by simpa using hlt)]
      simp [h1]
    rw [this]
    exact h2
  have hput : putE m (some t) a (envOf 0 cs) = some ((t, a) :: envOf 0 cs) := by
    have : Nat.blt t m = true := by simpa [Nat.blt_eq] using ht
    simp [putE, this]
  exact put_rel he hsz hput ha

theorem catch_enter {g : FuncId} {fn : Func} {c2 : Code} {id : Nat} {ops : Array Oper} {o : Oper} {t : Tmp} {idx : List Nat} {cs : List AV} {objs objs' : List (Option AObj)} {x : D}
    (hf : P.funcs[g]? = some fn) (hb : fn.body = some (.seq (.region id ops false) c2)) (ho : ops[0]? = some o) (hop : o.op = .call { callee := .builtin .recover, args := #[], argTypes := #[] }) (hg : o.guard = none) (hd : o.dst = some t) (hr : List.range ops.size = 0 :: idx) (hn : cs.length ≤ fn.ntmps) (ht : t < fn.ntmps)
    (h : ∀ C : Cx, C.objs = objs → C.π.length = C.objs.length → C.ds = [] → GOk P C.π C.objs C.w → ASat P g fn.ntmps C (.inRegion ops idx :: [.code c2]) ((t, .d x) :: envOf 0 cs) objs (fun _ o => o = objs')) : ACatch P g cs objs x objs' := by
  intro X π w caps v hG m hv hx
  obtain ⟨p1, p2⟩ := enter_env hv hn ht (.d hx)
  have hs := h ⟨X, π, objs, w, [], fun _ => False⟩ rfl m.len rfl hG π w _ p2 m (Hist.refl _ _ _) p1
  refine CallsD.mono (catchS (u' := .panicking [{ v, recovered := true }]) hf hb ho hop hg hd hr (fun c cs hc => ?_) hs) ?_
  · left
    simp [recoverD, hc]
  · rintro e u2 w' ⟨rfl, hp⟩
    rcases hp with ⟨v2, r, o, π', rfl, rfl, hm', _, hh'⟩ | ⟨_, _, _, _, _, hff, _⟩
    · exact ⟨⟨_, rfl⟩, rfl, π', hm', hh'⟩
    · exact hff.elim

/-- No panic is there: nothing is changed. -/
theorem catch_idleA {g : FuncId} {fn : Func} {c2 : Code} {id : Nat} {ops : Array Oper} {o : Oper} {t : Tmp} {idx : List Nat}
    (hf : P.funcs[g]? = some fn) (hb : fn.body = some (.seq (.region id ops false) c2)) (ho : ops[0]? = some o) (hop : o.op = .call { callee := .builtin .recover, args := #[], argTypes := #[] }) (hg : o.guard = none) (hd : o.dst = some t) (hr : List.range ops.size = 0 :: idx) (ht : t < fn.ntmps)
    (h : ∀ C : Cx, C.objs = [] → C.π.length = C.objs.length → C.ds = [] → GOk P C.π C.objs C.w → ASat P g fn.ntmps C (.inRegion ops idx :: [.code c2]) [(t, .d (.v .nilIface))] [] (fun _ _ => True)) (caps : Array Value) (hcs : caps.size ≤ fn.ntmps) (w : World) (hw : Globals.tb P w) :
    CallsD P g caps .returning w fun e u' w' => (∃ v, e = .returned v) ∧ u' = .returning ∧ Later w w' := by
  obtain ⟨caps⟩ := caps
  have hm : Mem (fun _ => False) [] [] w := ⟨rfl, fun i o h => by simp [nth] at h, fun i j o o' h h' b _ h1 => by simp [nth] at h1, fun i o h b h1 => by simp [nth] at h1, fun b h => h.elim⟩
  have hG : GOk P [] [] w := ⟨hw, fun i o h b h1 => by simp [nth] at h1⟩
  have hv : RelVs w (okOf (fun _ => False) [] []) [] (caps.map fun _ => AV.dead) caps := by
    clear hcs
    induction caps with
    | nil => exact .nil
    | cons a r ih => exact .cons .dead ih
  obtain ⟨p1, p2⟩ := enter_env hv (by simpa using hcs) ht (a := .d (.v .nilIface)) (y := .nilIface) (.d (.v rfl))
  have hs := h ⟨fun _ => False, [], [], w, [], fun _ => False⟩ rfl rfl rfl hG [] w _ p2 hm (Hist.refl _ _ _) (fun u b hu => p1 u b (by
    simp only [look] at hu ⊢
    split at hu
    · exact hu
    · cases hu))
  refine CallsD.mono (catchS (u' := .returning) (y := .nilIface) hf hb ho hop hg hd hr (fun c cs hc => ?_) hs) ?_
  · right
    simp [recoverD, hc]
  · rintro e u2 w' ⟨rfl, hp⟩
    rcases hp with ⟨v2, r, o, π', rfl, _, hm', _, hh'⟩ | ⟨_, _, _, _, _, hff, _⟩
    · exact ⟨⟨_, rfl⟩, rfl, hist_later hh'⟩
    · exact hff.elim
end
end Ab
set_option linter.unusedSimpArgs false
set_option linter.unusedVariables false
set_option linter.unusedSectionVars false
namespace Ab
open Go
variable [Draws]

def isIfcT (d : TypeDesc) : Bool := match d with | .interface _ => true | _ => false

section
variable {P : Program} [Globals P] {T : Tab} {f : FuncId} {fn : Func} {n : Nat} {C : Cx} {R : AV → List (Option AObj) → Prop} {todo todo' k : List Item} {env env' : Env} {objs objs' : List (Option AObj)} {nd : Prop}

/-- Data in an interface is taken out, az the type that it has. -/
theorem sat_assert {ops : Array Oper} {i : Nat} {r : List Nat} {o : Oper} {e : Env} {xo : Operand} {xt t : TypeId} {x : D} {d : TypeDesc} (ho : ops[i]? = some o) (hw : wantE ops env o = .yes) (hop : o.op = .typeAssert xo xt t false) (hx : opnd env xo = some (.d (.ifc t x)))
    (hu : P.underlying t = some d) (hd : isIfcT d = false) (hput : putE n o.dst (.d x) env = some e) (h : ASat P f n C (.inRegion ops r :: k) e objs R) : ASat P f n C (.inRegion ops (i :: r) :: k) env objs R := by
  refine sat_quiet (.d x) ho hw (fun X π w tmps m he => ?_) hput h
  have hv := opnd_rel (ds := []) he hx
  obtain ⟨v, hv1, hv2⟩ : ∃ v, Act.eval ⟨tmps, []⟩ xo = .iface t v ∧ RelD w (okOf X π objs) x v := by
    revert hv
    generalize Act.eval ⟨tmps, []⟩ xo = u
    intro hv
    cases hv with | d hv => cases hv with | ifc h => exact ⟨_, rfl, h⟩
  refine ⟨v, ?_, .d hv2⟩
  unfold execOp
  simp only [hop, hv1]
  cases d <;> simp_all [Instr.typeAssert, run_underlying hu, isIfcT]

/-- The same, asked for. -/
theorem sat_assertY {ops : Array Oper} {i : Nat} {r : List Nat} {o : Oper} {e : Env} {xo : Operand} {xt t : TypeId} {x : D} {d : TypeDesc} (ho : ops[i]? = some o) (hw : wantE ops env o = .yes) (hop : o.op = .typeAssert xo xt t true) (hx : opnd env xo = some (.d (.ifc t x)))
    (hu : P.underlying t = some d) (hd : isIfcT d = false) (hput : putE n o.dst (.tp [.d x, .lit true]) env = some e) (h : ASat P f n C (.inRegion ops r :: k) e objs R) : ASat P f n C (.inRegion ops (i :: r) :: k) env objs R := by
  refine sat_quiet (.tp [.d x, .lit true]) ho hw (fun X π w tmps m he => ?_) hput h
  have hv := opnd_rel (ds := []) he hx
  obtain ⟨v, hv1, hv2⟩ : ∃ v, Act.eval ⟨tmps, []⟩ xo = .iface t v ∧ RelD w (okOf X π objs) x v := by
    revert hv
    generalize Act.eval ⟨tmps, []⟩ xo = u
    intro hv
    cases hv with | d hv => cases hv with | ifc h => exact ⟨_, rfl, h⟩
  refine ⟨.tuple #[v, .bool true], ?_, .tp (.cons (.d hv2) (.cons .lit .nil))⟩
  unfold execOp
  simp only [hop, hv1]
  cases d <;> simp_all [Instr.typeAssert, run_underlying hu, isIfcT]

/-- It has another type. -/
theorem sat_assertN {ops : Array Oper} {i : Nat} {r : List Nat} {o : Oper} {e : Env} {xo : Operand} {xt t t2 : TypeId} {x : D} {d : TypeDesc} {z : Value} (ho : ops[i]? = some o) (hw : wantE ops env o = .yes) (hop : o.op = .typeAssert xo xt t true) (hx : opnd env xo = some (.d (.ifc t2 x))) (hne : t2 ≠ t)
    (hu : P.underlying t = some d) (hd : isIfcT d = false) (hz : ∀ w, (zeroValue t).run P w = .ok z w) (hfl : flat z = true) (hput : putE n o.dst (.tp [.d (.v z), .lit false]) env = some e) (h : ASat P f n C (.inRegion ops r :: k) e objs R) : ASat P f n C (.inRegion ops (i :: r) :: k) env objs R := by
  refine sat_quiet (.tp [.d (.v z), .lit false]) ho hw (fun X π w tmps m he => ?_) hput h
  have hv := opnd_rel (ds := []) he hx
  obtain ⟨v, hv1, hv2⟩ : ∃ v, Act.eval ⟨tmps, []⟩ xo = .iface t2 v ∧ RelD w (okOf X π objs) x v := by
    revert hv
    generalize Act.eval ⟨tmps, []⟩ xo = u
    intro hv
    cases hv with | d hv => cases hv with | ifc h => exact ⟨_, rfl, h⟩
  refine ⟨.tuple #[z, .bool false], ?_, .tp (.cons (.d (.v hfl)) (.cons .lit .nil))⟩
  unfold execOp
  simp only [hop, hv1]
  cases d <;> simp_all [Instr.typeAssert, run_underlying hu, isIfcT]

/-- A call through an interface that holds data; objects are lent. -/
theorem sat_invokeG (ι : List Nat) {ops : Array Oper} {i : Nat} {r0 : List Nat} {o : Oper} {u : Tmp} {name : String} {args : List Operand} {at_ : Array TypeId} {t : TypeId} {x : D} {g : FuncId} {az bs : List AV} {objs0 : List (Option AObj)} {R' : AV → List (Option AObj) → Prop} (ho : ops[i]? = some o) (hw : wantE ops env o = .yes)
    (hop : o.op = .call { callee := .invoke (.tmp u) name, args := ⟨args⟩, argTypes := at_ }) (hu : opnd env (.tmp u) = some (.d (.ifc t x))) (hm : ∀ v w, (method (P.types.size + Made.depth) t v name).run P w = .ok (g, v) w) (hargs : opnds env args = some az)
    (hc : ACall P g bs objs0 R') (hen : ∀ args w, (callFunc g args).run P w = .ok (.enter g args) w) (hs : subR (rho ι objs.length) objs ι objs0) (hv : VLs (.d x :: az) (AV.rens (rho ι objs.length) bs)) (hnd : nodupB ι = true) (hd : refsBs ι.length bs = true) (hro : refsO ι.length objs0 = true) (hdst : ∃ e, putE n o.dst .dead env = some e)
    (k1 : ∀ r o', R' r o' → ASat P f n C (.inRegion ops r0 :: k) (putD o.dst (r.ren (rho ι objs.length)) (dropSE (memN ι) env)) (mergeO ι o' objs) R) (hG : GOk P C.π C.objs C.w := by with_reducible assumption) : ASat P f n C (.inRegion ops (i :: r0) :: k) env objs R := by
  intro π w tmps hs1 hm0 hh he
  have hrecv := opnd_rel (ds := []) he hu
  have hvs := opnds_rel (ds := []) he hargs
  obtain ⟨v0, hv1, hv2⟩ : ∃ v, Act.eval ⟨tmps, []⟩ (.tmp u) = .iface t v ∧ RelD w (okOf C.X π objs) x v := by
    revert hrecv
    generalize Act.eval ⟨tmps, []⟩ (.tmp u) = y
    intro hv
    cases hv with | d hv => cases hv with | ifc h => exact ⟨_, rfl, h⟩
  have hrun : (execOp (Act.eval ⟨tmps, []⟩) o).run P w = .ok (.enter g (v0 :: args.map (Act.eval ⟨tmps, []⟩)).toArray) w := by
    unfold execOp
    simp only [hop, resolve, invoke, Sem.run_bind, Sem.run_pure, Result.andThen_ok]
    simp [hv1, callMethod, run_program, hm, hen]
    rw [List.take_of_length_le (by simp)]
  have hall : RelVs w (okOf C.X π objs) π (.d x :: az) (v0 :: args.map (Act.eval ⟨tmps, []⟩)) := .cons (.d hv2) hvs
  have hargs2 : RelVs w (okOf (lendX C.X π objs ι) (lendP π ι) objs0) (lendP π ι) bs (v0 :: args.map (Act.eval ⟨tmps, []⟩)) := by
    refine RelVs.unren (m := ι.length) (lend_keeps hm0 hs) ?_ bs hd (hv.rel hall)
    intro j' h' hj' hh'
    obtain ⟨i', hi'⟩ : ∃ i', nth ι j' = some i' := by
      rw [nth_eq]; exact ⟨ι[j'], List.getElem?_eq_getElem hj'⟩
    rw [rho_in hi'] at hh'
    rw [lendP_nth hi' (nth_lt hh')]
    exact hh'
  refine .opCall ho ((wanted_of he).1 hw) hrun ?_
  rcases hc _ _ w _ (lend_gok (hG.hist hh) hm0 hs) (lend_mem hm0 hs hnd hro) hargs2 with ⟨_, hcl⟩ | ⟨v, w', hcl, _⟩
  · refine Calls.mono hcl ?_
    rintro e w' ⟨v, r, o', π', rfl, hR, hm', hrel, hhist⟩
    refine ⟨v, rfl, ?_⟩
    have L := lended hm0 hs hnd hm' hhist
    obtain ⟨e, hput⟩ := hdst
    have he' : EnvRel w' (okOf C.X (mergeP ι π' π) (mergeO ι o' objs)) (mergeP ι π' π) (dropSE (memN ι) env) tmps := by
      intro t a ht
      rw [look_dropSE] at ht
      cases hl : look env t with
      | none => rw [hl] at ht; cases ht
      | some b =>
        rw [hl] at ht
        simp only [Option.map_some, Option.some.injEq] at ht
        subst ht
        exact L.keep _ _ (he t b hl)
    have hput' : putE n o.dst .dead (dropSE (memN ι) env) = some (putD o.dst .dead (dropSE (memN ι) env)) := by
      revert hput
      generalize o.dst = dst
      intro hput
      cases dst with
      | none => rfl
      | some d =>
        simp only [putE] at hput ⊢
        cases hb : Nat.blt d n with
        | false => rw [hb] at hput; cases hput
        | true => rfl
    obtain ⟨p1, p2⟩ := put_rel he' hs1 (putD_eq hput') (L.back _ _ hrel)
    exact k1 r o' hR _ w' _ p2 L.mem (hh.trans L.hist) p1
  · rw [hen] at hcl
    cases hcl
end
end Ab
namespace Ab
open Go
/-- What an object is ahead of operation e, and behind it. -/
def pk (e : Nat) (L : List Nat) (o h : AObj) : AObj := if e ∈ L then o else h
theorem pk_self (e : Nat) (L : List Nat) (o h : AObj) : pk e (e :: L) o h = o := if_pos (List.mem_cons_self ..)
theorem pk_ne {e j : Nat} (hne : j ≠ e) (L : List Nat) (o h : AObj) : pk e (j :: L) o h = pk e L o h := by
  unfold pk
  simp only [List.mem_cons, hne.symm, false_or]
theorem pk_no {e : Nat} {L : List Nat} (hn : e ∉ L) (o h : AObj) : pk e L o h = h := if_neg hn
theorem pk_yes {e : Nat} {L : List Nat} (hn : e ∈ L) (o h : AObj) : pk e L o h = o := if_pos hn
end Ab
namespace Ab
open Go
variable [Draws]
theorem OLe.cellsV {e : TypeId} {cs ds : List AV} (h : VLs cs ds) : OLe (.cells e cs) (.cells e ds) := by
  intro w ok π v hv
  cases hv with
  | cells hb h1 hf => exact .cells hb (h.rel h1) hf
theorem VLe.dead {a : AV} : VLe a .dead := fun _ _ _ _ _ => .dead
theorem VLe.tp {cs ds : List AV} (h : VLs cs ds) : VLe (.tp cs) (.tp ds) := by
  intro w ok π v hv
  cases hv with
  | tp h1 => exact .tp (h.rel h1)
end Ab
set_option linter.unusedSimpArgs false
set_option linter.unusedVariables false
set_option linter.unusedSectionVars false
namespace Ab
open Go Go.Shelf Go.RowKit Go.Lib Go.Sort Go.Proofs
variable [Draws]

abbrev FV := { v : Value // v.oneCell' = true }
instance : Inhabited FV := ⟨⟨.nilIface, rfl⟩⟩
def encF (x : FV) : Value := x.1
theorem flat_one {v : Value} : flat v = true ↔ v.oneCell' = true := by cases v <;> simp [flat, Value.oneCell']
theorem flat_encF (x : FV) : flat (encF x) = true := flat_one.2 x.2
theorem relE_vals {w : World} {ok : Nat → Prop} : ∀ {us : List Value}, (∀ v ∈ us, flat v = true) → ∃ l : List FV, us = l.map encF
  | [], _ => ⟨[], rfl⟩
  | v :: r, h => by
    obtain ⟨l, hl⟩ := relE_vals (w := w) (ok := ok) (us := r) fun x hx => h x (List.mem_cons_of_mem _ hx)
    subst hl
    exact ⟨⟨v, flat_one.1 (h v List.mem_cons_self)⟩ :: l, rfl⟩

/-- What an object is, told otherwise. -/
theorem mem_swap {X : Nat → Prop} {π : List Value} {objs : List (Option AObj)} {w : World} {i b : Nat} {o o' : AObj} {h : Value} (m : Mem X π objs w) (ho : nth objs i = some (some o)) (hp : nth π i = some h) (hb : blk h = some b) (hrel : RelO w (okOf X π (setNth objs i (some o'))) π o' h) :
    Tr X π objs w none π (setNth objs i (some o')) w :=
  tr_set m ho hp hb rfl rfl ⟨rfl, dr_mono (Nat.le_refl _)⟩ rfl (fun _ _ => rfl) hrel

theorem relE_keep {w w' : World} {ok ok' : Nat → Prop} {π π' : List Value} {q : Option Nat} (hk : ∀ a v, RelV w ok π a v → RelV w' ok' π' (keepQ q a) v) : ∀ {xs : List D} {us : List Value}, RelE w ok 1 xs us → RelE w' ok' 1 xs us
  | _, _, .nil => .nil
  | _, _, .cons (x := x) (us := us) h hl t => by
    refine .cons ?_ hl (relE_keep hk t)
    obtain ⟨u, rfl⟩ : ∃ u, us = [u] := by
      match us, hl with
      | [u], _ => exact ⟨u, rfl⟩
    have hone : ∀ {y : D}, RelD w ok y u → RelD w' ok' y u := fun {y} hy => by
      have := hk (.d y) u (.d hy)
      cases q <;> (simp only [keepQ, AV.drop] at this; cases this with | d h => exact h)
    generalize hc : x.cells = cs at h
    cases h with
    | cons h hf t' =>
      cases t'
      exact .cons (hone h) hf .nil

theorem relE_ok {w : World} {ok ok' : Nat → Prop} (h : ∀ c, ok c → ok' c) {s : Nat} {xs : List D} {us : List Value} (hE : RelE w ok s xs us) : RelE w ok' s xs us := hE.mono fun b o u h1 h2 => ⟨h b h1, h2⟩
theorem grow_as {w : World} {ok ok' : Nat → Prop} {π π' : List Value} {e : TypeId} {l : List FV} {rd0 : Nat → D} {A : Option Addr} {n c : Nat} (h : RelO w ok π (.grow e 1 (l.map fun x => D.v (encF x)) rd0) (.slice A n (c + 1)))
    {xs : List D} {rd : Nat → D} (hl : xs.length = l.length) (hE : RelE w ok' 1 xs (l.map encF)) (hrd : ∀ k, k < xs.length → xs[k]? = some (rd k)) : RelO w ok' π' (.grow e 1 xs rd) (.slice A n (c + 1)) := by
  have hlen : (l.map fun x => D.v (encF x)).length = l.length := by simp
  generalize hys : (l.map fun x => D.v (encF x)) = ys at h hlen
  cases h with
  | grow hb hz he hu hc hm ho hr =>
    subst hys
    have := relE_enc he
    subst this
    have := RelO.grow (π := π') (e := e) (s := 1) (rd := rd) hb hz hE hu (by rw [hl, ← hlen]; exact hc) hm ho hrd
    rw [hl, ← hlen] at this
    exact this

theorem delete_gen {P : Program} [Globals P] {g : FuncId} {zr : FV}
    (hsh : ∀ (b o cap i j : Nat) (d : Array FV) (w : World), Holds encF w b o d → d.size ≤ cap → cap ≤ 9223372036854775807 → i ≤ j → j ≤ d.size →
      Calls P g #[.slice (some ⟨b, o, none⟩) d.size cap, .int .i64 i, .int .i64 j] w fun e w' => e = .returned (.slice (some ⟨b, o, none⟩) (d.size - (j - i)) cap) ∧ ∃ q, w' = putRow encF (Sort.ahead w q) b o (d.toList.take i ++ d.toList.drop j ++ List.replicate (j - i) zr).toArray)
    (hen : ∀ args w, (callFunc g args).run P w = .ok (.enter g args) w) {e : TypeId} {xs : List D} {rd rd' : Nat → D} {i : Nat} (hi : i < xs.length) (hrd : ∀ k, k < (xs.take i ++ xs.drop (i + 1)).length → (xs.take i ++ xs.drop (i + 1))[k]? = some (rd' k)) :
    ACall P g [.gs 0, .d (.v (.int .i64 (i : Int))), .d (.v (.int .i64 ((i + 1 : Nat) : Int)))] [some (.grow e 1 xs rd)] (fun r o => r = .gs 0 ∧ o = [some (.grow e 1 (xs.take i ++ xs.drop (i + 1)) rd')]) := by
  intro X π w vs hgk m hv
  refine .inl ⟨hen _ _, ?_⟩
  cases hv with
  | cons hv ht =>
  cases ht with
  | cons hv1 ht =>
  cases ht with
  | cons hv2 ht =>
  cases ht
  cases hv1 with | d hv1 => cases hv1 with | v _ =>
  cases hv2 with | d hv2 => cases hv2 with | v _ =>
  obtain ⟨h, hp, hrel⟩ := m.obj 0 _ rfl
  have hlenπ := m.len
  obtain ⟨h0, rfl⟩ : ∃ h0, π = [h0] := by
    cases π with
    | nil => cases hlenπ
    | cons a r => cases r with
      | nil => exact ⟨a, rfl⟩
      | cons _ _ => simp at hlenπ
  cases hp
  cases hv with
  | gs hh =>
  cases hh
  have hrel0 := hrel
  cases hrel with
  | gnil => simp at hi
  | grow hb hz he hu hc hmx ho hr =>
    rename_i b o c us vs fz
    obtain ⟨l, rfl⟩ := relE_vals (w := w) (ok := fun _ => True) he.flat
    have hlen : l.length = xs.length := by have := he.length; simpa using this
    -- told as raw values
    have hraw : RelO w (okOf X [.slice (some ⟨b, o, none⟩) xs.length (c + 1)] (setNth [some (.grow e 1 xs rd)] 0 (some (.grow e 1 (l.map fun x => D.v (encF x)) (fun i => D.v (encF (l.getD i default))))))) [.slice (some ⟨b, o, none⟩) xs.length (c + 1)]
        (.grow e 1 (l.map fun x => D.v (encF x)) (fun i => D.v (encF (l.getD i default)))) (.slice (some ⟨b, o, none⟩) xs.length (c + 1)) := by
      have := RelO.grow (w := w) (ok := okOf X [.slice (some ⟨b, o, none⟩) xs.length (c + 1)] (setNth [some (.grow e 1 xs rd)] 0 (some (.grow e 1 (l.map fun x => D.v (encF x)) (fun i => D.v (encF (l.getD i default))))))) (π := [.slice (some ⟨b, o, none⟩) xs.length (c + 1)]) (e := e) (s := 1) (b := b) (o := o) (c := c)
        (xs := l.map fun x => D.v (encF x)) (us := l.map encF) (vs := vs) (rd := fun i => D.v (encF (l.getD i default))) (fz := fz) hb hz (enc_relE flat_encF _) hu (by simpa [hlen] using hc) hmx ho (by
          intro k hk
          have hk' : k < l.length := by simpa using hk
          simp [hk', List.getD_eq_getElem?_getD])
      rw [List.length_map, hlen] at this
      exact this
    have t1 := mem_swap m rfl rfl (b := b) rfl hraw
    have hm2 := t1.mem
    obtain ⟨q1, q2, q3, q4, q5⟩ := holds_row hraw
    have hml : maxLen = 9223372036854775807 := rfl
    have hcall := hsh b o (c + 1) i (i + 1) l.toArray w q1 (by simp; omega) (by omega) (by omega) (by simp; omega)
    simp only [List.size_toArray] at hcall
    rw [hlen] at hcall
    refine Calls.mono hcall ?_
    rintro e' w' ⟨rfl, q, rfl⟩
    have hLl : (l.take i ++ l.drop (i + 1) ++ List.replicate (i + 1 - i) zr).length = l.length := by simp; omega
    have hk1 : xs.length - (i + 1 - i) = (l.take i ++ l.drop (i + 1)).length := by simp; omega
    rw [hk1]
    have t2 := row_tr (q := q) (os := #[]) (k := (l.take i ++ l.drop (i + 1)).length) (L := l.take i ++ l.drop (i + 1) ++ List.replicate (i + 1 - i) zr) (rd' := fun k => D.v (encF ((l.take i ++ l.drop (i + 1)).getD k default))) (enc := encF) flat_encF hm2 hLl (by simp) (by
      intro k hk
      rw [List.take_left' rfl]
      simp only [List.getElem?_map]
      rw [List.getElem?_eq_getElem hk, List.getD_eq_getElem?_getD, List.getElem?_eq_getElem hk]
      rfl)
    rw [List.take_left' rfl] at t2
    unfold sortWorld at t2
    rw [grow_empty] at t2
    obtain ⟨h2, hp2, hrel2⟩ := t2.mem.obj 0 _ rfl
    cases hp2
    -- told as data again
    have hE2 := (he.take i).append (he.drop (i + 1))
    rw [Nat.mul_one, Nat.mul_one, ← List.map_take, ← List.map_drop, ← List.map_append] at hE2
    have hE3 : RelE _ (okOf X _ _) 1 (xs.take i ++ xs.drop (i + 1)) ((l.take i ++ l.drop (i + 1)).map encF) := relE_keep t2.keep (relE_keep t1.keep hE2)
    have hlx : (xs.take i ++ xs.drop (i + 1)).length = (l.take i ++ l.drop (i + 1)).length := by simp; omega
    generalize hgl : (l.take i ++ l.drop (i + 1)) = l2 at *
    generalize hgx : (xs.take i ++ xs.drop (i + 1)) = x2 at *
    have hrel3 := grow_as (ok' := okOf X [.slice (some ⟨b, o, none⟩) l2.length (c + 1)] (setNth [some (.grow e 1 (l2.map fun x => D.v (encF x)) (fun k => D.v (encF (l2.getD k default))))] 0 (some (.grow e 1 x2 rd')))) (π' := [.slice (some ⟨b, o, none⟩) l2.length (c + 1)]) (rd := rd') hrel2 hlx (relE_ok (fun c => (okOf_set rfl c).2) hE3) hrd
    have t3 := mem_swap t2.mem rfl rfl (b := b) rfl hrel3
    exact ⟨_, .gs 0, _, _, rfl, ⟨rfl, rfl⟩, t3.mem, .gs rfl, (t1.hist.trans t2.hist).trans t3.hist⟩
end Ab
namespace Go.Proofs.YtffomfbbplpljaaDoor
open Go Ab Go.RowKit
set_option maxRecDepth 100000
set_option linter.unusedVariables false
set_option linter.unusedSimpArgs false
set_option maxHeartbeats 4000000

@[reducible] def cEr (e : Int) : AObj := .cells 30 [vI .i64 e]
@[reducible] def cAt (a : Int) : AObj := .cells 3 [vI .i64 a]
@[reducible] def cPs (a : AV) : AObj := .cells 25 [a]
@[reducible] def pCs : List AV := [.ptr 0 0, .ptr 1 0, .ptr 2 0]

theorem parse1_catch (a0 : AV) (a1 e1 at_ e : Int) : ACatch Tryd.prog 27 pCs [some (cPs a0), some (cAt a1), some (cEr e1)] (wrD at_ e) [some (cPs (.d (.v (.slice none 0 0)))), some (cAt at_), some (cEr e)] := by
  refine catch_enter Tryd.func27 rfl rfl rfl rfl rfl rfl (by decide) (by decide) fun C hC hCl hDs hGk => ?_
  refine sat_branch tabOk Tryd.func27 rfl trivial (fun _ => ?_) (fun h => by cases h)
  refine sat_steps 4 tabOk Tryd.func27 rfl trivial ?_
  refine sat_assert rfl rfl rfl rfl (d := .struct _) rfl rfl rfl ?_
  refine sat_drawA 6 0 [(4, none), (5, none)] (fun L => [some (pk 4 L (cPs (.d (.v (.slice none 0 0)))) (cPs a0)), some (pk 5 L (cAt at_) (cAt a1)), some (cEr e1), some (.cells 70 [vI .i64 at_, vI .i64 e])]) _
    (objsF := [some (cPs (.d (.v (.slice none 0 0)))), some (cAt at_), some (cEr e1), some (.cells 70 [vI .i64 at_, vI .i64 e])]) tabOk Tryd.func27 rfl rfl trivial (by kernel_rfl) (by kernel_rfl) ?_ ?_ ?_ rfl (fun L => ds_done tabOk rfl trivial rfl) ?_ ?_
  · rfl
  · intro L hL
    simp only [pk_yes (hL 4 (by decide)), pk_yes (hL 5 (by decide))]
  · intro j L hb
    simp only [actB, List.any_cons, List.any_nil, Bool.or_false, Bool.or_eq_false_iff] at hb
    have n1 := Nat.ne_of_beq_eq_false hb.1
    have n2 := Nat.ne_of_beq_eq_false hb.2
    simp only [pk_ne (fun e => n1 e.symm), pk_ne (fun e => n2 e.symm)]
  · refine List.forall_mem_cons.2 ⟨⟨_, rfl, rfl, ?_⟩, List.forall_mem_cons.2 ⟨⟨_, rfl, rfl, ?_⟩, fun x h => by cases h⟩⟩
    · refine headH_skip (a := .dead) (c := none) tabOk rfl (fun _ _ _ h => h) (fun L hL => ?_) trivial rfl
      simp only [pk_self, pk_no hL, pk_ne (show (4 : Nat) ≠ 5 by decide)]
      rfl
    · refine headH_skip (a := .dead) (c := none) tabOk rfl (fun _ _ _ h => h) (fun L hL => ?_) trivial rfl
      simp only [pk_self, pk_no hL, pk_ne (show (5 : Nat) ≠ 4 by decide)]
      rfl
  exact sat_retL tabOk Tryd.func27 rfl trivial hC hCl (.refl _) (o2 := [some (cPs (.d (.v (.slice none 0 0)))), some (cAt at_), some (cEr e)]) ⟨.refl _, .refl _, .refl _, trivial⟩ rfl rfl (Nat.le_refl _) rfl
theorem parse1_idle (caps : Array Value) (w : World) (hw : Globals.tb Tryd.prog w) (hcs : caps.size ≤ 14) : CallsD Tryd.prog 27 caps .returning w fun e u' w' => (∃ v, e = .returned v) ∧ u' = .returning ∧ Later w w' := by
  refine catch_idleA Tryd.func27 rfl rfl rfl rfl rfl rfl (by decide) (fun C hC hCl hDs hGk => ?_) caps hcs w hw
  refine sat_branch tabOk Tryd.func27 rfl trivial (fun h => by cases h) (fun _ => ?_)
  exact sat_ret tabOk Tryd.func27 rfl trivial trivial
end Go.Proofs.YtffomfbbplpljaaDoor
namespace Go.Proofs.YtffomfbbplpljaaDoor
open Go Ab Go.RowKit
set_option maxRecDepth 100000
set_option linter.unusedVariables false
set_option linter.unusedSimpArgs false
set_option maxHeartbeats 4000000

@[reducible] def sDel : List UInt8 := [100, 32]
@[reducible] def gSps (l : List Sp) : AObj := gL 35 2 eSp (false, [], ()) l
/-- The proof that stands there, or what is wrong, and where. -/
def paL (b : List UInt8) (n : Int) : Nat → Int → List Sp → (Int × Int) ⊕ (List Sp × Int)
  | 0, at_, _ => .inl (at_, 2)
  | f + 1, at_, out =>
    if ¬ at_ < b.length then .inr (out, at_)
    else if out.length = 20000 then .inl (at_, 3)
    else match clR b n (b.length + 1) (isTo b at_ sDel) [] with
      | .inl x => .inl x
      | .inr (c, e) => paL b n f e (out ++ [(isAt b at_ sDel, c, ())])
def paR (b : List UInt8) (n : Int) : (Int × Int) ⊕ (List Sp × Int) := if 100000 < b.length then .inl (0, 3) else paL b n (b.length + 1) 0 []
def paA (q : (Int × Int) ⊕ (List Sp × Int)) : AV := match q with
  | .inl (a, e) => tupOf [.d (eSps []), vI .i64 a, vI .i64 e]
  | .inr (l, a) => tupOf [.d (eSps l), vI .i64 a, vI .i64 0]
@[reducible] def paA0 (q : (Int × Int) ⊕ (List Sp × Int)) : AV := match q with
  | .inl (a, e) => tupOf [.d (.v (.slice none 0 0)), vI .i64 a, vI .i64 e]
  | .inr (l, a) => tupOf [.d (eSps l), vI .i64 a, vI .i64 0]
/-- A clause that is read ends behind where it began, in the text. -/
theorem clR_pl {b : List UInt8} {n : Int} : ∀ {f : Nat} {at_ : Int} {out l : List Int} {e : Int}, clR b n f at_ out = .inr (l, e) → at_ < e ∧ e ≤ b.length
  | 0, _, _, _, _, h => by simp [clR] at h
  | f + 1, at_, out, l, e, h => by
    rw [clR] at h
    split at h
    · cases h
    · rename_i h0
      have h0 : (signR b at_ n).2.2 = 0 := Decidable.not_not.1 h0
      have hp := signR_pl h0
      split at h
      · split at h
        · rename_i h3
          have := isTo_pl h3
          cases h
          have t2 : isTo b (signR b at_ n).2.1 sNl = (signR b at_ n).2.1 + 1 := this.2.1
          omega
        · cases h
      · split at h
        · cases h
        · split at h
          · rename_i h3
            have := isTo_pl h3
            have t2 : isTo b (signR b at_ n).2.1 sSp = (signR b at_ n).2.1 + 1 := this.2.1
            have := clR_pl h
            omega
          · cases h
theorem isTo_ge {b : List UInt8} {at_ : Int} {s : List UInt8} (h0 : 0 ≤ at_) (h1 : at_ ≤ b.length) : at_ ≤ isTo b at_ s ∧ isTo b at_ s ≤ b.length := by
  cases h : isAt b at_ s with
  | true =>
    have := isTo_pl h
    omega
  | false =>
    unfold isAt at h
    rw [decide_eq_true ⟨h0, h1⟩, Bool.true_and] at h
    rw [isTo, if_neg (fun hh => hh ⟨h0, h1⟩), if_neg (by rw [h]; decide)]
    omega
@[reducible] def paO (a0 : AV) (a1 : Int) (vh : Value) : List (Option AObj) := [some (cPs a0), some (cAt a1), some (cEr 0), some (.hold (.fn (.func 27) pCs) vh)]
theorem parse_call0 (b : List UInt8) (n : Int) (hb : b.length ≤ 1000000) : ACall Tryd.prog 14 [.d (eBy b), vI .i64 n] [] (fun r o => r = paA0 (paR b n)) := by
  refine acall_enter Tryd.func14 rfl rfl (Nat.le_of_ble_eq_true rfl) fun C hC hCl hDs hGk => ?_
  refine sat_steps 9 tabOk Tryd.func14 rfl trivial ?_
  refine sat_deferH rfl rfl rfl rfl rfl (fun d vh hoff => ?_)
  obtain ⟨C', hC'⟩ : ∃ C', { C with ds := d :: C.ds } = C' := ⟨_, rfl⟩
  have hD : C'.ds = [d] := by rw [← hC', hDs]
  have hCo : C'.objs = [] := by rw [← hC']; exact hC
  have hCl' : C'.π.length = C'.objs.length := by rw [← hC']; exact hCl
  have hGk' : GOk Tryd.prog C'.π C'.objs C'.w := by rw [← hC']; exact hGk
  rw [hC']
  clear hC' hDs hCl hC hGk
  have hen : ∀ args w, (callFunc 27 args).run Tryd.prog w = .ok (.enter 27 args) w := callFunc_run Tryd.func27 rfl rfl
  have hof : OffV 27 vh d := hoff
  refine sat_branch tabOk Tryd.func14 rfl trivial (fun h => ?_) (fun h => ?_)
  · have h : 100000 < b.length := by
      have h : decide ((((b.map eU8).length : Nat) : Int) > 100000) = true := h
      rw [decide_eq_true_eq, List.length_map] at h
      omega
    refine sat_steps 6 tabOk Tryd.func14 rfl trivial ?_
    refine sat_panicR (m := 3) (o2 := [some (cPs .dead), some (cAt 0), some (cEr 0)]) (env2 := [(4, .ptr 0 0), (5, .ptr 1 0), (6, .ptr 2 0)]) tabOk Tryd.func14 rfl rfl rfl rfl hD hof hen rfl (parse1_catch .dead 0 0 0 3) ⟨.cellsV ⟨.dead, trivial⟩, .refl _, .refl _, trivial⟩ rfl rfl hCo (Nat.zero_le _) hCl' ⟨⟨_, rfl, .refl _⟩, ⟨_, rfl, .refl _⟩, ⟨_, rfl, .refl _⟩, trivial⟩ rfl rfl ?_
    rw [paR, if_pos h]
  have h : ¬ 100000 < b.length := by
    have h : decide ((((b.map eU8).length : Nat) : Int) > 100000) = false := h
    rw [decide_eq_false_iff_not, List.length_map] at h
    omega
  have hR : paR b n = paL b n (b.length + 1) 0 [] := by rw [paR, if_neg h]
  rw [hR]
  generalize hq : paL b n (b.length + 1) 0 [] = q at *
  refine sat_stop tabOk Tryd.func14 rfl trivial ?_
  refine sat_ownCell 0 0 (e' := 35) (s := 2) (fun i => eSp (([] : List Sp).getD i (false, [], ()))) rfl rfl ?_
  refine sat_while (α := Nat × Int × List Sp) (fun s => [(0, .d (eBy b)), (1, vI .i64 n), (4, .ptr 0 0), (5, .ptr 1 0), (6, .ptr 2 0)]) (fun s => paO (.gs 4) s.2.1 vh ++ [some (gSps s.2.2)]) (fun s => 0 ≤ s.2.1 ∧ s.2.1 ≤ b.length ∧ b.length - s.2.1 < s.1 ∧ s.2.2.length ≤ 20000 ∧ paL b n s.1 s.2.1 s.2.2 = q) (fun s => s.1) (b.length + 1, 0, []) ⟨by simp, by simp, by simp only; omega, by simp, hq⟩ ?_ ?_
  · exact fun h => sat_le h hCo hCl' ⟨⟨_, rfl, .refl _⟩, ⟨_, rfl, .refl _⟩, ⟨_, rfl, .refl _⟩, ⟨_, rfl, .refl _⟩, ⟨_, rfl, .refl _⟩, trivial⟩ ⟨.refl _, .refl _, .refl _, .refl _, .refl _, trivial⟩ rfl rfl (Nat.zero_le _)
  rintro ⟨f, at_, out⟩ ⟨ha, hab, hf, hout, hcl⟩ ih
  simp only at ha hab hf hout hcl ih ⊢
  obtain ⟨f, rfl⟩ : ∃ k, f = k + 1 := ⟨f - 1, by omega⟩
  rw [paL] at hcl
  refine sat_branch tabOk Tryd.func14 rfl trivial (fun h1 => ?_) (fun h1 => ?_)
  rotate_left
  · have h1 : ¬ at_ < b.length := by
      have h1 : decide (at_ < (((b.map eU8).length : Nat) : Int)) = false := h1
      rw [decide_eq_false_iff_not, List.length_map] at h1
      exact h1
    rw [if_pos h1] at hcl
    refine sat_freeze 4 rfl ?_
    refine sat_drawA 3 0 [(2, none)] (fun L => paO (.d (eSps out)) at_ vh ++ [none]) _ (objsF := paO (.d (eSps out)) at_ vh ++ [none]) tabOk Tryd.func14 rfl rfl trivial (by kernel_rfl) (by kernel_rfl) rfl (fun _ _ => rfl) (fun _ _ _ => rfl) rfl (fun L => ds_done tabOk rfl trivial rfl) ?_ ?_
    · refine List.forall_mem_cons.2 ⟨⟨_, rfl, rfl, ?_⟩, fun x h => by cases h⟩
      refine headH_skip (a := .dead) (c := none) tabOk rfl (fun _ _ _ h => h) (fun L hL => ?_) trivial rfl
      rfl
    refine sat_retH (m := 3) hD hof hen rfl (fun caps w hw hs => parse1_idle caps w hw (by rw [hs]; decide)) tabOk Tryd.func14 rfl trivial ?_
    rw [← hcl]
  have h1 : at_ < b.length := by
    have h1 : decide (at_ < (((b.map eU8).length : Nat) : Int)) = true := h1
    rw [decide_eq_true_eq, List.length_map] at h1
    exact h1
  rw [if_neg (fun hh => hh h1)] at hcl
  refine sat_branch tabOk Tryd.func14 rfl trivial (fun h2 => ?_) (fun h2 => ?_)
  · have h2 : out.length = 20000 := by
      have h2 : ((((out.map eSp).length : Nat) : Int) == 20000) = true := h2
      rw [beq_iff_eq, List.length_map] at h2
      omega
    rw [if_pos h2] at hcl
    refine sat_steps 7 tabOk Tryd.func14 rfl trivial ?_
    refine sat_panicR (m := 3) (o2 := [some (cPs .dead), some (cAt at_), some (cEr 0)]) (env2 := [(4, .ptr 0 0), (5, .ptr 1 0), (6, .ptr 2 0)]) tabOk Tryd.func14 rfl rfl rfl rfl hD hof hen rfl (parse1_catch .dead at_ 0 at_ 3) ⟨.cellsV ⟨.dead, trivial⟩, .refl _, .refl _, trivial⟩ rfl rfl hCo (Nat.zero_le _) hCl' ⟨⟨_, rfl, .refl _⟩, ⟨_, rfl, .refl _⟩, ⟨_, rfl, .refl _⟩, trivial⟩ rfl rfl ?_
    rw [← hcl]
  have h2 : out.length ≠ 20000 := by
    have h2 : ((((out.map eSp).length : Nat) : Int) == 20000) = false := h2
    rw [beq_eq_false_iff_ne, List.length_map] at h2
    omega
  rw [if_neg h2] at hcl
  refine sat_call tabOk Tryd.func14 rfl trivial (Is_call b at_ sDel hb (by decide)) (.refl _) rfl ⟨_, rfl⟩ (by rintro r o rfl; rfl) ?_
  rintro _ o rfl
  obtain ⟨hge, hle⟩ := @isTo_ge b at_ sDel ha hab
  refine sat_callR (m := 3) (o2 := [some (cPs .dead), some (cAt at_), some (cEr 0)]) (env2 := [(4, .ptr 0 0), (5, .ptr 1 0), (6, .ptr 2 0)]) tabOk Tryd.func14 rfl trivial hD hof hen rfl ⟨.cellsV ⟨.dead, trivial⟩, .refl _, .refl _, trivial⟩ rfl rfl hCo (Nat.zero_le _) hCl' ⟨⟨_, rfl, .refl _⟩, ⟨_, rfl, .refl _⟩, ⟨_, rfl, .refl _⟩, trivial⟩ rfl ?_ (clause_call b (isTo b at_ sDel) n hb (by omega) hle) ?_ (.refl _) rfl ⟨_, rfl⟩ ?_ ?_
  · rintro x ⟨a, e, hx, rfl⟩
    refine ⟨_, _, parse1_catch .dead at_ 0 a e, rfl, ?_⟩
    rw [hx] at hcl
    rw [← hcl]
  · rintro x ⟨a, e, hx, rfl⟩
    rfl
  · rintro r o ⟨l, p, hx, rfl⟩
    rfl
  rintro r o ⟨c, e, hx, rfl⟩
  rw [hx] at hcl
  have hpl := clR_pl hx
  refine sat_stop tabOk Tryd.func14 rfl ?nd ?_
  case nd =>
    show ((out.map eSp).length + 1) * 32 ≤ 140737488355328 ∧ True
    rw [List.length_map]
    exact ⟨by omega, trivial⟩
  refine sat_le (ih (f, e, out ++ [(isAt b at_ sDel, c, ())]) ⟨by simp only; omega, by simp only; omega, by simp only; omega, by simp only [List.length_append, List.length_cons, List.length_nil]; omega, hcl⟩ (by simp only; omega)) hCo hCl' ⟨⟨_, rfl, .refl _⟩, ⟨_, rfl, .refl _⟩, ⟨_, rfl, .refl _⟩, ⟨_, rfl, .refl _⟩, ⟨_, rfl, .refl _⟩, trivial⟩ ⟨.refl _, .refl _, .refl _, .refl _, .gL ?_, trivial⟩ rfl rfl (Nat.zero_le _)
  rw [List.map_append]
  rfl
theorem parse_call (b : List UInt8) (n : Int) (hb : b.length ≤ 1000000) : ACall Tryd.prog 14 [.d (eBy b), vI .i64 n] [] (fun r o => r = paA (paR b n)) := by
  refine (parse_call0 b n hb).less ?_
  rintro r o rfl
  refine ⟨_, [], rfl, ?_, trivial, ?_, rfl, Nat.le_refl _⟩
  · cases paR b n with
    | inl x => exact .tp ⟨.nil, .refl _, .refl _, trivial⟩
    | inr x => exact .refl _
  · cases paR b n <;> rfl
end Go.Proofs.YtffomfbbplpljaaDoor
namespace Go.Proofs.YtffomfbbplpljaaDoor
open Go Ab Go.RowKit
set_option maxRecDepth 100000
set_option linter.unusedVariables false
set_option linter.unusedSimpArgs false
set_option maxHeartbeats 4000000

@[reducible] def gIss (l : List (List Int)) : AObj := gL 33 1 eIs [] l
/-- The first that is so, or -1. -/
def idP {α : Type} (p : α → Bool) (l : List α) : Int := match l.findIdx? p with | some i => i | none => -1
theorem idP_some {α : Type} {p : α → Bool} {l : List α} {j : Nat} (hj : j < l.length) (h1 : p l[j] = true) (h2 : ∀ q (hq : q < l.length), q < j → p l[q] = false) : idP p l = j := by
  have : l.findIdx? p = some j := List.findIdx?_eq_some_iff_getElem.2 ⟨hj, h1, fun q hq => by rw [h2 q (by omega) hq]; decide⟩
  rw [idP, this]
theorem idP_none {α : Type} {p : α → Bool} {l : List α} (h2 : ∀ q (hq : q < l.length), p l[q] = false) : idP p l = -1 := by
  have : l.findIdx? p = none := List.findIdx?_eq_none_iff.2 fun x hx => by
    obtain ⟨q, hq, rfl⟩ := List.mem_iff_getElem.1 hx
    exact h2 q hq
  rw [idP, this]

theorem Clone2_call (c : List (List Int)) (hlen : c.length ≤ 1000000) : ACall Tryd.prog 22 [.d (eIss c)] [] (fun r o => r = .gs 0 ∧ o = [some (gIss c)]) := by
  refine acall_enter Tryd.func22 rfl rfl (Nat.le_of_ble_eq_true rfl) fun C hC hCl hDs hGk => ?_
  refine sat_goto tabOk Tryd.func22 rfl trivial ?_
  refine sat_isnil tabOk rfl rfl rfl rfl rfl rfl rfl rfl (fun hx => ?_) ?_
  · have hc : c = [] := List.map_eq_nil_iff.1 hx
    subst hc
    refine sat_steps 6 tabOk Tryd.func22 rfl trivial ?_
    refine sat_own (e := 33) (s := 1) (t := 2) (.inl rfl) (fun i => eIs (([] : List (List Int)).getD i [])) ?_
    refine sat_retL tabOk Tryd.func22 rfl trivial hC hCl (.refl _) (o2 := [some (gIss [])]) ⟨.refl _, trivial⟩ rfl rfl (Nat.zero_le _) ⟨rfl, rfl⟩
  · refine sat_retL tabOk Tryd.func22 rfl ?_ hC hCl (.refl _) (o2 := [some (gIss c)]) ⟨.gL rfl, trivial⟩ rfl rfl (Nat.zero_le _) ⟨rfl, rfl⟩
    simp only [andP, List.length_map]
    exact ⟨by show c.length * 24 ≤ _; omega, trivial⟩

@[reducible] def bOwn (own : List Int) : AObj := .cells 33 [.d (eIs own)]
theorem takes1_call (own d : List Int) (hd : ∀ x ∈ d, -1000000 ≤ x ∧ x ≤ 1000000) (hl : d.length ≤ 1000000) : ACall Tryd.prog 97 [.d (eIs d), .ptr 0 0] [some (bOwn own)] (fun r o => r = vB (decide (sortU d = own)) ∧ o = [some (bOwn own)]) := by
  refine acall_enter Tryd.func97 rfl rfl (Nat.le_of_ble_eq_true rfl) fun C hC hCl hDs hGk => ?_
  refine sat_drawT 3 tabOk Tryd.func97 rfl rfl trivial (by kernel_rfl) ?_
  refine ds_call tabOk rfl trivial (Sort_call d hd hl) (callFunc_run Tryd.func96 rfl rfl) (by rintro r o rfl; rfl) (.refl _) rfl rfl ⟨_, rfl⟩ ?_
  refine ds_done tabOk rfl trivial ?_
  refine sat_call tabOk Tryd.func97 rfl trivial (EqI_call (sortU d) own) (.refl _) rfl ⟨_, rfl⟩ (by rintro r o rfl; rfl) ?_
  rintro _ o rfl
  exact sat_ret tabOk Tryd.func97 rfl trivial ⟨rfl, rfl⟩

theorem IdxG_call (g : FuncId) (p : List Int → Bool) (own : List Int) (l : List (List Int)) (hp : ∀ d ∈ l, ACall Tryd.prog g [.d (eIs d), .ptr 0 0] [some (bOwn own)] (fun r o => r = vB (p d) ∧ o = [some (bOwn own)])) (hl : l.length ≤ 1000000) (vh : Value) :
    ACall Tryd.prog 53 [.gs 0, .fn (.func g) [.ptr 1 0]] [some (gIss l), some (bOwn own), some (.hold (.gs 0) vh)] (fun r o => r = vI .i64 (idP p l) ∧ o = [some (gIss l), some (bOwn own), some (.hold (.gs 0) vh)]) := by
  refine acall_enter Tryd.func53 rfl rfl (Nat.le_of_ble_eq_true rfl) fun C hC hCl hDs hGk => ?_
  refine sat_stop tabOk Tryd.func53 rfl trivial ?_
  refine sat_while (α := Nat) (fun i => [(0, .gs 0), (1, .fn (.func g) [.ptr 1 0]), (7, vI .i64 l.length), (8, vI .i64 (i : Int))]) (fun i => [some (gIss l), some (bOwn own), some (.hold (.gs 0) vh)]) (fun i => i ≤ l.length ∧ ∀ q (hq : q < l.length), q < i → p l[q] = false) (fun i => l.length - i) 0 ⟨Nat.zero_le _, fun q _ h => absurd h (Nat.not_lt_zero q)⟩ ?_ ?_
  · exact fun h => sat_le h hC hCl ⟨⟨_, rfl, .refl _⟩, ⟨_, rfl, .refl _⟩, ⟨_, rfl, .of (by rw [List.length_map])⟩, ⟨_, rfl, .refl _⟩, trivial⟩ ⟨.refl _, .refl _, .refl _, trivial⟩ rfl rfl (Nat.le_refl _)
  rintro i ⟨hi, hno⟩ ih
  refine sat_branch tabOk Tryd.func53 rfl trivial (fun h => ?_) (fun h => ?_)
  · have h : decide ((i : Int) < (l.length : Int)) = true := h
    rw [decide_eq_true_eq] at h
    have hlt : i < l.length := by omega
    have eg : l.getD i [] = l[i] := by simp [hlt]
    refine sat_callG [1] tabOk Tryd.func53 rfl (by simp only [andP, and_true, true_and, Int.toNat_natCast, List.length_map, List.length_append, List.length_cons, List.length_nil, List.length_replicate]; omega) (hp (l.getD i []) (by rw [eg]; exact List.getElem_mem hlt)) ⟨⟨_, rfl, .refl _⟩, trivial⟩ (.refl _) rfl rfl rfl ⟨_, rfl⟩ ?_
    rintro r o ⟨rfl, rfl⟩
    refine sat_branch tabOk Tryd.func53 rfl trivial (fun h2 => ?_) (fun h2 => ?_)
    · have h2 : p (l.getD i []) = true := h2
      rw [eg] at h2
      refine sat_retL tabOk Tryd.func53 rfl trivial hC hCl (.of ?_) (o2 := [some (gIss l), some (bOwn own), some (.hold (.gs 0) vh)]) ⟨.refl _, .refl _, .refl _, trivial⟩ rfl rfl (Nat.le_refl _) ⟨rfl, rfl⟩
      rw [idP_some hlt h2 hno]
      rfl
    · have h2 : p (l.getD i []) = false := h2
      rw [eg] at h2
      refine sat_stop tabOk Tryd.func53 rfl trivial ?_
      refine sat_le (ih (i + 1) ⟨by omega, fun q hq hqi => ?_⟩ (by omega)) hC hCl ⟨⟨_, rfl, .refl _⟩, ⟨_, rfl, .refl _⟩, ⟨_, rfl, .refl _⟩, ⟨_, rfl, .of (by rw [wrap_id (by omega) (by omega)]; rfl)⟩, trivial⟩ ⟨.refl _, .refl _, .refl _, trivial⟩ rfl rfl (Nat.le_refl _)
      rcases Nat.lt_or_ge q i with h3 | h3
      · exact hno q hq h3
      · obtain rfl : q = i := by omega
        exact h2
  · have h : decide ((i : Int) < (l.length : Int)) = false := h
    rw [decide_eq_false_iff_not] at h
    obtain rfl : i = l.length := by omega
    refine sat_ret tabOk Tryd.func53 rfl trivial ⟨?_, rfl⟩
    rw [idP_none fun q hq => hno q hq hq]
    rfl
end Go.Proofs.YtffomfbbplpljaaDoor
namespace Go.Proofs.YtffomfbbplpljaaDoor
open Go Ab Go.RowKit Go.Shelf Go.Lib Go.Sort Go.Proofs
set_option maxRecDepth 100000
set_option linter.unusedVariables false
set_option linter.unusedSimpArgs false
set_option maxHeartbeats 4000000

theorem Del_call (l : List (List Int)) (i : Nat) (hi : i < l.length) : ACall Tryd.prog 98 [.gs 0, vI .i64 (i : Int), vI .i64 ((i + 1 : Nat) : Int)] [some (gIss l)] (fun r o => r = .gs 0 ∧ o = [some (gIss (l.take i ++ l.drop (i + 1)))]) := by
  have h := delete_gen (P := Tryd.prog) (g := 98) (zr := ⟨.slice none 0 0, rfl⟩) (fun b o cap i j d w h1 h2 h3 h4 h5 => AnyE.slices_Delete Tryd.sdelL encF (fun x => x.2) ⟨.slice none 0 0, rfl⟩ Tryd.zeroValue33 _ rfl rfl b o cap i j d w h1 h2 h3 h4 h5)
    (fun args w => callFunc_run Tryd.func98 rfl rfl args w) (e := 33) (xs := l.map eIs) (rd := fun i => eIs (l.getD i [])) (rd' := fun k => eIs ((l.take i ++ l.drop (i + 1)).getD k [])) (i := i) (by simpa using hi) (by
      rw [← List.map_take, ← List.map_drop, ← List.map_append]
      exact map_rd eIs [] _)
  rw [← List.map_take, ← List.map_drop, ← List.map_append] at h
  exact h
end Go.Proofs.YtffomfbbplpljaaDoor
namespace Go.Proofs.YtffomfbbplpljaaDoor
open Go Ab Go.RowKit
set_option maxRecDepth 100000
set_option linter.unusedVariables false
set_option linter.unusedSimpArgs false
set_option maxHeartbeats 4000000

/-- Is a clause refuted? -/
noncomputable def refB (l : List (List Int)) (c : List Int) : Bool := @decide (Cf l (c.map fun x => -x)) (Classical.propDecidable _)
theorem refB_iff {l : List (List Int)} {c : List Int} : refB l c = true ↔ Cf l (c.map fun x => -x) := by
  unfold refB
  exact @decide_eq_true_iff _ (Classical.propDecidable _)
theorem refutes_b {n : Int} {l : List (List Int)} {c : List Int} (h : Okl n l c) (hn : n ≤ 100000) (hb : lits l ≤ 1000000) (hc : c.length ≤ 1000000) : ACall Tryd.prog 88 [vI .i64 n, .d (eIss l), .d (eIs c)] [] (fun r o => r = vB (refB l c)) := by
  refine (refutes_c h hn hb hc).mono ?_
  rintro r o ⟨b, rfl, h1⟩
  congr 3
  rw [Bool.eq_iff_iff, h1, refB_iff]
def eqS (c d : List Int) : Bool := decide (sortU d = sortU c)
theorem adds_call {n : Int} {l : List (List Int)} {c : List Int} (h : Okl n l c) (hn : n ≤ 100000) (hb : lits l ≤ 1000000) (hc : c.length ≤ 1000000) (hl : l.length ≤ 1000000) :
    ACall Tryd.prog 87 [.d (eIs c), vI .i64 n, .gs 0] [some (gIss l)] (fun r o => r = .tp [.gs 0, vB (refB l c)] ∧ o = [some (gIss (if refB l c = true then l ++ [c] else l))]) := by
  refine acall_enter Tryd.func87 rfl rfl (Nat.le_of_ble_eq_true rfl) fun C hC hCl hDs hGk => ?_
  refine sat_callL tabOk Tryd.func87 rfl trivial (refutes_b h hn hb hc) ⟨.inl (.refl _), .inr ⟨0, 33, 1, _, _, _, rfl, rfl, rfl, map_rd eIs [] l⟩, .inl (.refl _), trivial⟩ rfl ⟨_, rfl⟩ (by rintro r o rfl; rfl) ?_
  rintro _ o rfl
  cases refB l c with
  | false =>
    refine sat_branch tabOk Tryd.func87 rfl trivial (fun _ => ?_) (fun h => by cases h)
    exact sat_ret tabOk Tryd.func87 rfl trivial ⟨rfl, rfl⟩
  | true =>
    refine sat_branch tabOk Tryd.func87 rfl trivial (fun h => by cases h) (fun _ => ?_)
    refine sat_retL tabOk Tryd.func87 rfl ?nd hC hCl (.refl _) (o2 := [some (gIss (l ++ [c]))]) ⟨.gL ?_, trivial⟩ rfl rfl (Nat.le_refl _) ⟨rfl, rfl⟩
    case nd =>
      show ((l.map eIs).length + 1) * 24 ≤ 140737488355328 ∧ True
      rw [List.length_map]
      exact ⟨by omega, trivial⟩
    rw [List.map_append]
    rfl

def takeR (l : List (List Int)) (c : List Int) : Option (List (List Int)) := (l.findIdx? (eqS c)).map fun j => l.take j ++ l.drop (j + 1)
theorem takes_call {l : List (List Int)} {c : List Int} (n : Int) (hll : ∀ d ∈ l, (∀ x ∈ d, -1000000 ≤ x ∧ x ≤ 1000000) ∧ d.length ≤ 1000000) (hcc : ∀ x ∈ c, -1000000 ≤ x ∧ x ≤ 1000000) (hc : c.length ≤ 1000000) (hl : l.length ≤ 1000000) :
    ACall Tryd.prog 95 [.d (eIs c), vI .i64 n, .gs 0] [some (gIss l)] (fun r o => r = .tp [.gs 0, vB (takeR l c).isSome] ∧ o = [some (gIss ((takeR l c).getD l))]) := by
  refine acall_enter Tryd.func95 rfl rfl (Nat.le_of_ble_eq_true rfl) fun C hC hCl hDs hGk => ?_
  refine sat_call tabOk Tryd.func95 rfl trivial (Sort_call c hcc hc) (.refl _) rfl ⟨_, rfl⟩ (by rintro r o rfl; rfl) ?_
  rintro _ o rfl
  refine sat_steps 7 tabOk Tryd.func95 rfl trivial ?_
  refine sat_hold 2 0 rfl (fun vh _ => ?_)
  refine sat_callG [0, 1, 2] tabOk Tryd.func95 rfl trivial (IdxG_call 97 (eqS c) (sortU c) l (fun d hd => takes1_call (sortU c) d (hll d hd).1 (hll d hd).2) hl vh) ⟨⟨_, rfl, .refl _⟩, ⟨_, rfl, .refl _⟩, ⟨_, rfl, .refl _⟩, trivial⟩ (.refl _) rfl rfl rfl ⟨_, rfl⟩ ?_
  rintro _ o ⟨rfl, rfl⟩
  refine sat_unhold 2 2 rfl rfl ?_
  unfold takeR idP
  cases hf : l.findIdx? (eqS c) with
  | none =>
    refine sat_branch tabOk Tryd.func95 rfl trivial (fun _ => ?_) (fun h => by cases h)
    exact sat_retL tabOk Tryd.func95 rfl trivial hC hCl (.refl _) (o2 := [some (gIss l)]) ⟨.refl _, trivial⟩ rfl rfl (Nat.le_refl _) ⟨rfl, rfl⟩
  | some j =>
    have hj : j < l.length := (List.findIdx?_eq_some_iff_getElem.1 hf).1
    refine sat_branch tabOk Tryd.func95 rfl trivial (fun h => ?_) (fun h => ?_)
    · have h : decide ((j : Int) < 0) = true := h
      rw [decide_eq_true_eq] at h
      omega
    refine sat_callG [0] tabOk Tryd.func95 rfl trivial (Del_call l j hj) ⟨⟨_, rfl, .refl _⟩, trivial⟩ ⟨.refl _, .refl _, .of ?_, trivial⟩ rfl rfl rfl ⟨_, rfl⟩ ?_
    · show vI .i64 (IntKind.i64.wrap ((j : Int) + 1)) = vI .i64 ((j + 1 : Nat) : Int)
      rw [wrap_id (by omega) (by omega)]
      rfl
    rintro _ o ⟨rfl, rfl⟩
    exact sat_retL tabOk Tryd.func95 rfl trivial hC hCl (.refl _) (o2 := [some (gIss (l.take j ++ l.drop (j + 1)))]) ⟨.refl _, trivial⟩ rfl rfl (Nat.le_refl _) ⟨rfl, rfl⟩

theorem of_call (s : Sp) : ACall Tryd.prog 23 [.d (eSp s)] [] (fun r o => r = .d (.ifc (if s.1 = true then 80 else 58) (eIs s.2.1))) := by
  refine acall_enter Tryd.func23 rfl rfl (Nat.le_of_ble_eq_true rfl) fun C hC hCl hDs hGk => ?_
  obtain ⟨d, c, ⟨⟩⟩ := s
  cases d with
  | true =>
    refine sat_branch tabOk Tryd.func23 rfl trivial (fun _ => ?_) (fun h => by cases h)
    exact sat_ret tabOk Tryd.func23 rfl trivial rfl
  | false =>
    refine sat_branch tabOk Tryd.func23 rfl trivial (fun h => by cases h) (fun _ => ?_)
    exact sat_ret tabOk Tryd.func23 rfl trivial rfl
end Go.Proofs.YtffomfbbplpljaaDoor
namespace Go.Proofs.YtffomfbbplpljaaDoor
open Go Ab Go.RowKit
set_option maxRecDepth 100000
set_option linter.unusedVariables false
set_option linter.unusedSimpArgs false
set_option maxHeartbeats 4000000

/-- What a step leaves of the clauses; none: it can't. -/
noncomputable def stepR (l : List (List Int)) (s : Sp) : Option (List (List Int)) := if s.1 = true then takeR l s.2.1 else if refB l s.2.1 = true then some (l ++ [s.2.1]) else none
/-- Where a proof ends, and how. -/
noncomputable def chk : List (List Int) → Nat → List Sp → Nat × Int
  | _, i, [] => (i, 6)
  | l, i, s :: r => match stepR l s with
    | none => (i, if s.1 = true then 4 else 6)
    | some l' => if s.1 = false ∧ s.2.1 = [] then (i, 0) else chk l' (i + 1) r
/-- Clauses that are as they may be. -/
structure Cls (n : Int) (l : List (List Int)) : Prop where
  lit : ∀ c ∈ l, ∀ x ∈ c, litOk n x
  len : ∀ c ∈ l, c.length ≤ 1000
theorem Cls.lits {n : Int} {l : List (List Int)} (h : Cls n l) (hl : l.length ≤ 1000) : lits l ≤ 1000000 := Nat.le_trans (lits_le 1000 l h.len) (Nat.le_trans (Nat.mul_le_mul_right 1000 hl) (by decide))
theorem stepR_cls {n : Int} {l l' : List (List Int)} {s : Sp} (h : Cls n l) (hs : (∀ x ∈ s.2.1, litOk n x) ∧ s.2.1.length ≤ 1000) (he : stepR l s = some l') : Cls n l' ∧ l'.length ≤ l.length + 1 := by
  unfold stepR takeR at he
  split at he
  · cases hf : l.findIdx? (eqS s.2.1) with
    | none => rw [hf] at he; cases he
    | some j =>
      rw [hf] at he
      simp only [Option.map_some, Option.some.injEq] at he
      subst he
      have hm : ∀ c, c ∈ l.take j ++ l.drop (j + 1) → c ∈ l := fun c hc => by
        rcases List.mem_append.1 hc with hc | hc
        · exact List.mem_of_mem_take hc
        · exact List.mem_of_mem_drop hc
      refine ⟨⟨fun c hc => h.lit c (hm c hc), fun c hc => h.len c (hm c hc)⟩, ?_⟩
      simp only [List.length_append, List.length_take, List.length_drop]
      omega
  · split at he
    · cases he
      have hm : ∀ c, c ∈ l ++ [s.2.1] → c ∈ l ∨ c = s.2.1 := fun c hc => by simpa using hc
      refine ⟨⟨fun c hc => ?_, fun c hc => ?_⟩, by simp⟩
      · rcases hm c hc with h1 | rfl
        · exact h.lit c h1
        · exact hs.1
      · rcases hm c hc with h1 | rfl
        · exact h.len c h1
        · exact hs.2
    · cases he
@[reducible] def bCf (n : Int) (l : List (List Int)) : AObj := .cells 24 [vI .i64 n, .d (eIss l)]
theorem meth_takes (v : Value) (w : World) : (Go.method (Tryd.prog.types.size + Made.depth) 80 v "vidimus/drup.do").run Tryd.prog w = .ok (95, v) w := by kernel_rfl
theorem meth_adds (v : Value) (w : World) : (Go.method (Tryd.prog.types.size + Made.depth) 58 v "vidimus/drup.do").run Tryd.prog w = .ok (87, v) w := by kernel_rfl
theorem Check_call {n : Int} {l0 : List (List Int)} {p : List Sp} (hn : 0 ≤ n ∧ n ≤ 100000) (hc : Cls n l0) (hp : ∀ s ∈ p, (∀ x ∈ s.2.1, litOk n x) ∧ s.2.1.length ≤ 1000) (hs : l0.length + p.length ≤ 1000) :
    ACall Tryd.prog 11 [.d (eCnf n l0), .d (eSps p)] [] (fun r o => r = tupOf [vI .i64 ((chk l0 0 p).1 : Int), vI .i64 (chk l0 0 p).2]) := by
  refine acall_enter Tryd.func11 rfl rfl (Nat.le_of_ble_eq_true rfl) fun C hC hCl hDs hGk => ?_
  generalize hq : chk l0 0 p = q at *
  refine sat_callG [] tabOk Tryd.func11 rfl trivial (Clone2_call l0 (by omega)) trivial (.refl _) rfl rfl rfl ⟨_, rfl⟩ ?_
  rintro _ o ⟨rfl, rfl⟩
  refine sat_stop tabOk Tryd.func11 rfl trivial ?_
  refine sat_while (α := Nat × List (List Int)) (fun s => [(1, .d (eSps p)), (2, .ptr 0 0), (6, .gs 1), (17, .d (eSps p)), (18, vI .i64 p.length), (19, vI .i64 (s.1 : Int))]) (fun s => [some (bCf n l0), some (gIss s.2)]) (fun s => s.1 ≤ p.length ∧ Cls n s.2 ∧ s.2.length ≤ l0.length + s.1 ∧ chk s.2 s.1 (p.drop s.1) = q) (fun s => p.length - s.1) (0, l0) ⟨Nat.zero_le _, hc, Nat.le_refl _, hq⟩ ?_ ?_
  · exact fun h => sat_le h hC hCl ⟨⟨_, rfl, .refl _⟩, ⟨_, rfl, .refl _⟩, ⟨_, rfl, .refl _⟩, ⟨_, rfl, .refl _⟩, ⟨_, rfl, .of (by rw [List.length_map])⟩, ⟨_, rfl, .refl _⟩, trivial⟩ ⟨.refl _, .refl _, trivial⟩ rfl rfl (Nat.zero_le _)
  rintro ⟨i, l⟩ ⟨hi, hcl, hll, hck⟩ ih
  simp only at hi hcl hll hck ih ⊢
  refine sat_branch tabOk Tryd.func11 rfl trivial (fun h => ?_) (fun h => ?_)
  rotate_left
  · have h : decide ((i : Int) < (p.length : Int)) = false := h
    rw [decide_eq_false_iff_not] at h
    obtain rfl : i = p.length := by omega
    rw [List.drop_length, chk] at hck
    refine sat_ret tabOk Tryd.func11 rfl trivial ?_
    rw [← hck]
    show tupOf [vI .i64 (((p.map eSp).length : Nat) : Int), vI .i64 6] = _
    rw [List.length_map]
  have h : decide ((i : Int) < (p.length : Int)) = true := h
  rw [decide_eq_true_eq] at h
  have hlt : i < p.length := by omega
  have eg : p.getD i (false, [], ()) = p[i] := by simp [hlt]
  rw [List.drop_eq_getElem_cons hlt, chk] at hck
  have hps := hp _ (List.getElem_mem hlt)
  rw [← eg] at hps hck
  generalize hsi : p.getD i (false, [], ()) = si at *
  have hl1 : l.length ≤ 1000 := by omega
  have hok : Okl n l si.2.1 := ⟨hn.1, hcl.lit, hps.1⟩
  have hlits := hcl.lits hl1
  have hstep := stepR_cls hcl hps (l' := (stepR l si).getD [])
  refine sat_call tabOk Tryd.func11 rfl (by simp only [andP, and_true, true_and, Int.toNat_natCast, List.length_map, List.length_append, List.length_cons, List.length_nil, List.length_replicate]; omega) (of_call (p.getD i (false, [], ()))) (.refl _) rfl ⟨_, rfl⟩ ?_ ?_
  · rintro r o rfl
    rfl
  rintro _ o rfl
  rw [hsi]
  refine sat_steps 8 tabOk Tryd.func11 rfl trivial ?_
  obtain ⟨d, c, ⟨⟩⟩ := si
  simp only at hck hps hok
  have hlim : ∀ d ∈ l, (∀ x ∈ d, -1000000 ≤ x ∧ x ≤ 1000000) ∧ d.length ≤ 1000000 := fun d hd => ⟨fun x hx => litOk_b (hcl.lit d hd x hx) hn.2, Nat.le_trans (hcl.len d hd) (by decide)⟩
  cases d with
  | true =>
    refine sat_invokeG [1] rfl rfl rfl rfl meth_takes rfl (takes_call (l := l) (c := c) n hlim (fun x hx => litOk_b (hps.1 x hx) hn.2) (Nat.le_trans hps.2 (by decide)) (by omega)) (callFunc_run Tryd.func95 rfl rfl) ⟨⟨_, rfl, .refl _⟩, trivial⟩ (.refl _) rfl rfl rfl ⟨_, rfl⟩ ?_
    rintro _ o ⟨rfl, rfl⟩
    refine sat_steps 9 tabOk Tryd.func11 rfl trivial ?_
    refine sat_le (env' := [(1, .d (eSps p)), (2, .ptr 0 0), (17, .d (eSps p)), (18, vI .i64 p.length), (19, vI .i64 (i : Int)), (7, vI .i64 (i : Int)), (10, .gs 1), (11, vB (takeR l c).isSome), (35, .d (.ifc 80 (eIs c)))]) (objs' := [some (bCf n l0), some (gIss ((takeR l c).getD l))]) ?_ hC hCl ⟨⟨_, rfl, .refl _⟩, ⟨_, rfl, .refl _⟩, ⟨_, rfl, .refl _⟩, ⟨_, rfl, .refl _⟩, ⟨_, rfl, .refl _⟩, ⟨_, rfl, .refl _⟩, ⟨_, rfl, .refl _⟩, ⟨_, rfl, .refl _⟩, ⟨_, rfl, .refl _⟩, trivial⟩ ⟨.refl _, .refl _, trivial⟩ rfl rfl (Nat.zero_le _)
    refine sat_assertN (t2 := 80) rfl rfl rfl rfl (by decide) (d := .slice _) rfl rfl Tryd.zeroValue58 rfl rfl ?_
    unfold stepR at hck hstep
    simp only [if_true] at hck hstep
    cases ht : takeR l c with
    | none =>
      rw [ht] at hck
      refine sat_branch tabOk Tryd.func11 rfl trivial (fun _ => ?_) (fun h => by cases h)
      refine sat_branch tabOk Tryd.func11 rfl trivial (fun h => by cases h) (fun _ => ?_)
      refine sat_branch tabOk Tryd.func11 rfl trivial (fun _ => ?_) (fun h => by cases h)
      refine sat_ret tabOk Tryd.func11 rfl trivial ?_
      rw [← hck]
    | some l' =>
      rw [ht] at hck hstep
      obtain ⟨k1, k2⟩ := hstep rfl
      simp only [Option.getD_some] at k1 k2
      simp only [reduceCtorEq, false_and, if_false] at hck
      refine sat_branch tabOk Tryd.func11 rfl trivial (fun h => by cases h) (fun _ => ?_)
      refine sat_branch tabOk Tryd.func11 rfl trivial (fun h => by cases h) (fun _ => ?_)
      refine sat_branch tabOk Tryd.func11 rfl trivial (fun h => by cases h) (fun _ => ?_)
      refine sat_branch tabOk Tryd.func11 rfl trivial (fun h => by cases h) (fun _ => ?_)
      refine sat_branch tabOk Tryd.func11 rfl trivial (fun h => by cases h) (fun _ => ?_)
      refine sat_stop tabOk Tryd.func11 rfl trivial ?_
      exact sat_le (ih (i + 1, l') ⟨by omega, k1, by simp only; omega, hck⟩ (by simp only; omega)) hC hCl ⟨⟨_, rfl, .refl _⟩, ⟨_, rfl, .refl _⟩, ⟨_, rfl, .refl _⟩, ⟨_, rfl, .refl _⟩, ⟨_, rfl, .refl _⟩, ⟨_, rfl, .of (by rw [wrap_id (by omega) (by omega)]; rfl)⟩, trivial⟩ ⟨.refl _, .refl _, trivial⟩ rfl rfl (Nat.zero_le _)
  | false =>
    refine sat_invokeG [1] rfl rfl rfl rfl meth_adds rfl (adds_call (l := l) (c := c) hok hn.2 hlits (Nat.le_trans hps.2 (by decide)) (by omega)) (callFunc_run Tryd.func87 rfl rfl) ⟨⟨_, rfl, .refl _⟩, trivial⟩ (.refl _) rfl rfl rfl ⟨_, rfl⟩ ?_
    rintro _ o ⟨rfl, rfl⟩
    refine sat_steps 9 tabOk Tryd.func11 rfl trivial ?_
    refine sat_le (env' := [(1, .d (eSps p)), (2, .ptr 0 0), (17, .d (eSps p)), (18, vI .i64 p.length), (19, vI .i64 (i : Int)), (7, vI .i64 (i : Int)), (10, .gs 1), (11, vB (refB l c)), (35, .d (.ifc 58 (eIs c)))]) (objs' := [some (bCf n l0), some (gIss (if refB l c = true then l ++ [c] else l))]) ?_ hC hCl ⟨⟨_, rfl, .refl _⟩, ⟨_, rfl, .refl _⟩, ⟨_, rfl, .refl _⟩, ⟨_, rfl, .refl _⟩, ⟨_, rfl, .refl _⟩, ⟨_, rfl, .refl _⟩, ⟨_, rfl, .refl _⟩, ⟨_, rfl, .refl _⟩, ⟨_, rfl, .refl _⟩, trivial⟩ ⟨.refl _, .refl _, trivial⟩ rfl rfl (Nat.zero_le _)
    refine sat_assertY rfl rfl rfl rfl (d := .slice _) rfl rfl rfl ?_
    unfold stepR at hck hstep
    simp only [Bool.false_eq_true, if_false] at hck hstep
    cases ht : refB l c with
    | false =>
      rw [ht] at hck
      refine sat_branch tabOk Tryd.func11 rfl trivial (fun _ => ?_) (fun h => by cases h)
      refine sat_branch tabOk Tryd.func11 rfl trivial (fun _ => ?_) (fun h => by cases h)
      refine sat_ret tabOk Tryd.func11 rfl trivial ?_
      rw [← hck]
      rfl
    | true =>
      rw [ht] at hck hstep
      obtain ⟨k1, k2⟩ := hstep rfl
      simp only [if_true, Option.getD_some] at k1 k2
      simp only [if_true, true_and] at hck
      refine sat_branch tabOk Tryd.func11 rfl trivial (fun h => by cases h) (fun _ => ?_)
      refine sat_branch tabOk Tryd.func11 rfl trivial (fun h => by cases h) (fun _ => ?_)
      refine sat_branch tabOk Tryd.func11 rfl trivial (fun h => by cases h) (fun _ => ?_)
      refine sat_branch tabOk Tryd.func11 rfl trivial (fun _ => ?_) (fun h => by cases h)
      refine sat_branch tabOk Tryd.func11 rfl trivial (fun h3 => ?_) (fun h3 => ?_)
      · have h3 : ((((c.map eI).length : Nat) : Int) == 0) = true := h3
        rw [beq_iff_eq, List.length_map] at h3
        have h3 : c = [] := List.length_eq_zero_iff.1 (by omega)
        rw [if_pos h3] at hck
        refine sat_ret tabOk Tryd.func11 rfl trivial ?_
        rw [← hck]
      · have h3 : ((((c.map eI).length : Nat) : Int) == 0) = false := h3
        rw [beq_eq_false_iff_ne, List.length_map] at h3
        have h3 : ¬ c = [] := fun e => h3 (by rw [e]; rfl)
        rw [if_neg h3] at hck
        refine sat_stop tabOk Tryd.func11 rfl trivial ?_
        exact sat_le (ih (i + 1, l ++ [c]) ⟨by omega, k1, by simp only; omega, hck⟩ (by simp only; omega)) hC hCl ⟨⟨_, rfl, .refl _⟩, ⟨_, rfl, .refl _⟩, ⟨_, rfl, .refl _⟩, ⟨_, rfl, .refl _⟩, ⟨_, rfl, .refl _⟩, ⟨_, rfl, .of (by rw [wrap_id (by omega) (by omega)]; rfl)⟩, trivial⟩ ⟨.refl _, .refl _, trivial⟩ rfl rfl (Nat.zero_le _)
end Go.Proofs.YtffomfbbplpljaaDoor
