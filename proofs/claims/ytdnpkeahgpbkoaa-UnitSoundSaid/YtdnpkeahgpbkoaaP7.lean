/- A part of the proof: U6, Ab35, U7, U8, U9, Ab38, U10, Ab39, U11, U12, U13, U14, U15, U16, U17, U18, U21, U22, U23, U24. -/
import Derived.Test.YtdnpkeahgpbkoaaP6
import Derived.Lib.SliceRun
set_option linter.unusedVariables false
set_option linter.unusedSimpArgs false
namespace Go.Proofs.Ytdnpkeahgpbkoaa
open Go Ab Go.Shelf Go.RowKit Go.Lib Go.Sort
set_option maxRecDepth 100000
set_option linter.unusedVariables false
set_option linter.unusedSimpArgs false

theorem gives27 (x : Int) (W : World) : FnGives Try.prog 27 #[] #[.int .i64 x] (.bool (decide (x = 0))) W := by
  show Calls Try.prog 27 #[.int .i64 x] W _
  go_enter Try.func27, Try.ntmps27
  go_wp2
  all_goals (go_ret; exact ⟨by cases h : (x == 0) <;> simp_all, 0, rfl⟩)

theorem delOk : DelOk := by
  intro xs hne
  intro X π w vs m hv
  refine .inl ⟨callFunc_run Try.func26 rfl rfl _ _, ?_⟩
  cases hv with
  | cons hv ht =>
    cases ht with
    | cons hg ht =>
      cases ht
      cases hg with | d hg => cases hg with | v _ =>
      obtain ⟨h, hp, hrel⟩ := m.obj 0 _ rfl
      have hlenπ := m.len
      obtain ⟨h0, rfl⟩ : ∃ h0, π = [h0] := by
        cases π with
        | nil => cases hlenπ
        | cons a r => cases r with
          | nil => exact ⟨a, rfl⟩
          | cons _ _ => simp at hlenπ
      cases hp
      cases hv with
      | gs hh =>
        cases hh
        rename_i n c A
        have hrel' : RelO w _ _ (.grow 3 1 (xs.map fun x => D.v (Value.int .i64 x)) (fun i => eI (xs.getD i 0))) (.slice A n c) := hrel
        obtain ⟨b, o, c', rfl, rfl⟩ : ∃ b o c', A = some ⟨b, o, none⟩ ∧ c = c' + 1 := by
          generalize hxs : (xs.map fun x => D.v (Value.int .i64 x)) = ys at hrel'
          cases hrel' with
          | gnil => exact absurd (List.map_eq_nil_iff.1 hxs) hne
          | grow _ _ _ _ _ _ _ _ => exact ⟨_, _, _, rfl, rfl⟩
        obtain ⟨q1, q2, q3, q4, q5⟩ := holds_row hrel'
        subst q2
        have hml : maxLen = 9223372036854775807 := rfl
        have eg : ∀ args w, (callFunc 27 args).run Try.prog w = .ok (.enter 27 args) w := fun args w => callFunc_run Try.func27 rfl rfl args w
        have hcall := AnyE.slices_DeleteFunc Try.delL (Value.int .i64) (fun _ => rfl) (fun x => decide (x = 0)) 27 #[] eg 0 Try.zeroValue3 b o (c' + 1) xs.toArray w (fun W x _ => gives27 x W) (fun n os dk x _ => gives27 x _) q1 (by simp; omega) (by simp; omega)
        simp only [List.size_toArray] at hcall
        have hf : (xs.filter fun x => !decide (x = 0)) = xs.filter (· ≠ 0) := by congr 1; funext x; simp
        rw [hf] at hcall
        have hle : (xs.filter (· ≠ 0)).length ≤ xs.length := List.length_filter_le _ _
        generalize xs.filter (· ≠ 0) = F at hcall hle
        refine Calls.mono hcall ?_
        rintro e' w' ⟨rfl, q, rfl⟩
        have htr := row_tr (q := q) (os := #[]) (k := F.length) (L := F ++ List.replicate (xs.length - F.length) 0) (rd' := fun i => eI (F.getD i 0)) (enc := Value.int .i64) (fun _ => rfl) m (by simp; omega) (by simp) (by
          intro i hi
          rw [List.take_left]
          simp [List.getD_eq_getElem?_getD, hi, eI])
        rw [List.take_left] at htr
        unfold sortWorld at htr
        rw [grow_empty] at htr
        refine ⟨_, .gs 0, _, _, rfl, ⟨rfl, rfl⟩, htr.mem, .gs rfl, htr.hist⟩

theorem compactUpTo_le (d : Array Int) : ∀ m, (compactUpTo d m).length ≤ m
  | 0 => by simp [compactUpTo]
  | m + 1 => by
    rw [compactUpTo_succ]
    have := compactUpTo_le d m
    split <;> simp <;> omega

/-- What Compact leaves. -/
theorem compact_call (xs : List Int) : ACall Try.prog 32 [.gs 0] [some (gIs xs)] (fun r o => r = .gs 0 ∧ o = [some (gIs (Lib.compact xs))]) := by
  intro X π w vs m hv
  refine .inl ⟨callFunc_run Try.func32 rfl rfl _ _, ?_⟩
  cases hv with
  | cons hv ht =>
    cases ht
    obtain ⟨h, hp, hrel⟩ := m.obj 0 _ rfl
    have hlenπ := m.len
    obtain ⟨h0, rfl⟩ : ∃ h0, π = [h0] := by
      cases π with
      | nil => cases hlenπ
      | cons a r => cases r with
        | nil => exact ⟨a, rfl⟩
        | cons _ _ => simp at hlenπ
    cases hp
    cases hv with
    | gs hh =>
      cases hh
      rename_i n c A
      have hrel' : RelO w _ _ (.grow 3 1 (xs.map fun x => D.v (Value.int .i64 x)) (fun i => eI (xs.getD i 0))) (.slice A n c) := hrel
      by_cases hgn : ∃ b o c', A = some ⟨b, o, none⟩ ∧ c = c' + 1
      · obtain ⟨b, o, c', rfl, rfl⟩ := hgn
        obtain ⟨q1, q2, q3, q4, q5⟩ := holds_row hrel'
        subst q2
        have hml : maxLen = 9223372036854775807 := rfl
        have hcall := AnyG.slices_Compact_int Try.compactL b o (c' + 1) xs w q1 (by omega) q4
        have hle : (Lib.compact xs).length ≤ xs.length := compactUpTo_le _ _
        generalize Lib.compact xs = F at hcall hle
        refine Calls.mono hcall ?_
        rintro e' w' ⟨rfl, q, rfl⟩
        have htr := row_tr (q := q) (os := #[]) (k := F.length) (L := F ++ List.replicate (xs.length - F.length) 0) (rd' := fun i => eI (F.getD i 0)) (enc := Value.int .i64) (fun _ => rfl) m (by simp; omega) (by simp) (by
          intro i hi
          rw [List.take_left]
          simp [List.getD_eq_getElem?_getD, hi, eI])
        rw [List.take_left] at htr
        unfold sortWorld at htr
        rw [grow_empty] at htr
        refine ⟨_, .gs 0, _, _, rfl, ⟨rfl, rfl⟩, htr.mem, .gs rfl, htr.hist⟩
      · have hnil : xs = [] ∧ n = 0 ∧ c = 0 := by
          generalize hxs : (xs.map fun x => D.v (Value.int .i64 x)) = ys at hrel'
          cases hrel' with
          | gnil => exact ⟨List.map_eq_nil_iff.1 hxs, rfl, rfl⟩
          | grow _ _ _ _ _ _ _ _ => exact absurd ⟨_, _, _, rfl, rfl⟩ hgn
        obtain ⟨rfl, rfl, rfl⟩ := hnil
        refine Calls.mono (AnyG.slices_Compact_int_empty Try.compactL A 0 w) ?_
        rintro e' w' ⟨rfl, rfl⟩
        refine ⟨_, .gs 0, _, _, rfl, ⟨rfl, ?_⟩, m, .gs rfl, .refl _ _ _⟩
        rfl
end Go.Proofs.Ytdnpkeahgpbkoaa
set_option linter.unusedSimpArgs false
set_option linter.unusedVariables false
namespace Ab
open Go

section
variable {P : Program} {T : Tab} {f : FuncId} {fn : Func} {n : Nat} {C : Cx} {R R1 : AV → List (Option AObj) → Prop} {todo todo' : List Item} {env env' : Env} {objs objs' : List (Option AObj)} {nd : Prop}

theorem sat_isnil {ops : Array Oper} {i : Nat} {r : List Nat} {k : List Item} {o : Oper} {e1 e2 : Env} {t ty e : TypeId} {xo : Operand} {rr : TRow} {s : Nat} {xs : List D} {rd : Nat → D} (hT : TabOk P T)
    (ho : ops[i]? = some o) (hw : wantE ops env o = .yes) (hop : o.op = .binOp .eql t xo (.const (.slice none 0 0)) ty) (hx : opnd env xo = some (.d (.sl s xs rd))) (h1 : tlook T t = some rr) (h2 : rr.kd = .slice e)
    (hput1 : putE n o.dst (.lit true) env = some e1) (hput2 : putE n o.dst (.lit false) env = some e2)
    (k1 : xs = [] → ASat P f n C (.inRegion ops r :: k) e1 objs R) (k2 : ASat P f n C (.inRegion ops r :: k) e2 objs R) : ASat P f n C (.inRegion ops (i :: r) :: k) env objs R := by
  intro π w tmps hn hm hh he
  have hv := opnd_rel (ds := []) he hx
  have ht : P.underlying t = some (.slice e) := by
    have := kdTy_of hT h1
    rwa [h2] at this
  have hrun : ∀ {v : Value} {b : Bool}, Act.eval ⟨tmps, []⟩ xo = v → (∀ cs, v ≠ .agg cs) → nonArith v → (Op.equal t v (.slice none 0 0)).run P w = .ok b w → (execOp (Act.eval ⟨tmps, []⟩) o).run P w = .ok (.value (.bool b)) w := by
    intro v b h3 h4 h5 h6
    unfold execOp
    simp only [hop, h3]
    have hg := guard_nil (P := P) (op := .eql) (t := t) (xo := xo) (yo := .const (.slice none 0 0)) (a := v) (b := .slice none 0 0) (by simp [isC]) h4 w
    have h7 : Act.eval ⟨tmps, []⟩ (.const (.slice none 0 0)) = .slice none 0 0 := rfl
    rw [h7]
    simp only [Sem.run_bind, hg, Result.andThen_ok, binOp_eql h5, h6, Sem.run_pure]
  generalize hev : Act.eval ⟨tmps, []⟩ xo = v at hv
  cases hv with
  | d hv =>
    cases hv with
    | nil hb =>
      rename_i c A
      cases A with
      | none =>
        obtain ⟨p1, p2⟩ := put_rel he hn hput1 (.lit (w := w) (ok := okOf C.X π objs) (π := π))
        refine .opVal ho ((wanted_of he).1 hw) (hrun hev (by simp) trivial (run_equal_of fun d => ?_)) (k1 rfl π w _ p2 hm hh p1)
        simp [Op.equalIn, run_underlying ht]
      | some a =>
        obtain ⟨p1, p2⟩ := put_rel he hn hput2 (.lit (w := w) (ok := okOf C.X π objs) (π := π))
        refine .opVal ho ((wanted_of he).1 hw) (hrun hev (by simp) trivial (run_equal_of fun d => ?_)) (k2 π w _ p2 hm hh p1)
        simp [Op.equalIn, run_underlying ht]
    | sl a1 a2 a3 a4 a5 =>
      obtain ⟨p1, p2⟩ := put_rel he hn hput2 (.lit (w := w) (ok := okOf C.X π objs) (π := π))
      refine .opVal ho ((wanted_of he).1 hw) (hrun hev (by simp) trivial (run_equal_of fun d => ?_)) (k2 π w _ p2 hm hh p1)
      simp [Op.equalIn, run_underlying ht]

/-! ### A slice's header is kept -/
theorem sat_hold (t i : Nat) (hl : look env t = some (.gs i)) (k : ∀ v, flat v = true → ASat P f n C todo ((t, .d (.v v)) :: env) (objs ++ [some (.hold (.gs i) v)]) R) : ASat P f n C todo env objs R := by
  intro π w tmps hn hm hh he
  have hv := he t _ hl
  have hfl : flat (tmps.getD t undef) = true := by
    revert hv
    generalize tmps.getD t undef = v
    intro hv
    cases hv
    rfl
  have htr : Tr C.X π objs w none (π ++ [.tuple #[]]) (objs ++ [some (.hold (.gs i) (tmps.getD t undef))]) w :=
    tr_newW hm rfl rfl ⟨rfl, Nat.le_refl _⟩ (Nat.le_refl _) (fun _ _ => rfl) _ _ (by intro b e; cases e)
      (.hold (hv.mono (new_keepsW (fun _ _ => rfl) _ _ hm.len (by intro b e; cases e)) (new_hand _)))
  refine k _ hfl _ w tmps hn htr.mem (hist_tr hh htr) fun u c hu => ?_
  simp only [look] at hu
  split at hu
  · rename_i e
    have e' : t = u := by simpa using e
    cases hu
    subst e'
    exact .d (.v hfl)
  · exact env_tr he htr u c hu
theorem sat_unhold (t m : Nat) {a : AV} {v : Value} (hl : look env t = some (.d (.v v))) (ho : nth objs m = some (some (.hold a v))) (k : ASat P f n C todo ((t, a) :: env) objs R) : ASat P f n C todo env objs R := by
  intro π w tmps hn hm hh he
  obtain ⟨h, hp, hrel⟩ := hm.obj m _ ho
  refine k _ w tmps hn hm hh fun u c hu => ?_
  simp only [look] at hu
  split at hu
  · rename_i e
    have e' : t = u := by simpa using e
    cases hu
    subst e'
    have hv := he t _ hl
    revert hv
    generalize tmps.getD t undef = x
    intro hv
    cases hv with | d hv => cases hv with | v _ => cases hrel with | hold h => exact h
  · exact he u c hu
end
end Ab
namespace Go.Proofs.Ytdnpkeahgpbkoaa
open Go Ab
set_option maxRecDepth 100000
set_option linter.unusedVariables false
set_option linter.unusedSimpArgs false

theorem Clone_call (c : List Int) (hlen : c.length ≤ 1000000) : ACall Try.prog 29 [.d (eIs c)] [] (fun r o => r = .gs 0 ∧ o = [some (gIs c)]) := by
  refine acall_enter Try.func29 rfl rfl (Nat.le_of_ble_eq_true rfl) fun C hC hCl => ?_
  have hC0 : C.objs.length ≤ [some (gIs c)].length := by rw [hC]; exact Nat.zero_le _
  refine sat_goto tabOk Try.func29 rfl trivial ?_
  refine sat_isnil tabOk rfl rfl rfl rfl rfl rfl rfl rfl (fun hx => ?_) ?_
  · have hc : c = [] := List.map_eq_nil_iff.1 hx
    subst hc
    refine sat_steps 6 tabOk Try.func29 rfl trivial ?_
    refine sat_own (e := 3) (s := 1) (t := 2) (.inl rfl) (fun i => eI (([] : List Int).getD i 0)) ?_
    refine sat_retL tabOk Try.func29 rfl trivial hC hCl (.refl _) (o2 := [some (gIs [])]) ⟨.refl _, trivial⟩ rfl rfl (Nat.zero_le _) ⟨rfl, rfl⟩
  · refine sat_retL tabOk Try.func29 rfl ?_ hC hCl (.refl _) (o2 := [some (gIs c)]) ⟨.gL rfl, trivial⟩ rfl rfl (Nat.zero_le _) ⟨rfl, rfl⟩
    simp only [andP, List.length_map]
    exact ⟨by show c.length * 8 ≤ _; omega, trivial⟩

abbrev Sm := {x : Int // -1000000 ≤ x ∧ x ≤ 1000000}
instance : Inhabited Sm := ⟨⟨0, by omega, by omega⟩⟩
def encS (x : Sm) : Value := .int .i64 x.1
def cfS (x y : Sm) : Int := byI x.1 y.1
theorem cmpI_lt (a b : Int) : cmpI a b < 0 ↔ a < b := by
  unfold cmpI
  split
  · simp; assumption
  · split <;> simp <;> omega
theorem cmpI_eq (a b : Int) : cmpI a b = 0 ↔ a = b := by
  unfold cmpI
  split
  · simp; omega
  · split
    · simp; omega
    · simp; omega
/-- By their variables, the one below 0 first. -/
def ltI (a b : Int) : Prop := max a (-a) < max b (-b) ∨ (max a (-a) = max b (-b) ∧ a < b)
instance (a b : Int) : Decidable (ltI a b) := by unfold ltI; infer_instance
theorem byI_lt (a b : Int) : byI a b < 0 ↔ ltI a b := by
  unfold byI ltI
  split
  · rename_i h
    rw [cmpI_eq] at h
    rw [cmpI_lt]
    omega
  · rename_i h
    rw [cmpI_eq] at h
    rw [cmpI_lt]
    omega
theorem ltS (x y : Sm) : Go.Proofs.ltOf cfS x y = decide (ltI x.1 y.1) := by
  have : Go.Proofs.ltOf cfS x y = decide (byI x.1 y.1 < 0) := rfl
  rw [this]
  simp only [byI_lt]
theorem ltI_trans {x y z : Int} (h : ltI x y) (k : ltI y z) : ltI x z := by unfold ltI at *; omega
theorem ltI_ntrans {x y z : Int} (h : ¬ ltI x y) (k : ¬ ltI y z) : ¬ ltI x z := by unfold ltI at *; omega
theorem ltI_tot {x y : Int} (h : ¬ ltI x y) (k : ¬ ltI y x) : x = y := by unfold ltI at *; omega
theorem ltI_irr (x : Int) : ¬ ltI x x := by unfold ltI; omega
theorem swoS : Go.Sort.SWO (Go.Proofs.ltOf cfS) where
  irrefl x := by rw [ltS]; simpa using ltI_irr x.1
  trans x y z h1 h2 := by
    rw [ltS, decide_eq_true_eq] at h1 h2 ⊢
    exact ltI_trans h1 h2
  ntrans x y z h1 h2 := by
    rw [ltS, decide_eq_false_iff_not] at h1 h2 ⊢
    exact ltI_ntrans h1 h2
theorem totS (x y : Sm) (h1 : Go.Proofs.ltOf cfS x y = false) (h2 : Go.Proofs.ltOf cfS y x = false) : x = y := by
  rw [ltS, decide_eq_false_iff_not] at h1 h2
  exact Subtype.ext (ltI_tot h1 h2)
def leI (x y : Int) : Bool := !decide (ltI y x)
def sortU (c : List Int) : List Int := Lib.compact (c.mergeSort leI)

def toS (x : Int) : Sm := if h : -1000000 ≤ x ∧ x ≤ 1000000 then ⟨x, h⟩ else default
theorem toS_val {x : Int} (h : -1000000 ≤ x ∧ x ≤ 1000000) : (toS x).1 = x := by simp [toS, h]
theorem sorted_val (cs : List Sm) : (cs.mergeSort fun x y => !(Go.Proofs.ltOf cfS) y x).map (·.1) = (cs.map (·.1)).mergeSort leI := by
  refine List.map_mergeSort fun a _ b _ => ?_
  rw [ltS]
  rfl

theorem SortFunc_call (c : List Int) (hc : ∀ x ∈ c, -1000000 ≤ x ∧ x ≤ 1000000) (hlen : c.length ≤ 1000000) (v : Value) :
    ACall Try.prog 30 [.gs 0, .d (.v (.func (.func 31) #[] #[]))] [some (gIs c), some (.hold (.gs 0) v)] (fun r o => r = .tp [] ∧ o = [some (gIs (c.mergeSort leI)), some (.hold (.gs 0) v)]) := by
  have e0 : (c.map toS).map (·.1) = c := by
    rw [List.map_map]
    conv => rhs; rw [← List.map_id c]
    exact List.map_congr_left fun x hx => toS_val (hc x hx)
  have h := sortFunc_acall Try.sortL (enc := encS) (fun _ => rfl) (fun _ => rfl) swoS totS (g := 31) (fun args w => callFunc_run Try.func31 rfl rfl args w) (fun args w => callFunc_run Try.func30 rfl rfl args w) (fun x y => by_call x.1 y.1 x.2 y.2) 3 (c.map toS) (fun i => eI (c.getD i 0)) (by simp; omega) v
  have e1 : ∀ l : List Sm, l.map (fun x => D.v (encS x)) = (l.map (·.1)).map eI := by intro l; rw [List.map_map]; rfl
  rw [e1, e0] at h
  refine h.less ?_
  rintro r o ⟨rfl, rfl⟩
  refine ⟨.tp [], [some (gIs (c.mergeSort leI)), some (.hold (.gs 0) v)], ⟨rfl, rfl⟩, .refl _, ⟨.gL ?_, .refl _, trivial⟩, rfl, rfl, Nat.le_refl _⟩
  rw [e1, sorted_val, e0]

theorem Sort_call (c : List Int) (hc : ∀ x ∈ c, -1000000 ≤ x ∧ x ≤ 1000000) (hlen : c.length ≤ 1000000) : ACall Try.prog 17 [.d (eIs c)] [] (fun r o => r = .d (eIs (sortU c))) := by
  refine acall_enter Try.func17 rfl rfl (Nat.le_of_ble_eq_true rfl) fun C hC hCl => ?_
  refine sat_callG [] tabOk Try.func17 rfl trivial (Clone_call c hlen) trivial (.refl _) rfl rfl rfl ⟨_, rfl⟩ ?_
  rintro r o ⟨rfl, rfl⟩
  refine sat_steps 5 tabOk Try.func17 rfl trivial ?_
  refine sat_hold 3 0 rfl fun v hv => ?_
  refine sat_callG [0, 1] tabOk Try.func17 rfl trivial (SortFunc_call c hc hlen v) ⟨⟨_, rfl, .refl _⟩, ⟨_, rfl, .refl _⟩, trivial⟩ (.refl _) rfl rfl rfl ⟨_, rfl⟩ ?_
  rintro r o ⟨rfl, rfl⟩
  refine sat_unhold 3 1 rfl rfl ?_
  refine sat_callG [0] tabOk Try.func17 rfl trivial (compact_call (c.mergeSort leI)) ⟨⟨_, rfl, .refl _⟩, trivial⟩ (.refl _) rfl rfl rfl ⟨_, rfl⟩ ?_
  rintro r o ⟨rfl, rfl⟩
  refine sat_freeze 0 rfl ?_
  refine sat_ret tabOk Try.func17 rfl trivial ?_
  rfl
end Go.Proofs.Ytdnpkeahgpbkoaa
namespace Go.Proofs.Ytdnpkeahgpbkoaa
open Go Ab
set_option maxRecDepth 100000
set_option linter.unusedVariables false
set_option linter.unusedSimpArgs false

theorem Ints_call (a b : List Int) : ACall Try.prog 14 [.d (eIs a), .d (eIs b)] [] (fun r o => r = vB (decide (a = b))) := by
  refine acall_enter Try.func14 rfl rfl (Nat.le_of_ble_eq_true rfl) fun C hC hCl => ?_
  refine sat_len (t := 0) rfl fun hlen => ?_
  rw [List.length_map] at hlen
  refine sat_branch tabOk Try.func14 rfl trivial (fun h => ?_) (fun h => ?_)
  · refine sat_ret tabOk Try.func14 rfl trivial ?_
    show vB false = vB _
    have : a ≠ b := by rintro rfl; simp at h
    simp [this]
  · have hl : a.length = b.length := by simp at h; omega
    refine sat_stop tabOk Try.func14 rfl trivial ?_
    refine sat_while (α := Nat) (fun i => [(0, .d (eIs a)), (1, .d (eIs b)), (5, vI .i64 i)]) (fun _ => []) (fun i => i ≤ a.length ∧ a.take i = b.take i) (fun i => a.length - i) 0 ⟨Nat.zero_le _, rfl⟩ ?_ ?_
    · exact fun h => sat_le h hC hCl ⟨⟨_, rfl, .refl _⟩, ⟨_, rfl, .refl _⟩, ⟨_, rfl, .refl _⟩, trivial⟩ trivial rfl rfl (Nat.zero_le _)
    · rintro i ⟨hi, hc⟩ ih
      refine sat_branch tabOk Try.func14 rfl trivial (fun hb => ?_) (fun hb => ?_) <;> simp only [decide_eq_true_eq, decide_eq_false_iff_not, List.length_map] at hb
      · have hlt : i < a.length := by omega
        have hlb : i < b.length := by omega
        refine sat_draw tabOk Try.func14 rfl rfl trivial (by kernel_rfl) rfl ?_ ?_
        · simp only [Int.toNat_natCast, List.length_map]; exact ⟨⟨by omega, by omega⟩, ⟨by omega, by omega⟩, trivial⟩
        have ea : a.getD i 0 = a[i] := by simp [hlt]
        have eb : b.getD i 0 = b[i] := by simp [hlb]
        refine sat_branch tabOk Try.func14 rfl trivial (fun hb2 => ?_) (fun hb2 => ?_)
        · have hb2 : a.getD i 0 ≠ b.getD i 0 := by simpa using hb2
          refine sat_ret tabOk Try.func14 rfl trivial ?_
          show vB false = vB _
          have : a ≠ b := by rintro rfl; exact hb2 rfl
          simp [this]
        · have hb2 : a.getD i 0 = b.getD i 0 := by simpa using hb2
          rw [ea, eb] at hb2
          refine sat_stop tabOk Try.func14 rfl trivial ?_
          refine sat_le (ih (i + 1) ⟨by omega, ?_⟩ (by omega)) hC hCl ⟨⟨_, rfl, .refl _⟩, ⟨_, rfl, .refl _⟩, ⟨_, rfl, .of (by rw [wrap_id (by omega) (by omega)]; rfl)⟩, trivial⟩ trivial rfl rfl (Nat.zero_le _)
          rw [List.take_add_one, List.take_add_one, hc, List.getElem?_eq_getElem hlt, List.getElem?_eq_getElem hlb, hb2]
      · obtain rfl : i = a.length := by omega
        rw [List.take_length, hl, List.take_length] at hc
        refine sat_ret tabOk Try.func14 rfl trivial ?_
        show vB true = vB _
        simp [hc]

/-! ### Formulas -/
@[reducible] def eCnf (n : Int) (l : List (List Int)) : D := .ag [eI n, eIss l]
theorem Small_call (n : Int) (l : List (List Int)) (m : Int) (hll : l.length ≤ maxLen) : ACall Try.prog 22 [.d (eCnf n l), vI .i64 m] [] (fun r o => r = vB (decide ((l.length : Int) ≤ m) && l.all (fun c => decide ((c.length : Int) ≤ m)))) := by
  have hml : maxLen = 9223372036854775807 := rfl
  refine acall_enter Try.func22 rfl rfl (Nat.le_of_ble_eq_true rfl) fun C hC hCl => ?_
  refine sat_branch tabOk Try.func22 rfl trivial (fun h => ?_) (fun h => ?_)
  · refine sat_ret tabOk Try.func22 rfl trivial ?_
    show vB false = vB _
    have : ¬ (l.length : Int) ≤ m := by simpa using h
    simp [this]
  · have hm : (l.length : Int) ≤ m := by simpa using h
    refine sat_stop tabOk Try.func22 rfl trivial ?_
    refine sat_while (α := Nat) (fun i => [(1, vI .i64 m), (2, .ptr 0 0), (5, vI .i64 i)]) (fun _ => [some (.cells 35 [.d (eI n), .d (eIss l)])]) (fun i => i ≤ l.length ∧ l.all (fun c => decide ((c.length : Int) ≤ m)) = (l.drop i).all (fun c => decide ((c.length : Int) ≤ m))) (fun i => l.length - i) 0 ⟨Nat.zero_le _, rfl⟩ ?_ ?_
    · exact fun h => sat_le h hC hCl ⟨⟨_, rfl, .refl _⟩, ⟨_, rfl, .refl _⟩, ⟨_, rfl, .refl _⟩, trivial⟩ ⟨.refl _, trivial⟩ rfl rfl (Nat.zero_le _)
    · rintro i ⟨hi, hc⟩ ih
      refine sat_branch tabOk Try.func22 rfl trivial (fun hb => ?_) (fun hb => ?_) <;> simp only [decide_eq_true_eq, decide_eq_false_iff_not, List.length_map] at hb
      · have hlt : i < l.length := by omega
        have hget : l.getD i [] = l[i] := by simp [hlt]
        rw [List.drop_eq_getElem_cons hlt, List.all_cons] at hc
        generalize hx : l[i] = c at *
        refine sat_branch tabOk Try.func22 rfl ?_ (fun hb2 => ?_) (fun hb2 => ?_)
        · simp only [Int.toNat_natCast, List.length_map]; exact ⟨⟨by omega, by omega⟩, trivial⟩
        · have hb2 : ¬ (c.length : Int) ≤ m := by rw [← hget]; simpa using hb2
          refine sat_ret tabOk Try.func22 rfl trivial ?_
          show vB false = vB _
          rw [hc]
          simp [hb2]
        · have hb2 : (c.length : Int) ≤ m := by rw [← hget]; simpa using hb2
          refine sat_stop tabOk Try.func22 rfl trivial ?_
          refine sat_le (ih (i + 1) ⟨by omega, ?_⟩ (by omega)) hC hCl ⟨⟨_, rfl, .refl _⟩, ⟨_, rfl, .refl _⟩, ⟨_, rfl, .of (by rw [wrap_id (by omega) (by omega)]; rfl)⟩, trivial⟩ ⟨.refl _, trivial⟩ rfl rfl (Nat.zero_le _)
          rw [hc]
          simp [hb2]
      · obtain rfl : i = l.length := by omega
        rw [List.drop_length] at hc
        refine sat_ret tabOk Try.func22 rfl trivial ?_
        show vB true = vB _
        rw [hc]
        simp [hm]
end Go.Proofs.Ytdnpkeahgpbkoaa
namespace Go.Proofs.Ytdnpkeahgpbkoaa
open Go Ab
set_option maxRecDepth 100000
set_option linter.unusedVariables false
set_option linter.unusedSimpArgs false

instance (n x : Int) : Decidable (litOk n x) := by unfold litOk; infer_instance
def clOk (n : Int) (c : List Int) : Bool := decide (c.length ≤ 1000) && c.all (fun x => decide (litOk n x))
def rightB (n : Int) (l : List (List Int)) : Bool := decide (0 ≤ n ∧ n ≤ 100000 ∧ l.length ≤ 20000) && l.all (clOk n)

theorem Right_call (n : Int) (l : List (List Int)) (hll : l.length ≤ maxLen) (hcl : ∀ c ∈ l, c.length ≤ maxLen) : ACall Try.prog 23 [.d (eCnf n l)] [] (fun r o => r = vB (rightB n l)) := by
  have hml : maxLen = 9223372036854775807 := rfl
  refine acall_enter Try.func23 rfl rfl (Nat.le_of_ble_eq_true rfl) fun C hC hCl => ?_
  have bad : ∀ {nd : Prop} {todo env objs o}, srun tab Try.f23.ntmps Try.f23.results.toList 2000 True todo env objs = .ret nd (vB false) o → nd → rightB n l = false → ASat Try.prog 23 Try.f23.ntmps C todo env objs (fun r o => r = vB (rightB n l)) := by
    intro nd todo env objs o h1 h2 h3
    exact sat_ret tabOk Try.func23 h1 h2 (by rw [h3])
  refine sat_branch tabOk Try.func23 rfl trivial (fun h1 => ?_) (fun h1 => ?_)
  · have h1 : n < 0 := by simpa using h1
    refine sat_branch tabOk Try.func23 rfl trivial (fun _ => ?_) (fun h => by cases h)
    refine sat_branch tabOk Try.func23 rfl trivial (fun _ => ?_) (fun h => by cases h)
    exact bad rfl trivial (by simp [rightB]; omega)
  have h1 : 0 ≤ n := by simpa using h1
  refine sat_branch tabOk Try.func23 rfl trivial (fun h2 => ?_) (fun h2 => ?_)
  · have h2 : 100000 < n := by simpa using h2
    refine sat_branch tabOk Try.func23 rfl trivial (fun _ => ?_) (fun h => by cases h)
    exact bad rfl trivial (by simp [rightB]; omega)
  have h2 : n ≤ 100000 := by simpa using h2
  refine sat_branch tabOk Try.func23 rfl trivial (fun h3 => ?_) (fun h3 => ?_)
  · have h3 : 20000 < l.length := by simp at h3; omega
    exact bad rfl trivial (by simp [rightB]; omega)
  have h3 : l.length ≤ 20000 := by simp at h3; omega
  have hR : rightB n l = l.all (clOk n) := by simp [rightB, h1, h2, h3]
  refine sat_stop tabOk Try.func23 rfl trivial ?_
  refine sat_while (α := Nat) (fun i => [(1, .ptr 0 0), (3, vI .i64 i)]) (fun _ => [some (.cells 35 [.d (eI n), .d (eIss l)])]) (fun i => i ≤ l.length ∧ rightB n l = (l.drop i).all (clOk n)) (fun i => l.length - i) 0 ⟨Nat.zero_le _, hR⟩ ?_ ?_
  · exact fun h => sat_le h hC hCl ⟨⟨_, rfl, .refl _⟩, ⟨_, rfl, .refl _⟩, trivial⟩ ⟨.refl _, trivial⟩ rfl rfl (Nat.zero_le _)
  rintro i ⟨hi, hc⟩ ih
  refine sat_branch tabOk Try.func23 rfl trivial (fun hb => ?_) (fun hb => ?_) <;> simp only [decide_eq_true_eq, decide_eq_false_iff_not, List.length_map] at hb
  · have hlt : i < l.length := by omega
    have hget : l.getD i [] = l[i] := by simp [hlt]
    have hcm := hcl _ (List.getElem_mem hlt)
    rw [List.drop_eq_getElem_cons hlt, List.all_cons] at hc
    generalize hx : l[i] = c at *
    refine sat_branch tabOk Try.func23 rfl ?_ (fun hb2 => ?_) (fun hb2 => ?_)
    · simp only [Int.toNat_natCast, List.length_map]; exact ⟨⟨by omega, by omega⟩, trivial⟩
    · have hb2 : 1000 < c.length := by rw [← hget]; simp at hb2; simp; omega
      exact bad rfl trivial (by rw [hc, clOk]; simp; intro h; omega)
    have hb2 : c.length ≤ 1000 := by rw [← hget]; simp at hb2; simp; omega
    refine sat_stop tabOk Try.func23 rfl trivial ?_
    refine sat_while (α := Nat) (fun k => [(1, .ptr 0 0), (3, vI .i64 i), (4, vI .i64 k)]) (fun _ => [some (.cells 35 [.d (eI n), .d (eIss l)])]) (fun k => k ≤ c.length ∧ rightB n l = ((c.drop k).all (fun x => decide (litOk n x)) && (l.drop (i + 1)).all (clOk n))) (fun k => c.length - k) 0 ⟨Nat.zero_le _, by rw [hc, clOk]; simp [hb2]⟩ ?_ ?_
    · exact fun h => sat_le h hC hCl ⟨⟨_, rfl, .refl _⟩, ⟨_, rfl, .refl _⟩, ⟨_, rfl, .refl _⟩, trivial⟩ ⟨.refl _, trivial⟩ rfl rfl (Nat.zero_le _)
    rintro k ⟨hk, hck⟩ ihk
    refine sat_branch tabOk Try.func23 rfl ?_ (fun hb => ?_) (fun hb => ?_)
    · simp only [Int.toNat_natCast, List.length_map]; exact ⟨⟨by omega, by omega⟩, trivial⟩
    · have hltk : k < c.length := by rw [← hget]; simp at hb; simp; omega
      have hgk : (l.getD i []).getD k 0 = c[k] := by rw [hget]; simp [hltk]
      rw [List.drop_eq_getElem_cons hltk, List.all_cons] at hck
      generalize hxx : c[k] = x at *
      refine sat_branch tabOk Try.func23 rfl ?_ (fun hb3 => ?_) (fun hb3 => ?_)
      · simp only [Int.toNat_natCast, List.length_map]
        rw [hget]
        exact ⟨⟨by omega, by omega⟩, ⟨by omega, by omega⟩, trivial⟩
      · have hb3 : x = 0 := by rw [← hgk]; simpa using hb3
        refine sat_branch tabOk Try.func23 rfl trivial (fun _ => ?_) (fun h => by cases h)
        refine sat_branch tabOk Try.func23 rfl trivial (fun _ => ?_) (fun h => by cases h)
        exact bad rfl trivial (by rw [hck]; simp [litOk, hb3])
      have hb3 : x ≠ 0 := by rw [← hgk]; simpa using hb3
      refine sat_branch tabOk Try.func23 rfl trivial (fun hb4 => ?_) (fun hb4 => ?_)
      · have hb4 : n < x := by rw [← hgk]; simpa using hb4
        refine sat_branch tabOk Try.func23 rfl trivial (fun _ => ?_) (fun h => by cases h)
        exact bad rfl trivial (by rw [hck, show decide (litOk n x) = false from decide_eq_false (fun hh => by obtain ⟨_, h7, h8⟩ := hh; omega)]; rfl)
      have hb4 : x ≤ n := by rw [← hgk]; simpa using hb4
      have w1 : IntKind.i64.wrap (0 - n) = -n := by rw [wrap_id (by omega) (by omega), Int.zero_sub]
      refine sat_branch tabOk Try.func23 rfl trivial (fun hb5 => ?_) (fun hb5 => ?_)
      · have hb5 : x < -n := by rw [w1] at hb5; rw [← hgk]; simpa using hb5
        exact bad rfl trivial (by rw [hck, show decide (litOk n x) = false from decide_eq_false (fun hh => by obtain ⟨_, h7, h8⟩ := hh; omega)]; rfl)
      have hb5 : -n ≤ x := by rw [w1] at hb5; rw [← hgk]; simpa using hb5
      refine sat_stop tabOk Try.func23 rfl trivial ?_
      refine sat_le (ihk (k + 1) ⟨by omega, ?_⟩ (by omega)) hC hCl ⟨⟨_, rfl, .refl _⟩, ⟨_, rfl, .refl _⟩, ⟨_, rfl, .of (by rw [wrap_id (by omega) (by omega)]; rfl)⟩, trivial⟩ ⟨.refl _, trivial⟩ rfl rfl (Nat.zero_le _)
      rw [hck]
      simp [litOk, hb3, hb4, hb5]
    · have hkc : k = c.length := by
        have : ¬ (k : Int) < (l.getD i []).length := by simpa using hb
        rw [hget] at this
        omega
      subst hkc
      rw [List.drop_length] at hck
      refine sat_stop tabOk Try.func23 rfl trivial ?_
      refine sat_le (ih (i + 1) ⟨by omega, by simpa using hck⟩ (by omega)) hC hCl ⟨⟨_, rfl, .refl _⟩, ⟨_, rfl, .of (by rw [wrap_id (by omega) (by omega)]; rfl)⟩, trivial⟩ ⟨.refl _, trivial⟩ rfl rfl (Nat.zero_le _)
  · obtain rfl : i = l.length := by omega
    rw [List.drop_length] at hc
    refine sat_ret tabOk Try.func23 rfl trivial ?_
    show vB true = vB _
    rw [hc]
    rfl
end Go.Proofs.Ytdnpkeahgpbkoaa
set_option linter.unusedSimpArgs false
set_option linter.unusedVariables false
namespace Ab
open Go

inductive QRes where
  | done (nd : Prop) (env : Env)
  | ask (nd : Prop) (t : Tmp) (b : Bool) (l : List Oper) (env : Env)
  | call (nd : Prop) (g : FuncId) (az : List AV) (dst : Option Tmp) (l : List Oper) (env : Env)
  | stuck

def qpre (T : Tab) (n : Nat) (ops : Array Oper) : List Oper → Prop → Env → List (Option AObj) → QRes
  | [], nd, env, _ => .done nd env
  | o :: r, nd, env, objs => match wantE ops env o with
    | .yes => match pstep T o env objs with
      | .ok a => match putE n o.dst a env with | some e => qpre T n ops r nd e objs | none => .stuck
      | .iff c a => match putE n o.dst a env with | some e => qpre T n ops r (c ∧ nd) e objs | none => .stuck
      | .no => match callOf env o with
        | some (g, az) => .call nd g az o.dst r env
        | none => .stuck
    | .no => match putE n o.dst .und env with | some e => qpre T n ops r nd e objs | none => .stuck
    | .ask t b => .ask nd t b (o :: r) env
    | .dunno => .stuck

section
variable {P : Program} {T : Tab} {f : FuncId} {fn : Func} {n : Nat} {C : Cx} {R R1 : AV → List (Option AObj) → Prop} {todo todo' : List Item} {env env' : Env} {objs objs' : List (Option AObj)} {nd : Prop} {ops : Array Oper} {l : List Oper} {K : Env → Prop}

def QSat (P : Program) (n : Nat) (X : Nat → Prop) (objs : List (Option AObj)) (ops : Array Oper) (K : Env → Prop) (l : List Oper) (env : Env) : Prop :=
  ∀ π w tmps, tmps.size = n → Mem X π objs w → EnvRel w (okOf X π objs) π env tmps → wpQuiet P ops (Later w) (fun a => ∃ t env2, a = ⟨t, []⟩ ∧ t.size = n ∧ EnvRel w (okOf X π objs) π env2 t ∧ K env2) l ⟨tmps, []⟩

/-- A call that tells one value, whatever the order, and only adds to memory. -/
def QCall (P : Program) (X : Nat → Prop) (objs : List (Option AObj)) (g : FuncId) (az : List AV) (x : Value) : Prop :=
  ∀ π w vs, Mem X π objs w → RelVs w (okOf X π objs) π az vs → (callFunc g vs.toArray).run P w = .ok (.enter g vs.toArray) w ∧ Calls P g vs.toArray w fun e w' => e = .returned x ∧ Later w w'

def QCont (P : Program) (n : Nat) (X : Nat → Prop) (objs : List (Option AObj)) (ops : Array Oper) (K : Env → Prop) : QRes → Prop
  | .done nd env => nd ∧ K env
  | .ask nd t b l env => nd ∧ (b = true → QSat P n X objs ops K l ((t, .lit true) :: env)) ∧ (b = false → QSat P n X objs ops K l ((t, .lit false) :: env))
  | .call nd g az dst l env => nd ∧ ∃ x, flat x = true ∧ QCall P X objs g az x ∧ (∃ e, putE n dst .dead env = some e) ∧ QSat P n X objs ops K l (putD dst (.d (.v x)) env)
  | .stuck => False

theorem later_trans {w w1 w2 : World} (a : Later w w1) (b : Later w1 w2) : Later w w2 :=
  ⟨b.os.trans a.os, b.tape.trans a.tape, ⟨b.output.1.trans a.output.1, Nat.le_trans a.output.2 b.output.2⟩, Nat.le_trans a.size b.size, fun c hc => (b.ext c (Nat.lt_of_lt_of_le hc a.size)).trans (a.ext c hc)⟩

theorem env_lit {w : World} {ok : Nat → Prop} {π : List Value} {tmps : Array Value} {t : Tmp} {b c : Bool} (he : EnvRel w ok π env tmps) (hl : look env t = some (.d (.v (.bool b)))) (hb : b = c) : EnvRel w ok π ((t, .lit c) :: env) tmps := by
  subst hb
  intro k a hk
  simp only [look] at hk
  split at hk
  · rename_i e
    have e' : t = k := by simpa using e
    cases hk
    subst e'
    have hv := he t _ hl
    revert hv
    generalize tmps.getD t undef = v
    intro hv
    cases hv with | d h => cases h; exact .lit
  · exact he k a hk

theorem qpre_sound (hT : TabOk P T) {X : Nat → Prop} : ∀ (l : List Oper) (nd : Prop) (env : Env), QCont P n X objs ops K (qpre T n ops l nd env objs) → nd ∧ QSat P n X objs ops K l env
  | [], nd, env, h => ⟨h.1, fun π w tmps hn hm he => ⟨tmps, env, rfl, hn, he, h.2⟩⟩
  | o :: r, nd, env, h => by
    simp only [qpre] at h
    cases hw : wantE ops env o with
    | yes =>
      rw [hw] at h
      simp only at h
      cases hp : pstep T o env objs with
      | ok a =>
        rw [hp] at h
        simp only at h
        cases hput : putE n o.dst a env with
        | none => rw [hput] at h; exact h.elim
        | some e =>
          rw [hput] at h
          obtain ⟨r1, r2⟩ := qpre_sound hT r nd e h
          refine ⟨r1, fun π w tmps hn hm he => ?_⟩
          have hdo := pstep_ok (ds := []) hT hm he o
          rw [hp] at hdo
          obtain ⟨v, d1, d2⟩ := hdo
          obtain ⟨p1, p2⟩ := put_rel he hn hput d1
          simp only [wpQuiet, (wanted_of he).1 hw, if_true]
          refine ⟨v, fun w' hw' => ?_, by rw [put_eq]; exact r2 π w _ p2 hm p1⟩
          simp only [Oper.quietAt, d2 w' hw'.ext, Oper.quietUpon]
          exact ⟨trivial, trivial⟩
      | iff c a =>
        rw [hp] at h
        simp only at h
        cases hput : putE n o.dst a env with
        | none => rw [hput] at h; exact h.elim
        | some e =>
          rw [hput] at h
          obtain ⟨r1, r2⟩ := qpre_sound hT r (c ∧ nd) e h
          refine ⟨r1.2, fun π w tmps hn hm he => ?_⟩
          have hdo := pstep_ok (ds := []) hT hm he o
          rw [hp] at hdo
          obtain ⟨v, d1, d2⟩ := hdo r1.1
          obtain ⟨p1, p2⟩ := put_rel he hn hput d1
          simp only [wpQuiet, (wanted_of he).1 hw, if_true]
          refine ⟨v, fun w' hw' => ?_, by rw [put_eq]; exact r2 π w _ p2 hm p1⟩
          simp only [Oper.quietAt, d2 w' hw'.ext, Oper.quietUpon]
          exact ⟨trivial, trivial⟩
      | no =>
        rw [hp] at h
        simp only at h
        cases hco : callOf env o with
        | none => rw [hco] at h; exact h.elim
        | some ga =>
          obtain ⟨g, az⟩ := ga
          rw [hco] at h
          obtain ⟨h1, x, hx, hq, ⟨e, hput⟩, h2⟩ := h
          refine ⟨h1, fun π w tmps hn hm he => ?_⟩
          obtain ⟨vs, c1, c2⟩ := callOf_run he hco
          have hxr : RelV w (okOf X π objs) π (.d (.v x)) x := .d (.v hx)
          obtain ⟨p1, p2⟩ := put_rel he hn (putD_eq hput) hxr
          simp only [wpQuiet, (wanted_of he).1 hw, if_true]
          refine ⟨x, fun w' hw' => ?_, by rw [put_eq]; exact h2 π w _ p2 hm p1⟩
          have htr := hw'.tr hm
          have hargs : RelVs w' (okOf X π objs) π az vs := by
            refine c1.mono (fun b o u h1 h2 => ⟨h1, ?_⟩) (fun _ _ h => h)
            have hb := cell_lt h2
            unfold World.cell? at h2 ⊢
            rw [hw'.ext b hb]
            exact h2
          obtain ⟨q1, q2⟩ := hq π w' vs htr.mem hargs
          simp only [Oper.quietAt, c2, q1, Oper.quietUpon]
          exact ⟨trivial, q2.mono fun e w2 ⟨a1, a2⟩ => ⟨a1, later_trans hw' a2⟩⟩
    | no =>
      rw [hw] at h
      simp only at h
      cases hput : putE n o.dst .und env with
      | none => rw [hput] at h; exact h.elim
      | some e =>
        rw [hput] at h
        obtain ⟨r1, r2⟩ := qpre_sound hT r nd e h
        refine ⟨r1, fun π w tmps hn hm he => ?_⟩
        obtain ⟨p1, p2⟩ := put_rel he hn hput (.und (w := w) (ok := okOf X π objs) (π := π))
        simp only [wpQuiet, (wanted_of he).2 hw]
        rw [put_eq]
        simpa using r2 π w _ p2 hm p1
    | ask t b =>
      rw [hw] at h
      refine ⟨h.1, fun π w tmps hn hm he => ?_⟩
      have hl := wantE_look hw
      cases b with
      | true => exact h.2.1 rfl π w tmps hn hm (env_lit he hl rfl)
      | false => exact h.2.2 rfl π w tmps hn hm (env_lit he hl rfl)
    | dunno => rw [hw] at h; exact h.elim

theorem qs_done {X : Nat → Prop} (hT : TabOk P T) (h : qpre T n ops l True env objs = .done nd env') (hn : nd) (hK : K env') : QSat P n X objs ops K l env :=
  (qpre_sound hT l True env (by rw [h]; exact ⟨hn, hK⟩)).2
theorem qs_branch {X : Nat → Prop} {t : Tmp} {b : Bool} {l' : List Oper} (hT : TabOk P T) (h : qpre T n ops l True env objs = .ask nd t b l' env') (hn : nd)
    (k1 : b = true → QSat P n X objs ops K l' ((t, .lit true) :: env')) (k2 : b = false → QSat P n X objs ops K l' ((t, .lit false) :: env')) : QSat P n X objs ops K l env :=
  (qpre_sound hT l True env (by rw [h]; exact ⟨hn, k1, k2⟩)).2
theorem qs_call {X : Nat → Prop} {g : FuncId} {az : List AV} {dst : Option Tmp} {l' : List Oper} (x : Value) (hT : TabOk P T) (h : qpre T n ops l True env objs = .call nd g az dst l' env') (hn : nd) (hx : flat x = true) (hq : QCall P X objs g az x)
    (hd : ∃ e, putE n dst .dead env' = some e) (k : QSat P n X objs ops K l' (putD dst (.d (.v x)) env')) : QSat P n X objs ops K l env :=
  (qpre_sound hT l True env (by rw [h]; exact ⟨hn, x, hx, hq, hd, k⟩)).2

theorem wpQuiet_weak {Cl : World → Prop} {Q Q' : Act → Prop} (h : ∀ a, Q a → Q' a) : ∀ (l : List Oper) (a : Act), wpQuiet P ops Cl Q l a → wpQuiet P ops Cl Q' l a
  | [], a, hq => h a hq
  | o :: r, a, hq => by
    simp only [wpQuiet] at hq ⊢
    split
    · rename_i hw
      rw [if_pos hw] at hq
      exact Oper.quiet_mono (fun a' ha' => wpQuiet_weak h r a' ha') hq
    · rename_i hw
      rw [if_neg hw] at hq
      exact wpQuiet_weak h r _ hq

/-- A contract that tells one value. -/
theorem qcall_of {X : Nat → Prop} {g : FuncId} {az bs : List AV} {x : Value} {R' : AV → List (Option AObj) → Prop} (hc : ACall P g bs [] R') (he : ∀ args w, (callFunc g args).run P w = .ok (.enter g args) w) (hr : ∀ r o, R' r o → r = .d (.v x)) (hv : Lents objs az bs) (hd : refsBs 0 bs = true) : QCall P X objs g az x := by
  intro π w vs hm hvs
  refine ⟨he _ _, ?_⟩
  have hm0 : Mem X [] [] w := ⟨rfl, fun i o h => by simp [nth] at h, fun i j o o' h h' b _ h1 => by simp [nth] at h1, fun i o h b h1 => by simp [nth] at h1, hm.inX⟩
  rcases hc _ _ w vs hm0 (lents_rel hm hv hd hvs) with ⟨_, h⟩ | ⟨v, w', h, _⟩
  · refine Calls.mono h ?_
    rintro e w' ⟨v, r, o, π', rfl, hR, hm', hrel, hhist⟩
    have := hr r o hR
    subst this
    refine ⟨?_, hist_later hhist⟩
    cases hrel with | d h => cases h; rfl
  · rw [he] at h
    cases h

theorem sat_drawQ {id : Nat} {ops : Array Oper} {k : List Item} (hT : TabOk P T) (hf : P.funcs[f]? = some fn) (hmx : P.follows .mixedOrders = true) (h : srun T n fn.results.toList 2000 True todo env objs = .draw nd id ops k env' objs') (hn : nd)
    (hB : Region.lexB .any ops = true) (hq : QSat P n C.X objs' ops (fun env2 => ASat P f n C k env2 objs' R) ops.toList env') : ASat P f n C todo env objs R := by
  suffices hc : Cont P f n C R (.draw nd id ops k env' objs') from (run_sound hT hf 2000 True todo env objs (by rw [h]; exact hc)).2
  refine ⟨hn, fun π w tmps hs hm hh he => ?_⟩
  refine .ofWp (wp_region_quiet (C := Later w) hmx hB ⟨rfl, rfl, ⟨rfl, Nat.le_succ _⟩, Nat.le_refl _, fun _ _ => rfl⟩ ?_)
  refine wpQuiet_weak ?_ _ _ (hq π w tmps hs hm he)
  rintro a ⟨t, env2, rfl, ht, het, hK⟩ w' hw'
  have htr := hw'.tr hm
  exact ⟨rfl, t, rfl, hK π w' t ht htr.mem (hist_tr hh htr) (env_tr het htr)⟩
end
end Ab
namespace Go.Proofs.Ytdnpkeahgpbkoaa
open Go Ab
set_option maxRecDepth 100000
set_option linter.unusedVariables false
set_option linter.unusedSimpArgs false

theorem negs_set (c : List Int) (i : Nat) (hi : i < c.length) : ((c.take i).map (fun x => -x) ++ List.replicate (c.length - i) 0).set i (-c[i]) = (c.take (i + 1)).map (fun x => -x) ++ List.replicate (c.length - (i + 1)) 0 := by
  apply List.ext_getElem?
  intro j
  have hl : ((c.take i).map (fun x => -x)).length = i := by simp; omega
  have hl1 : ((c.take (i + 1)).map (fun x => -x)).length = i + 1 := by simp; omega
  rw [List.getElem?_set]
  by_cases e : i = j
  · subst e
    rw [if_pos rfl, if_pos (by simp; omega), List.getElem?_append_left (by omega)]
    simp [hi]
  · rw [if_neg e]
    rcases Nat.lt_or_ge j i with h | h
    · rw [List.getElem?_append_left (by omega), List.getElem?_append_left (by omega)]
      simp [List.getElem?_take, h, Nat.lt_succ_of_lt h]
    · rw [List.getElem?_append_right (by omega), List.getElem?_append_right (by omega), hl, hl1]
      rw [List.getElem?_replicate, List.getElem?_replicate]
      by_cases h2 : j < c.length
      · rw [if_pos (by omega), if_pos (by omega)]
      · rw [if_neg (by omega), if_neg (by omega)]

theorem litOk_neg {n x : Int} (h : litOk n x) : litOk n (-x) := by unfold litOk at *; omega

theorem Refutes_call (n : Int) (l : List (List Int)) (c : List Int) (hn : 0 ≤ n ∧ n ≤ 100000) (hl : ∀ c ∈ l, ∀ x ∈ c, litOk n x) (hc : ∀ x ∈ c, litOk n x) (hb : lits l ≤ 1000000) (hcl : c.length ≤ 1000000) :
    ACall Try.prog 15 [vI .i64 n, .d (eIss l), .d (eIs c)] [] (fun r o => ∃ s, CloseRel n l (c.map fun x => -x) s ∧ WkV n s ∧ r = vB s.clash) := by
  refine acall_enter Try.func15 rfl rfl (Nat.le_of_ble_eq_true rfl) fun C hC hCl => ?_
  refine sat_stop tabOk Try.func15 rfl ?_ ?_
  · refine ⟨?_, trivial⟩
    rw [List.length_map]
    refine ⟨by omega, Int.le_refl _, ?_⟩
    show (c.length : Int) * (8 : Int) ≤ _
    omega
  refine sat_while (α := Nat) (fun i => [(0, vI .i64 n), (1, .d (eIss l)), (2, .d (eIs c)), (7, .gs 0), (15, .d (eIs c)), (16, vI .i64 c.length), (17, vI .i64 i)]) (fun i => [some (gIs ((c.take i).map (fun x => -x) ++ List.replicate (c.length - i) 0))]) (fun i => i ≤ c.length) (fun i => c.length - i) 0 (Nat.zero_le _) ?_ ?_
  · refine fun h => sat_le h hC hCl ?_ ⟨.gL ?_, trivial⟩ rfl rfl (Nat.zero_le _)
    · exact ⟨⟨_, rfl, .refl _⟩, ⟨_, rfl, .refl _⟩, ⟨_, rfl, .refl _⟩, ⟨_, rfl, .refl _⟩, ⟨_, rfl, .refl _⟩, ⟨_, rfl, .of (by rw [List.length_map])⟩, ⟨_, rfl, .refl _⟩, trivial⟩
    · simp only [List.take_zero, List.map_nil, List.nil_append, List.length_map, Int.toNat_natCast, Nat.sub_zero, List.map_replicate]
      rfl
  · rintro i hi ih
    refine sat_branch tabOk Try.func15 rfl trivial (fun hbr => ?_) (fun hbr => ?_) <;> simp only [decide_eq_true_eq, decide_eq_false_iff_not] at hbr
    · have hlt : i < c.length := by omega
      have hget : c.getD i 0 = c[i] := by simp [hlt]
      have hx := hc _ (List.getElem_mem hlt)
      obtain ⟨x0, x1, x2⟩ := hx
      have w1 : IntKind.i64.wrap (0 - c.getD i 0) = -c[i] := by rw [hget, wrap_id (by omega) (by omega), Int.zero_sub]
      refine sat_stop tabOk Try.func15 rfl ?_ ?_
      · simp only [andP, Int.toNat_natCast, List.length_map, List.length_append, List.length_replicate, List.length_take]
        exact ⟨by omega, ⟨by omega, by omega⟩, ⟨by omega, by omega⟩, trivial⟩
      refine sat_le (ih (i + 1) (by omega) (by omega)) hC hCl ?_ ⟨.gL ?_, trivial⟩ rfl rfl (Nat.zero_le _)
      · exact ⟨⟨_, rfl, .refl _⟩, ⟨_, rfl, .refl _⟩, ⟨_, rfl, .refl _⟩, ⟨_, rfl, .refl _⟩, ⟨_, rfl, .refl _⟩, ⟨_, rfl, .refl _⟩, ⟨_, rfl, .of (by rw [wrap_id (by omega) (by omega)]; rfl)⟩, trivial⟩
      · rw [← negs_set c i hlt, List.map_set, ← w1]
        rfl
    · obtain rfl : i = c.length := by omega
      refine sat_freeze 0 rfl ?_
      have e1 : (c.take c.length).map (fun x => -x) ++ List.replicate (c.length - c.length) 0 = c.map fun x => -x := by simp
      rw [e1]
      refine sat_call tabOk Try.func15 rfl trivial (Close_call n l (c.map fun x => -x) hn hl (by intro x hx; obtain ⟨y, hy, rfl⟩ := List.mem_map.1 hx; exact litOk_neg (hc y hy)) hb delOk) (.refl _) rfl ⟨_, rfl⟩ ?_ ?_
      · rintro r o ⟨s, _, _, rfl⟩
        unfold closeEnd
        split <;> rfl
      · rintro r o ⟨s, h1, h2, rfl⟩
        cases hcl : s.clash with
        | true =>
          have : closeEnd s = .tp [.d (.v (.slice none 0 0)), vB true] := by simp [closeEnd, hcl]
          rw [this]
          exact sat_ret tabOk Try.func15 rfl trivial ⟨s, h1, h2, by rw [hcl]; rfl⟩
        | false =>
          have : closeEnd s = .tp [.d (eIs (s.forced.filter (· ≠ 0))), vB false] := by simp [closeEnd, hcl]
          rw [this]
          exact sat_ret tabOk Try.func15 rfl trivial ⟨s, h1, h2, by rw [hcl]; rfl⟩
end Go.Proofs.Ytdnpkeahgpbkoaa
set_option linter.unusedSimpArgs false
set_option linter.unusedVariables false
namespace Ab
open Go

def CLe (x y : D) : Prop := ∀ w ok us, RelL w ok x.cells us → RelL w ok y.cells us
theorem CLe.refl (x : D) : CLe x x := fun _ _ _ h => h
def CLes : List D → List D → Prop
  | [], [] => True
  | x :: r, y :: s => CLe x y ∧ CLes r s
  | _, _ => False
theorem CLes.len : ∀ {xs ys : List D}, CLes xs ys → xs.length = ys.length
  | [], [], _ => rfl
  | _ :: _, _ :: _, h => by simp [CLes.len h.2]
  | [], _ :: _, h => h.elim
  | _ :: _, [], h => h.elim
theorem CLes.rel {w : World} {ok : Nat → Prop} {s : Nat} : ∀ {xs ys : List D} {us : List Value}, CLes xs ys → RelE w ok s xs us → RelE w ok s ys us
  | [], [], _, _, h => h
  | x :: r, y :: t, us, hc, h => by
    cases h with
    | cons h hl ht => exact .cons (hc.1 _ _ _ h) hl (CLes.rel hc.2 ht)
  | [], _ :: _, _, h, _ => h.elim
  | _ :: _, [], _, h, _ => h.elim
theorem CLes.map {α : Type} (e e' : α → D) : ∀ (l : List α), (∀ a ∈ l, CLe (e a) (e' a)) → CLes (l.map e) (l.map e')
  | [], _ => trivial
  | a :: r, h => ⟨h a List.mem_cons_self, CLes.map e e' r fun b hb => h b (List.mem_cons_of_mem _ hb)⟩

theorem CLe.sl {s : Nat} {xs ys : List D} {rd rd' : Nat → D} (h : CLes xs ys) (hr : ∀ i, i < ys.length → ys[i]? = some (rd' i)) : CLe (.sl s xs rd) (.sl s ys rd') := by
  intro w ok us hu
  cases hu with
  | cons hd hf ht =>
    cases ht
    refine .cons ?_ hf .nil
    cases hd with
    | nil hb =>
      cases ys with
      | nil => exact .nil hb
      | cons _ _ => exact h.elim
    | sl a b c d e =>
      have hl := h.len
      rw [hl] at c ⊢
      exact .sl (h.rel a) b c d hr
theorem VLe.sl_c {s : Nat} {xs ys : List D} {rd rd' : Nat → D} (h : CLe (.sl s xs rd) (.sl s ys rd')) : VLe (.d (.sl s xs rd)) (.d (.sl s ys rd')) := by
  intro w ok π v hv
  cases hv with
  | d hd =>
    have hf : flat v = true := by cases hd <;> rfl
    have := h w ok [v] (.cons hd hf .nil)
    cases this with | cons h _ _ => exact .d h

theorem relVs_L {w : World} {ok : Nat → Prop} {π : List Value} : ∀ {ds : List D} {vs : List Value}, RelVs w ok π (ds.map .d) vs → (∀ v ∈ vs, flat v = true) → RelL w ok ds vs
  | [], vs, h, _ => by simp only [List.map_nil] at h; cases h; exact .nil
  | d :: r, vs, h, hf => by
    simp only [List.map_cons] at h
    cases h with
    | cons h t => cases h with | d h => exact .cons h (hf _ List.mem_cons_self) (relVs_L t fun v hv => hf v (List.mem_cons_of_mem _ hv))
theorem VLe.agL {cs : List AV} {ds : List D} (h : VLs cs (ds.map .d)) : VLe (.ag cs) (.d (.ag ds)) := by
  intro w ok π v hv
  cases hv with
  | ag hc hf => exact .d (.ag (relVs_L (h.rel hc) hf))

def DLe (x y : D) : Prop := ∀ w ok v, RelD w ok x v → RelD w ok y v
theorem DLe.refl (x : D) : DLe x x := fun _ _ _ h => h
def DLes : List D → List D → Prop
  | [], [] => True
  | x :: r, y :: s => DLe x y ∧ DLes r s
  | _, _ => False
theorem DLes.rel {w : World} {ok : Nat → Prop} : ∀ {xs ys : List D} {us : List Value}, DLes xs ys → RelL w ok xs us → RelL w ok ys us
  | [], [], _, _, h => h
  | x :: r, y :: t, us, hc, h => by
    cases h with
    | cons h hf ht => exact .cons (hc.1 _ _ _ h) hf (DLes.rel hc.2 ht)
  | [], _ :: _, _, h, _ => h.elim
  | _ :: _, [], _, h, _ => h.elim
theorem VLe.dag {cs ds : List D} (h : DLes cs ds) : VLe (.d (.ag cs)) (.d (.ag ds)) := by
  intro w ok π v hv
  cases hv with | d hd => cases hd with | ag hl => exact .d (.ag (h.rel hl))
theorem DLe.slR {s : Nat} {xs ys : List D} {rd rd' : Nat → D} (h : xs = ys) (hr : ∀ i, i < ys.length → ys[i]? = some (rd' i)) : DLe (.sl s xs rd) (.sl s ys rd') := by
  subst h
  intro w ok v hv
  cases hv with
  | nil hb => exact .nil hb
  | sl a b c d e => exact .sl a b c d hr
theorem DLe.eL {α : Type} {s : Nat} {e : α → D} {d : α} {l : List α} {xs : List D} {rd : Nat → D} (h : xs = l.map e) : DLe (.sl s xs rd) (Ab.eL s e d l) := .slR h (map_rd e d l)

/-- A literal row of rows. -/
theorem lit_rows {α : Type} {s : Nat} (e : α → D) (d : α) (l : List (List α)) (s2 : Nat) : CLe (.sl s2 (l.map fun c => .sl s (c.map e) (litRd (c.map e))) (litRd (l.map fun c => .sl s (c.map e) (litRd (c.map e))))) (eL s2 (eL s e d) [] l) :=
  CLe.sl (CLes.map _ _ l fun c _ => CLe.sl (CLes.map e e c fun a _ => .refl _) (map_rd e d c)) (map_rd (eL s e d) [] l)
end Ab
namespace Go.Proofs.Ytdnpkeahgpbkoaa
open Go Ab
set_option maxRecDepth 100000
set_option linter.unusedVariables false
set_option linter.unusedSimpArgs false

/-! ### The steps, one by one -/
def stepC (l : List (List Int)) (G : List (Int × List Int)) (s : Wk) : Wk := match s.queue with | [] => s | x :: q => if s.clash = true then s else popW l G s x q
def iterC (l : List (List Int)) (G : List (Int × List Int)) : Nat → Wk → Wk
  | 0, s => s
  | k + 1, s => stepC l G (iterC l G k s)
theorem star_iter {l : List (List Int)} {G : List (Int × List Int)} {s t : Wk} (h : Star l G s t) : ∃ k, iterC l G k s = t := by
  induction h with
  | refl => exact ⟨0, rfl⟩
  | step h hc hq ih =>
    obtain ⟨k, hk⟩ := ih
    refine ⟨k + 1, ?_⟩
    simp [iterC, hk, stepC, hq, hc]
theorem stepC_done {l : List (List Int)} {G : List (Int × List Int)} {s : Wk} (h : s.queue = [] ∨ s.clash = true) : stepC l G s = s := by
  unfold stepC
  split
  · rfl
  · rename_i hq
    rcases h with h | h
    · rw [hq] at h; cases h
    · rw [if_pos h]
theorem iterC_done {l : List (List Int)} {G : List (Int × List Int)} {s : Wk} {k : Nat} (h : (iterC l G k s).queue = [] ∨ (iterC l G k s).clash = true) : ∀ m, iterC l G (k + m) s = iterC l G k s
  | 0 => rfl
  | m + 1 => by
    have ih := iterC_done h m
    show stepC l G (iterC l G (k + m) s) = _
    rw [ih, stepC_done h]
theorem closeRel_iter {n : Int} {l : List (List Int)} {a : List Int} {s : Wk} (h : CloseRel n l a s) (k : Nat) (hd : (iterC l (gatherL l 0 []) k (firstW n l a)).queue = [] ∨ (iterC l (gatherL l 0 []) k (firstW n l a)).clash = true) : s = iterC l (gatherL l 0 []) k (firstW n l a) := by
  obtain ⟨j, hj⟩ := star_iter h.1
  have hdj := h.2
  rw [← hj] at hdj
  have e1 := iterC_done hdj k
  have e2 := iterC_done hd j
  rw [Nat.add_comm] at e2
  rw [← hj, ← e1, e2]

def exL : List (List Int) := [[1, 2], [-1, 3]]
theorem ex1 {s : Wk} (h : CloseRel 3 exL [-2] s) : s.clash = false ∧ s.forced = [0, 1, -2, 3] := by
  rw [closeRel_iter h 5 (by left; decide)]
  decide
theorem ex2 {s : Wk} (h : CloseRel 3 exL [-2, -3] s) : s.clash = true := by
  rw [closeRel_iter h 5 (by right; decide)]
  decide
theorem ex3 {s : Wk} (h : CloseRel 3 exL [-2] s) : s.clash = false := (ex1 h).1
end Go.Proofs.Ytdnpkeahgpbkoaa
namespace Go.Proofs.Ytdnpkeahgpbkoaa
open Go Ab Go.Lib
set_option linter.unusedVariables false
set_option linter.unusedSimpArgs false

theorem leI_iff (x y : Int) : leI x y = true ↔ ¬ ltI y x := by simp [leI]
theorem le_lt {x y z : Int} (h : ¬ ltI y x) (k : ltI y z) : ltI x z := by unfold ltI at *; omega
theorem lt_of_le_ne {x y : Int} (h : ¬ ltI y x) (k : x ≠ y) : ltI x y := by unfold ltI at *; omega

theorem sorted_m (c : List Int) : (c.mergeSort leI).Pairwise (fun x y => ¬ ltI y x) := by
  have h := List.pairwise_mergeSort (le := leI) (fun a b c h k => by rw [leI_iff] at *; exact ltI_ntrans k h) (fun a b => by
    cases h : leI a b with
    | true => rfl
    | false =>
      have : ltI b a := by
        have := mt (leI_iff a b).2 (by rw [h]; decide)
        exact Decidable.not_not.1 this
      have hn : ¬ ltI a b := fun hh => ltI_irr a (ltI_trans hh this)
      simpa using (leI_iff b a).2 hn) c
  exact h.imp fun h => (leI_iff _ _).1 h

theorem compact_inv (m : List Int) (hs : m.Pairwise (fun x y => ¬ ltI y x)) : ∀ k, k ≤ m.length →
    (compactUpTo m.toArray k).Pairwise ltI ∧ (∀ x, x ∈ compactUpTo m.toArray k ↔ x ∈ m.take k) ∧ (∀ j, k = j + 1 → ∀ x ∈ compactUpTo m.toArray k, ¬ ltI (m.getD j 0) x)
  | 0, _ => ⟨by simp [compactUpTo], by simp [compactUpTo], by simp⟩
  | k + 1, hk => by
    obtain ⟨h1, h2, h3⟩ := compact_inv m hs k (by omega)
    have hlt : k < m.length := by omega
    have hd : m.toArray[k]! = m[k] := by simp [hlt]
    have hg : m.getD k 0 = m[k] := by simp [hlt]
    have htk : m.take (k + 1) = m.take k ++ [m[k]] := by rw [List.take_add_one]; simp [hlt]
    rw [compactUpTo_succ, hd]
    have hle : ∀ x ∈ compactUpTo m.toArray k, ¬ ltI m[k] x := by
      intro x hx
      have := (h2 x).1 hx
      obtain ⟨i, hi, rfl⟩ := List.mem_take_iff_getElem.1 this
      exact (List.pairwise_iff_getElem.1 hs) i k (by omega) hlt (by omega)
    by_cases hkeep : keeps m.toArray k = true
    · rw [if_pos hkeep]
      refine ⟨?_, ?_, ?_⟩
      · rw [List.pairwise_append]
        refine ⟨h1, List.pairwise_singleton _ _, fun x hx y hy => ?_⟩
        rw [List.mem_singleton.1 hy]
        cases k with
        | zero => simp [compactUpTo] at hx
        | succ j =>
          have hlj : j < m.length := by omega
          have hgj : m.getD j 0 = m[j] := by simp [hlj]
          have a1 := h3 j rfl x hx
          rw [hgj] at a1
          have a2 := (List.pairwise_iff_getElem.1 hs) j (j + 1) hlj hlt (by omega)
          have a3 : m[j] ≠ m[j + 1] := by
            have : m.toArray[j + 1]! ≠ m.toArray[j + 1 - 1]! := by simpa [keeps] using hkeep
            rw [hd] at this
            intro e
            apply this
            rw [← e]
            simp [hlj]
          exact le_lt a1 (lt_of_le_ne a2 a3)
      · intro x
        rw [htk, List.mem_append, List.mem_append, h2]
      · intro j hj x hx
        cases hj
        rw [hg]
        rcases List.mem_append.1 hx with hx | hx
        · exact hle x hx
        · rw [List.mem_singleton.1 hx]; exact ltI_irr _
    · rw [if_neg hkeep, List.append_nil]
      cases k with
      | zero => exact absurd (by simp [keeps]) hkeep
      | succ j =>
        have hlj : j < m.length := by omega
        have he : m[j + 1] = m[j] := by
          have : m.toArray[j + 1]! = m.toArray[j + 1 - 1]! := by simpa [keeps] using hkeep
          rw [hd] at this
          rw [this]
          simp [hlj]
        refine ⟨h1, fun x => ?_, fun i hi x hx => ?_⟩
        · rw [h2, htk, List.mem_append, List.mem_singleton]
          constructor
          · exact .inl
          · rintro (h | rfl)
            · exact h
            · rw [he]
              exact List.mem_take_iff_getElem.2 ⟨j, by omega, rfl⟩
        · cases hi
          rw [hg]
          exact hle x hx

theorem sortU_pw (c : List Int) : (sortU c).Pairwise ltI := by
  have := (compact_inv (c.mergeSort leI) (sorted_m c) (c.mergeSort leI).length (Nat.le_refl _)).1
  exact this
theorem sortU_mem (c : List Int) (x : Int) : x ∈ sortU c ↔ x ∈ c := by
  have := (compact_inv (c.mergeSort leI) (sorted_m c) (c.mergeSort leI).length (Nat.le_refl _)).2.1 x
  rw [List.take_length] at this
  have h2 : x ∈ sortU c ↔ x ∈ c.mergeSort leI := this
  rw [h2, List.mem_mergeSort]
/-- There is one such list. -/
theorem pw_unique : ∀ {a b : List Int}, a.Pairwise ltI → b.Pairwise ltI → (∀ x, x ∈ a ↔ x ∈ b) → a = b
  | [], [], _, _, _ => rfl
  | [], y :: s, _, _, h => by have := (h y).2 List.mem_cons_self; simp at this
  | x :: r, [], _, _, h => by have := (h x).1 List.mem_cons_self; simp at this
  | x :: r, y :: s, ha, hb, h => by
    rw [List.pairwise_cons] at ha hb
    have hxy : x = y := by
      rcases List.mem_cons.1 ((h x).1 List.mem_cons_self) with e | e
      · exact e
      · rcases List.mem_cons.1 ((h y).2 List.mem_cons_self) with e2 | e2
        · exact e2.symm
        · exact absurd (ltI_trans (hb.1 x e) (ha.1 y e2)) (ltI_irr y)
    subst hxy
    congr 1
    refine pw_unique ha.2 hb.2 fun z => ?_
    have hz := h z
    constructor
    · intro hm
      rcases List.mem_cons.1 (hz.1 (List.mem_cons_of_mem _ hm)) with e | e
      · subst e; exact absurd (ha.1 z hm) (ltI_irr z)
      · exact e
    · intro hm
      rcases List.mem_cons.1 (hz.2 (List.mem_cons_of_mem _ hm)) with e | e
      · subst e; exact absurd (hb.1 z hm) (ltI_irr z)
      · exact e
theorem sortU_eq {c b : List Int} (hp : b.Pairwise ltI) (hm : ∀ x, x ∈ b ↔ x ∈ c) : sortU c = b :=
  pw_unique (sortU_pw c) hp fun x => by rw [sortU_mem, hm]
theorem sortU_idem (c : List Int) : sortU (sortU c) = sortU c := sortU_eq (sortU_pw c) fun _ => Iff.rfl
theorem ex4 : sortU [2, -1, 2, 1] = [-1, 1, 2] := sortU_eq (by decide) (by intro x; simp; omega)
theorem sortU_len (c : List Int) : (sortU c).length ≤ c.length := by
  have : (sortU c).length ≤ (c.mergeSort leI).length := by
    unfold sortU Lib.compact compactUpTo
    rw [List.length_map]
    refine Nat.le_trans (List.length_filter_le _ _) (by simp)
  rwa [List.length_mergeSort] at this
end Go.Proofs.Ytdnpkeahgpbkoaa
namespace Go.Proofs.Ytdnpkeahgpbkoaa
open Go Ab
set_option maxRecDepth 100000
set_option linter.unusedVariables false
set_option linter.unusedSimpArgs false

theorem exL_ok : ∀ c ∈ exL, ∀ x ∈ c, litOk 3 x := by decide
theorem exL_vle : VLe (.d (.sl 1 (exL.map fun c => .sl 1 (c.map eI) (litRd (c.map eI))) (litRd (exL.map fun c => .sl 1 (c.map eI) (litRd (c.map eI)))))) (.d (eIss exL)) := .sl_c (lit_rows eI 0 exL 1)

theorem shown_call : ACall Try.prog 10 [] [] (fun r o => r = vB true) := by
  refine acall_enter Try.func10 rfl rfl (Nat.le_of_ble_eq_true rfl) fun C hC hCl => ?_
  refine sat_call tabOk Try.func10 rfl trivial (Close_call 3 exL [-2] (by decide) exL_ok (by decide) (by decide) delOk) ⟨.refl _, exL_vle, .eL rfl, trivial⟩ rfl ⟨_, rfl⟩ ?_ ?_
  · rintro r o ⟨s, h1, _, rfl⟩
    simp only [closeEnd, (ex1 h1).1]
    rfl
  rintro r o ⟨s, h1, _, rfl⟩
  have e1 : closeEnd s = .tp [.d (eIs [1, -2, 3]), vB false] := by
    simp only [closeEnd, (ex1 h1).1, (ex1 h1).2]
    rfl
  rw [e1]
  refine sat_call tabOk Try.func10 rfl trivial (Close_call 3 exL [-2, -3] (by decide) exL_ok (by decide) (by decide) delOk) ⟨.refl _, exL_vle, .eL rfl, trivial⟩ rfl ⟨_, rfl⟩ ?_ ?_
  · rintro r o ⟨s, h1, _, rfl⟩
    simp only [closeEnd, ex2 h1]
    rfl
  rintro r o ⟨s2, h2, _, rfl⟩
  have e2 : closeEnd s2 = .tp [.d (.v (.slice none 0 0)), vB true] := by
    simp only [closeEnd, ex2 h2]
    rfl
  rw [e2]
  refine sat_branch tabOk Try.func10 rfl trivial (fun _ => ?_) (fun h => by cases h)
  refine sat_call tabOk Try.func10 rfl trivial (Ints_call [1, -2, 3] [1, -2, 3]) ⟨.refl _, .eL rfl, trivial⟩ rfl ⟨_, rfl⟩ (by rintro r o rfl; rfl) ?_
  rintro r o rfl
  refine sat_branch tabOk Try.func10 rfl trivial (fun _ => ?_) (fun h => by simp at h)
  refine sat_branch tabOk Try.func10 rfl trivial (fun _ => ?_) (fun h => by cases h)
  refine sat_call tabOk Try.func10 rfl trivial (Refutes_call 3 exL [2, 3] (by decide) exL_ok (by decide) (by decide) (by decide)) ⟨.refl _, exL_vle, .eL rfl, trivial⟩ rfl ⟨_, rfl⟩ (by rintro r o ⟨s, _, _, rfl⟩; rfl) ?_
  rintro r o ⟨s3, h3, _, rfl⟩
  rw [ex2 h3]
  refine sat_branch tabOk Try.func10 rfl trivial (fun _ => ?_) (fun h => by cases h)
  refine sat_call tabOk Try.func10 rfl trivial (Refutes_call 3 exL [2] (by decide) exL_ok (by decide) (by decide) (by decide)) ⟨.refl _, exL_vle, .eL rfl, trivial⟩ rfl ⟨_, rfl⟩ (by rintro r o ⟨s, _, _, rfl⟩; rfl) ?_
  rintro r o ⟨s4, h4, _, rfl⟩
  rw [(ex1 h4).1]
  refine sat_branch tabOk Try.func10 rfl trivial (fun _ => ?_) (fun h => by cases h)
  refine sat_call tabOk Try.func10 rfl trivial (Sort_call [2, -1, 2, 1] (by decide) (by decide)) ⟨.eL rfl, trivial⟩ rfl ⟨_, rfl⟩ (by rintro r o rfl; rfl) ?_
  rintro r o rfl
  rw [ex4]
  refine sat_call tabOk Try.func10 rfl trivial (Ints_call [-1, 1, 2] [-1, 1, 2]) ⟨.refl _, .eL rfl, trivial⟩ rfl ⟨_, rfl⟩ (by rintro r o rfl; rfl) ?_
  rintro r o rfl
  refine sat_ret tabOk Try.func10 rfl trivial ?_
  show vB _ = vB true
  simp

def mayP (n : Int) (l : List (List Int)) (c : List Int) : Prop := 0 ≤ n ∧ n ≤ 60 ∧ l.length ≤ 40 ∧ (∀ d ∈ l, d.length ≤ 40 ∧ ∀ x ∈ d, litOk n x) ∧ c.length ≤ 40 ∧ ∀ x ∈ c, litOk n x
def mayR (n : Int) (l : List (List Int)) (c : List Int) (r : AV) (_ : List (Option AObj)) : Prop := ∃ b, r = vB b ∧ (b = true → mayP n l c)
theorem may_call (n : Int) (l : List (List Int)) (c : List Int) (hll : l.length ≤ maxLen) (hlc : ∀ c ∈ l, c.length ≤ maxLen) (hcl : c.length ≤ maxLen) :
    ACall Try.prog 11 [vI .i64 n, .d (eIss l), .d (eIs c)] [] (mayR n l c) := by
  refine acall_enter Try.func11 rfl rfl (Nat.le_of_ble_eq_true rfl) fun C hC hCl => ?_
  have no : ∀ {nd : Prop} {todo env objs o}, srun tab Try.f11.ntmps Try.f11.results.toList 2000 True todo env objs = .ret nd (vB false) o → nd → ASat Try.prog 11 Try.f11.ntmps C todo env objs (mayR n l c) := fun h1 h2 => sat_ret tabOk Try.func11 h1 h2 ⟨false, rfl, fun h => by cases h⟩
  refine sat_branch tabOk Try.func11 rfl trivial (fun h1 => ?_) (fun h1 => ?_)
  · have h1 : n ≤ 60 := by simpa using h1
    refine sat_call tabOk Try.func11 rfl trivial (Small_call n l 40 hll) ⟨.refl _, .refl _, trivial⟩ rfl ⟨_, rfl⟩ (by rintro r o rfl; rfl) ?_
    rintro r o rfl
    refine sat_branch tabOk Try.func11 rfl trivial (fun h2 => ?_) (fun h2 => ?_)
    · refine sat_call tabOk Try.func11 rfl trivial (Right_call n l hll hlc) ⟨.refl _, trivial⟩ rfl ⟨_, rfl⟩ (by rintro r o rfl; rfl) ?_
      rintro r o rfl
      refine sat_branch tabOk Try.func11 rfl trivial (fun h3 => ?_) (fun h3 => ?_)
      · refine sat_call tabOk Try.func11 rfl trivial (Small_call n [c] 40 (Nat.le_of_ble_eq_true rfl)) ⟨.dag ⟨.refl _, .eL rfl, trivial⟩, .refl _, trivial⟩ rfl ⟨_, rfl⟩ (by rintro r o rfl; rfl) ?_
        rintro r o rfl
        refine sat_branch tabOk Try.func11 rfl trivial (fun h4 => ?_) (fun h4 => ?_)
        · refine sat_call tabOk Try.func11 rfl trivial (Right_call n [c] (Nat.le_of_ble_eq_true rfl) (by simpa using hcl)) ⟨.dag ⟨.refl _, .eL rfl, trivial⟩, trivial⟩ rfl ⟨_, rfl⟩ (by rintro r o rfl; rfl) ?_
          rintro r o rfl
          refine sat_ret tabOk Try.func11 rfl trivial ⟨rightB n [c], rfl, fun h5 => ?_⟩
          simp [rightB, clOk] at h2 h3 h4 h5
          refine ⟨h3.1.1, h1, by omega, fun d hd => ⟨by have := h2.2 d hd; omega, fun x hx => (h3.2 d hd).2 x hx⟩, by omega, h5.2.2⟩
        · exact no rfl trivial
      · refine sat_branch tabOk Try.func11 rfl trivial (fun h => by cases h) (fun _ => ?_)
        exact no rfl trivial
    · refine sat_branch tabOk Try.func11 rfl trivial (fun h => by cases h) (fun _ => ?_)
      refine sat_branch tabOk Try.func11 rfl trivial (fun h => by cases h) (fun _ => ?_)
      exact no rfl trivial
  · refine sat_branch tabOk Try.func11 rfl trivial (fun h => by cases h) (fun _ => ?_)
    refine sat_branch tabOk Try.func11 rfl trivial (fun h => by cases h) (fun _ => ?_)
    refine sat_branch tabOk Try.func11 rfl trivial (fun h => by cases h) (fun _ => ?_)
    exact no rfl trivial
end Go.Proofs.Ytdnpkeahgpbkoaa
namespace Go.Proofs.Ytdnpkeahgpbkoaa
open Go Ab
set_option maxRecDepth 100000
set_option linter.unusedVariables false
set_option linter.unusedSimpArgs false

theorem in_true (l : List Int) (x : Int) (h : x ∈ l) : ACall Try.prog 21 [.d (eIs l), vI .i64 x] [] (fun r o => r = vB true) :=
  (In_call l x).mono fun r o hr => by rw [hr]; simp [h]

theorem UnitSorts_law (n : Int) (c : List Int) (hcm : c.length ≤ maxLen) : ACall Try.prog 9 [vI .i64 n, .d (eIs c)] [] (fun r _ => r = vB true) := by
  refine acall_enter Try.func9 rfl rfl (Nat.le_of_ble_eq_true rfl) fun C hC hCl => ?_
  refine sat_call tabOk Try.func9 rfl trivial shown_call trivial rfl ⟨_, rfl⟩ (by rintro r o rfl; rfl) ?_
  rintro r o rfl
  refine sat_call tabOk Try.func9 rfl trivial (may_call n [] c (Nat.zero_le _) (by simp) hcm) ⟨.refl _, .nil, .refl _, trivial⟩ rfl ⟨_, rfl⟩ (by rintro r o ⟨b, rfl, _⟩; rfl) ?_
  rintro r o ⟨b, rfl, hmay⟩
  refine sat_branch tabOk Try.func9 rfl trivial (fun h => ?_) (fun h => ?_)
  · exact sat_ret tabOk Try.func9 rfl trivial rfl
  have hb : b = true := by simpa using h
  obtain ⟨hn0, hn1, _, _, hc1, hc2⟩ := hmay hb
  have hcb : ∀ x ∈ c, -1000000 ≤ x ∧ x ≤ 1000000 := fun x hx => by obtain ⟨_, h1, h2⟩ := hc2 x hx; omega
  refine sat_call tabOk Try.func9 rfl trivial (Sort_call c hcb (by omega)) (.refl _) rfl ⟨_, rfl⟩ (by rintro r o rfl; rfl) ?_
  rintro r o rfl
  have hmem := sortU_mem c
  have hpw := sortU_pw c
  have hsl := sortU_len c
  have hsi := sortU_idem c
  generalize sortU c = s at hmem hpw hsl hsi
  refine sat_stop tabOk Try.func9 rfl trivial ?_
  refine sat_while (α := Nat) (fun i => [(1, .d (eIs c)), (5, vB true), (6, .d (eIs s)), (7, vI .i64 i)]) (fun _ => []) (fun i => i ≤ c.length) (fun i => c.length - i) 0 (Nat.zero_le _) ?_ ?_
  · exact fun h => sat_le h hC hCl ⟨⟨_, rfl, .refl _⟩, ⟨_, rfl, .refl _⟩, ⟨_, rfl, .refl _⟩, ⟨_, rfl, .refl _⟩, trivial⟩ trivial rfl rfl (Nat.zero_le _)
  rintro i hi ih
  refine sat_branch tabOk Try.func9 rfl trivial (fun hbr => ?_) (fun hbr => ?_) <;> simp only [decide_eq_true_eq, decide_eq_false_iff_not, List.length_map] at hbr
  · have hlt : i < c.length := by omega
    have hget : c.getD i 0 = c[i] := by simp [hlt]
    refine sat_call tabOk Try.func9 rfl ?_ (in_true s c[i] ((hmem _).2 (List.getElem_mem hlt))) ⟨.refl _, .of (by show vI .i64 (c.getD i 0) = _; rw [hget]), trivial⟩ rfl ⟨_, rfl⟩ (by rintro r o rfl; rfl) ?_
    · simp only [Int.toNat_natCast, List.length_map]; exact ⟨⟨by omega, by omega⟩, trivial⟩
    rintro r o rfl
    refine sat_branch tabOk Try.func9 rfl trivial (fun h => by cases h) (fun _ => ?_)
    refine sat_stop tabOk Try.func9 rfl trivial ?_
    exact sat_le (ih (i + 1) (by omega) (by omega)) hC hCl ⟨⟨_, rfl, .refl _⟩, ⟨_, rfl, .refl _⟩, ⟨_, rfl, .refl _⟩, ⟨_, rfl, .of (by rw [wrap_id (by omega) (by omega)]; rfl)⟩, trivial⟩ trivial rfl rfl (Nat.zero_le _)
  refine sat_stop tabOk Try.func9 rfl trivial ?_
  refine sat_while (α := Nat) (fun i => [(1, .d (eIs c)), (5, vB true), (6, .d (eIs s)), (8, vI .i64 i)]) (fun _ => []) (fun i => i ≤ s.length) (fun i => s.length - i) 0 (Nat.zero_le _) ?_ ?_
  · exact fun h => sat_le h hC hCl ⟨⟨_, rfl, .refl _⟩, ⟨_, rfl, .refl _⟩, ⟨_, rfl, .refl _⟩, ⟨_, rfl, .refl _⟩, trivial⟩ trivial rfl rfl (Nat.zero_le _)
  clear ih
  rintro i hi ih
  refine sat_branch tabOk Try.func9 rfl trivial (fun hbr => ?_) (fun hbr => ?_) <;> simp only [decide_eq_true_eq, decide_eq_false_iff_not, List.length_map] at hbr
  · have hlt : i < s.length := by omega
    have hget : s.getD i 0 = s[i] := by simp [hlt]
    have hsc : ∀ x ∈ s, litOk n x := fun x hx => hc2 x ((hmem x).1 hx)
    obtain ⟨y0, y1, y2⟩ := hsc _ (List.getElem_mem hlt)
    have next : ASat Try.prog 9 Try.f9.ntmps C _ _ _ _ := ih (i + 1) (by omega) (by omega)
    have fin : ∀ {env2 : Env}, True := fun {_} => trivial
    refine sat_drawQ tabOk Try.func9 rfl rfl trivial (by kernel_rfl) ?_
    refine qs_call (.bool true) tabOk rfl ?_ rfl (qcall_of (in_true c s[i] ((hmem _).1 (List.getElem_mem hlt))) (fun args w => callFunc_run Try.func21 rfl rfl args w) (by rintro r o rfl; rfl) ⟨.inl (.refl _), .inl (.of (by show vI .i64 (s.getD i 0) = _; rw [hget])), trivial⟩ rfl) ⟨_, rfl⟩ ?_
    · simp only [Int.toNat_natCast, List.length_map]; exact ⟨⟨by omega, by omega⟩, trivial⟩
    refine qs_branch tabOk rfl trivial (fun h => by cases h) (fun _ => ?_)
    refine qs_branch tabOk rfl trivial (fun h1 => ?_) (fun h1 => ?_)
    · have h1 : 0 < i := by simpa using h1
      have hlp : i - 1 < s.length := by omega
      have hgp : s.getD (i - 1) 0 = s[i - 1] := by simp [hlp]
      obtain ⟨z0, z1, z2⟩ := hsc _ (List.getElem_mem hlp)
      have hlt2 : ltI s[i - 1] s[i] := (List.pairwise_iff_getElem.1 hpw) (i - 1) i hlp hlt (by omega)
      have w0 : IntKind.i64.wrap ((i : Int) - 1) = ((i - 1 : Nat) : Int) := by rw [wrap_id (by omega) (by omega)]; omega
      have w1 : IntKind.i64.wrap (0 - s[i]) = -s[i] := by rw [wrap_id (by omega) (by omega), Int.zero_sub]
      have w2 : IntKind.i64.wrap (0 - s[i - 1]) = -s[i - 1] := by rw [wrap_id (by omega) (by omega), Int.zero_sub]
      refine qs_branch tabOk rfl ?_ (fun h => ?_) (fun h => ?_)
      · simp only [w0, Int.toNat_natCast, List.length_map]
        exact ⟨⟨by omega, by omega⟩, ⟨by omega, by omega⟩, ⟨by omega, by omega⟩, ⟨by omega, by omega⟩, trivial⟩
      · simp only [w0, Int.toNat_natCast, hget, hgp, w1, w2, decide_eq_true_eq] at h
        unfold ltI at hlt2
        omega
      refine qs_branch tabOk rfl trivial (fun _ => ?_) (fun h => ?_)
      · refine qs_done tabOk rfl ?_ ?_
        · simp only [w0, Int.toNat_natCast, List.length_map]
          exact ⟨⟨by omega, by omega⟩, ⟨by omega, by omega⟩, trivial⟩
        refine sat_branch tabOk Try.func9 rfl trivial (fun h => ?_) (fun _ => ?_)
        · simp only [w0, Int.toNat_natCast, hget, hgp, beq_iff_eq] at h
          rw [h] at hlt2
          exact absurd hlt2 (ltI_irr _)
        refine sat_stop tabOk Try.func9 rfl trivial ?_
        exact sat_le next hC hCl ⟨⟨_, rfl, .refl _⟩, ⟨_, rfl, .refl _⟩, ⟨_, rfl, .refl _⟩, ⟨_, rfl, .of (by rw [wrap_id (by omega) (by omega)]; rfl)⟩, trivial⟩ trivial rfl rfl (Nat.zero_le _)
      · have : ¬ 0 < i := by simpa using h
        omega
    · have h1 : ¬ 0 < i := by simpa using h1
      refine qs_branch tabOk rfl trivial (fun h => by cases h) (fun _ => ?_)
      refine qs_branch tabOk rfl trivial (fun h => ?_) (fun _ => ?_)
      · have : 0 < i := by simpa using h
        omega
      refine qs_done tabOk rfl trivial ?_
      refine sat_branch tabOk Try.func9 rfl trivial (fun h => by cases h) (fun _ => ?_)
      refine sat_stop tabOk Try.func9 rfl trivial ?_
      exact sat_le next hC hCl ⟨⟨_, rfl, .refl _⟩, ⟨_, rfl, .refl _⟩, ⟨_, rfl, .refl _⟩, ⟨_, rfl, .of (by rw [wrap_id (by omega) (by omega)]; rfl)⟩, trivial⟩ trivial rfl rfl (Nat.zero_le _)
  · refine sat_branch tabOk Try.func9 rfl trivial (fun _ => ?_) (fun h => by cases h)
    refine sat_branch tabOk Try.func9 rfl trivial (fun _ => ?_) (fun h => by simp at h; omega)
    have hsb : ∀ x ∈ s, -1000000 ≤ x ∧ x ≤ 1000000 := fun x hx => hcb x ((hmem x).1 hx)
    refine sat_call tabOk Try.func9 rfl trivial (Sort_call s hsb (by omega)) (.refl _) rfl ⟨_, rfl⟩ (by rintro r o rfl; rfl) ?_
    rintro r o rfl
    rw [hsi]
    refine sat_call tabOk Try.func9 rfl trivial (Ints_call s s) (.refl _) rfl ⟨_, rfl⟩ (by rintro r o rfl; rfl) ?_
    rintro r o rfl
    refine sat_ret tabOk Try.func9 rfl trivial ?_
    show vB _ = vB true
    simp
end Go.Proofs.Ytdnpkeahgpbkoaa
namespace Go.Proofs.Ytdnpkeahgpbkoaa
open Go Ab
set_option linter.unusedVariables false
set_option linter.unusedSimpArgs false

/-! ### What is forced, by definition -/
inductive Fo (l : List (List Int)) (a : List Int) : Int → Prop
  | mem {x : Int} (h : x ∈ a) : Fo l a x
  | unit {c : List Int} {x : Int} (hc : c ∈ l) (hx : x ∈ c) (h : ∀ y ∈ c, y ≠ x → Fo l a (-y)) : Fo l a x
def Cf (l : List (List Int)) (a : List Int) : Prop := (∃ x, Fo l a x ∧ Fo l a (-x)) ∨ ∃ c ∈ l, ∀ y ∈ c, Fo l a (-y)

theorem va_neg (x : Int) : va (-x) = va x := by unfold va; congr 1; omega
theorem va_eq {x y : Int} (h : va x = va y) : x = y ∨ x = -y := by unfold va at h; omega

/-- What stands is right: each entry at its own place, each forced. -/
structure Snd (l : List (List Int)) (a : List Int) (n : Int) (s : Wk) : Prop where
  v : WkV n s
  at_ : ∀ i, i < s.forced.length → s.forced.getD i 0 ≠ 0 → va (s.forced.getD i 0) = i ∧ Fo l a (s.forced.getD i 0) ∧ litOk n (s.forced.getD i 0)
  cl : s.clash = true → Cf l a
theorem getD_set (l : List Int) (i j : Nat) (x : Int) (hi : i < l.length) : (l.set i x).getD j 0 = if i = j then x else l.getD j 0 := by
  by_cases h : i = j
  · subst h; simp [List.getD_eq_getElem?_getD, hi]
  · simp [List.getD_eq_getElem?_getD, List.getElem?_set, h]
theorem force_snd {l : List (List Int)} {a : List Int} {n x : Int} {s : Wk} (h : Snd l a n s) (hx : litOk n x) (hf : Fo l a x) : Snd l a n (forceW s x) := by
  have hlt : va x < s.forced.length := by rw [h.v.len]; exact va_lt hx
  refine ⟨forceW_V hx h.v, ?_, ?_⟩
  · unfold forceW
    split
    · exact h.at_
    · split
      · intro i hi hne
        simp only [List.length_set] at hi
        simp only [getD_set _ _ _ _ hlt] at hne ⊢
        split at hne
        · rename_i e
          rw [if_pos e]
          exact ⟨e, hf, hx⟩
        · rename_i e
          rw [if_neg e]
          exact h.at_ i hi hne
      · exact h.at_
  · unfold forceW
    split
    · exact h.cl
    · split
      · exact h.cl
      · rename_i h1 h2
        intro _
        obtain ⟨e1, e2, e3⟩ := h.at_ _ hlt h2
        rcases va_eq e1 with e | e
        · exact absurd e h1
        · exact .inl ⟨x, hf, by rw [← e]; exact e2⟩

theorem scan_spec (f : List Int) : ∀ (r : List Int) (only o : Int), (∀ y ∈ r, y ≠ 0) → scanW f only r = some o → (∀ y ∈ r, f.getD (va y) 0 = -y ∨ y = o) ∧ (only ≠ 0 → o = only) ∧ (o = only ∨ o ∈ r)
  | [], only, o, _, h => by
    simp only [scanW, Option.some.injEq] at h
    subst h
    exact ⟨by simp, fun _ => rfl, .inl rfl⟩
  | x :: r, only, o, h0, h => by
    simp only [scanW] at h
    split at h
    · cases h
    · split at h
      · rename_i hx
        obtain ⟨a1, a2, a3⟩ := scan_spec f r only o (fun y hy => h0 y (List.mem_cons_of_mem _ hy)) h
        refine ⟨fun y hy => ?_, a2, a3.imp id (List.mem_cons_of_mem _)⟩
        rcases List.mem_cons.1 hy with rfl | hy
        · exact .inl hx
        · exact a1 y hy
      · split at h
        · cases h
        · rename_i hno
          obtain ⟨a1, a2, a3⟩ := scan_spec f r x o (fun y hy => h0 y (List.mem_cons_of_mem _ hy)) h
          have hox : o = x := a2 (h0 x List.mem_cons_self)
          refine ⟨fun y hy => ?_, fun hne => ?_, .inr (by rw [hox]; exact List.mem_cons_self)⟩
          · rcases List.mem_cons.1 hy with rfl | hy
            · exact .inr hox.symm
            · exact a1 y hy
          · have : only = x := Decidable.not_not.1 fun hh => hno ⟨hne, hh⟩
            rw [hox, this]

theorem Snd.neg {l : List (List Int)} {a : List Int} {n : Int} {s : Wk} (h : Snd l a n s) {y : Int} (hy : litOk n y) (hf : s.forced.getD (va y) 0 = -y) : Fo l a (-y) := by
  have hlt : va y < s.forced.length := by rw [h.v.len]; exact va_lt hy
  have hne : s.forced.getD (va y) 0 ≠ 0 := by rw [hf]; have := hy.1; omega
  have := (h.at_ _ hlt hne).2.1
  rwa [hf] at this
theorem look_snd {l : List (List Int)} {a : List Int} {n : Int} {s : Wk} {c : List Int} (h : Snd l a n s) (hc : c ∈ l) (hx : ∀ x ∈ c, litOk n x) : Snd l a n (lookW s c) := by
  refine ⟨lookW_V hx h.v, ?_, ?_⟩ <;> unfold lookW
  all_goals
    split
    · first | exact h.at_ | exact h.cl
    · rename_i only ho
      obtain ⟨a1, a2, a3⟩ := scan_spec s.forced c 0 only (fun y hy => (hx y hy).1) ho
      split
      · rename_i h0
        first
        | exact h.at_
        | exact fun _ => .inr ⟨c, hc, fun y hy => h.neg (hx y hy) ((a1 y hy).resolve_right (by rw [h0]; exact (hx y hy).1))⟩
      · rename_i h0
        have hm : only ∈ c := a3.resolve_left h0
        have hfo : Fo l a only := .unit hc hm fun y hy hne => h.neg (hx y hy) ((a1 y hy).resolve_right hne)
        first
        | exact (force_snd h (hx only hm) hfo).at_
        | exact (force_snd h (hx only hm) hfo).cl

theorem foldl_inv {α β : Type} (I : β → Prop) (f : β → α → β) : ∀ (r : List α) (b : β), I b → (∀ b a, a ∈ r → I b → I (f b a)) → I (r.foldl f b)
  | [], b, h, _ => h
  | a :: r, b, h, hs => foldl_inv I f r (f b a) (hs b a List.mem_cons_self h) fun b' a' ha hb => hs b' a' (List.mem_cons_of_mem _ ha) hb

structure Okl (n : Int) (l : List (List Int)) (a : List Int) : Prop where
  n0 : 0 ≤ n
  cl : ∀ c ∈ l, ∀ x ∈ c, litOk n x
  asm : ∀ x ∈ a, litOk n x

theorem at_mem {l : List (List Int)} {i : Int} {x : Int} (h : i ∈ gget x (gatherL l 0 [])) : l.getD i.toNat [] ∈ l ∧ -x ∈ l.getD i.toNat [] := by
  rw [gget_gatherL, gget, List.nil_append] at h
  obtain ⟨j, h1, h2, h3⟩ := idxs_mem.1 h
  have : i.toNat = j := by omega
  rw [this]
  refine ⟨?_, h3⟩
  simp [h1]

theorem first_snd {n : Int} {l : List (List Int)} {a : List Int} (h : Okl n l a) : Snd l a n (firstW n l a) := by
  unfold firstW
  refine foldl_inv (Snd l a n) lookW l _ ?_ fun s c hc hs => look_snd hs hc (h.cl c hc)
  refine foldl_inv (Snd l a n) forceW a _ ?_ fun s x hx hs => force_snd hs (h.asm x hx) (.mem hx)
  refine ⟨⟨by simp, by simp⟩, fun i hi hne => ?_, fun h => by cases h⟩
  exact absurd (by simp only [List.length_replicate] at hi; simp only [List.getD_eq_getElem?_getD, List.getElem?_replicate]; split <;> rfl) hne
theorem pop_snd {n : Int} {l : List (List Int)} {a : List Int} (h : Okl n l a) {s : Wk} {x : Int} {q : List Int} (hs : Snd l a n s) (hq : s.queue = x :: q) : Snd l a n (popW l (gatherL l 0 []) s x q) := by
  unfold popW
  refine foldl_inv (Snd l a n) (lookAt l) _ _ ?_ fun t i hi ht => look_snd ht (at_mem hi).1 (h.cl _ (at_mem hi).1)
  refine ⟨⟨hs.v.len, ?_⟩, hs.at_, hs.cl⟩
  have := hs.v.sz
  rw [hq] at this
  simp only [List.length_cons] at this
  simp only
  omega
theorem close_snd {n : Int} {l : List (List Int)} {a : List Int} {s : Wk} (h : Okl n l a) (hr : CloseRel n l a s) : Snd l a n s := by
  have : ∀ {t}, Star l (gatherL l 0 []) (firstW n l a) t → Snd l a n t := by
    intro t ht
    induction ht with
    | refl => exact first_snd h
    | step _ hc hq ih => exact pop_snd h ih hq
  exact this hr.1
end Go.Proofs.Ytdnpkeahgpbkoaa
namespace Go.Proofs.Ytdnpkeahgpbkoaa
open Go Ab
set_option linter.unusedVariables false
set_option linter.unusedSimpArgs false

/-! ### All that is forced is found -/
def Fine (f : List Int) (c : List Int) : Prop := (∃ y ∈ c, f.getD (va y) 0 = y) ∨ ∃ y ∈ c, ∃ z ∈ c, y ≠ z ∧ f.getD (va y) 0 ≠ -y ∧ f.getD (va z) 0 ≠ -z
def Pd (s : Wk) (c : List Int) : Prop := ∃ y ∈ c, -y ∈ s.queue
def J (l : List (List Int)) (s : Wk) (rest : List (List Int)) : Prop := s.clash = true ∨ ∀ c ∈ l, Fine s.forced c ∨ Pd s c ∨ c ∈ rest

theorem scan_none (f : List Int) : ∀ (r : List Int) (only : Int), (∀ y ∈ r, y ≠ 0) → scanW f only r = none → (∃ y ∈ r, f.getD (va y) 0 = y) ∨ (only ≠ 0 ∧ ∃ z ∈ r, only ≠ z ∧ f.getD (va z) 0 ≠ -z) ∨ ∃ y ∈ r, ∃ z ∈ r, y ≠ z ∧ f.getD (va y) 0 ≠ -y ∧ f.getD (va z) 0 ≠ -z
  | [], only, _, h => by simp [scanW] at h
  | x :: r, only, h0, h => by
    have hr := fun y hy => h0 y (List.mem_cons_of_mem x hy)
    have up : ∀ {p : Int → Prop}, (∃ y ∈ r, p y) → ∃ y ∈ x :: r, p y := fun ⟨y, hy, hp⟩ => ⟨y, List.mem_cons_of_mem _ hy, hp⟩
    simp only [scanW] at h
    split at h
    · rename_i hx
      exact .inl ⟨x, List.mem_cons_self, hx⟩
    · split at h
      · rcases scan_none f r only hr h with h | ⟨h1, h2⟩ | ⟨y, hy, z, hz, h2⟩
        · exact .inl (up h)
        · exact .inr (.inl ⟨h1, up h2⟩)
        · exact .inr (.inr ⟨y, List.mem_cons_of_mem _ hy, z, List.mem_cons_of_mem _ hz, h2⟩)
      · rename_i hnx
        split at h
        · rename_i hh
          exact .inr (.inl ⟨hh.1, x, List.mem_cons_self, hh.2, hnx⟩)
        · rcases scan_none f r x hr h with h | ⟨h1, z, hz, h3, h4⟩ | ⟨y, hy, z, hz, h2⟩
          · exact .inl (up h)
          · exact .inr (.inr ⟨x, List.mem_cons_self, z, List.mem_cons_of_mem _ hz, h3, hnx, h4⟩)
          · exact .inr (.inr ⟨y, List.mem_cons_of_mem _ hy, z, List.mem_cons_of_mem _ hz, h2⟩)
theorem scan_fine {f c : List Int} (h0 : ∀ y ∈ c, y ≠ 0) (h : scanW f 0 c = none) : Fine f c := by
  rcases scan_none f c 0 h0 h with h | ⟨h1, _⟩ | h
  · exact .inl h
  · exact absurd rfl h1
  · exact .inr h

theorem force_clash {s : Wk} {x : Int} (h : s.clash = true) : (forceW s x).clash = true := by
  unfold forceW
  split
  · exact h
  · split
    · exact h
    · rfl
theorem look_clash {s : Wk} {c : List Int} (h : s.clash = true) : (lookW s c).clash = true := by
  unfold lookW
  split
  · exact h
  · split
    · rfl
    · exact force_clash h
/-- What is forced stays. -/
def Grows (f g : List Int) : Prop := ∀ i, f.getD i 0 ≠ 0 → g.getD i 0 = f.getD i 0
theorem force_grows {s : Wk} {x : Int} (hlt : va x < s.forced.length) : Grows s.forced (forceW s x).forced := by
  intro i hi
  unfold forceW
  split
  · rfl
  · split
    · rename_i h2
      simp only [getD_set _ _ _ _ hlt]
      rw [if_neg (fun e => by subst e; exact hi h2)]
    · rfl
theorem force_at {s : Wk} {x : Int} (hlt : va x < s.forced.length) (hc : (forceW s x).clash = false) : (forceW s x).forced.getD (va x) 0 = x := by
  unfold forceW at hc ⊢
  split
  · assumption
  · rename_i h1
    rw [if_neg h1] at hc
    split
    · simp only [getD_set _ _ _ _ hlt, if_true]
    · rename_i h2
      rw [if_neg h2] at hc
      cases hc
theorem force_J {l rest : List (List Int)} {n x : Int} {s : Wk} (hl : ∀ c ∈ l, ∀ y ∈ c, litOk n y) (hv : WkV n s) (hx : litOk n x) (h : J l s rest) : J l (forceW s x) rest := by
  rcases h with h | h
  · exact .inl (force_clash h)
  have hlt : va x < s.forced.length := by rw [hv.len]; exact va_lt hx
  unfold forceW
  split
  · exact .inr h
  · split
    · rename_i h1 h2
      refine .inr fun c hc => ?_
      rcases h c hc with h | ⟨y, hy, hq⟩ | h
      · rcases h with ⟨y, hy, hf⟩ | ⟨y, hy, z, hz, hne, hfy, hfz⟩
        · refine .inl (.inl ⟨y, hy, ?_⟩)
          simp only [getD_set _ _ _ _ hlt]
          rw [if_neg ?_]
          · exact hf
          · intro e
            rw [← e, h2] at hf
            exact (hl c hc y hy).1 hf.symm
        · by_cases e1 : x = -y
          · exact .inr (.inl ⟨y, hy, by rw [← e1]; simp⟩)
          · by_cases e2 : x = -z
            · exact .inr (.inl ⟨z, hz, by rw [← e2]; simp⟩)
            · refine .inl (.inr ⟨y, hy, z, hz, hne, ?_, ?_⟩)
              · simp only [getD_set _ _ _ _ hlt]
                split
                · exact e1
                · exact hfy
              · simp only [getD_set _ _ _ _ hlt]
                split
                · exact e2
                · exact hfz
      · exact .inr (.inl ⟨y, hy, List.mem_append_left _ hq⟩)
      · exact .inr (.inr h)
    · exact .inl rfl
theorem look_J {l rest : List (List Int)} {n : Int} {s : Wk} {c : List Int} (hl : ∀ c ∈ l, ∀ y ∈ c, litOk n y) (hv : WkV n s) (hcl : c ∈ l) (h : J l s (c :: rest)) : J l (lookW s c) rest := by
  rcases h with h | h
  · exact .inl (look_clash h)
  have hc0 := hl c hcl
  unfold lookW
  split
  · rename_i hs
    refine .inr fun d hd => ?_
    rcases h d hd with h | h | h
    · exact .inl h
    · exact .inr (.inl h)
    · rcases List.mem_cons.1 h with rfl | h
      · exact .inl (scan_fine (fun y hy => (hc0 y hy).1) hs)
      · exact .inr (.inr h)
  · rename_i only ho
    split
    · exact .inl rfl
    · rename_i hne
      obtain ⟨a1, a2, a3⟩ := scan_spec s.forced c 0 only (fun y hy => (hc0 y hy).1) ho
      have hm : only ∈ c := a3.resolve_left hne
      have hj := force_J hl hv (hc0 only hm) (.inr h : J l s (c :: rest))
      rcases hj with hj | hj
      · exact .inl hj
      · cases hcf : (forceW s only).clash with
        | true => exact .inl hcf
        | false =>
          refine .inr fun d hd => ?_
          rcases hj d hd with h | h | h
          · exact .inl h
          · exact .inr (.inl h)
          · rcases List.mem_cons.1 h with rfl | h
            · exact .inl (.inl ⟨only, hm, force_at (by rw [hv.len]; exact va_lt (hc0 only hm)) hcf⟩)
            · exact .inr (.inr h)

theorem foldl_J {l : List (List Int)} {n : Int} (hl : ∀ c ∈ l, ∀ y ∈ c, litOk n y) : ∀ (r : List (List Int)) (s : Wk), (∀ c ∈ r, c ∈ l) → WkV n s → J l s r → J l (r.foldl lookW s) []
  | [], s, _, _, h => h
  | c :: r, s, hr, hv, h => foldl_J hl r (lookW s c) (fun d hd => hr d (List.mem_cons_of_mem _ hd)) (lookW_V (hl c (hr c List.mem_cons_self)) hv) (look_J hl hv (hr c List.mem_cons_self) h)
theorem popW_eq (l : List (List Int)) (G : List (Int × List Int)) (s : Wk) (x : Int) (q : List Int) : popW l G s x q = ((gget x G).map fun i => l.getD i.toNat []).foldl lookW ⟨s.forced, q, s.clash⟩ := by
  rw [popW, List.foldl_map]
  rfl
theorem first_J {n : Int} {l : List (List Int)} {a : List Int} (h : Okl n l a) : J l (firstW n l a) [] := by
  unfold firstW
  refine foldl_J h.cl l _ (fun c hc => hc) ?_ (.inr fun c hc => .inr (.inr hc))
  exact foldl_inv (WkV n) forceW a _ ⟨by simp, by simp⟩ fun s x hx hs => forceW_V (h.asm x hx) hs
theorem pop_J {n : Int} {l : List (List Int)} {a : List Int} (h : Okl n l a) {s : Wk} {x : Int} {q : List Int} (hv : WkV n s) (hj : J l s []) (hq : s.queue = x :: q) : J l (popW l (gatherL l 0 []) s x q) [] := by
  rw [popW_eq]
  refine foldl_J h.cl _ _ (fun c hc => ?_) ⟨hv.len, ?_⟩ ?_
  · obtain ⟨i, hi, rfl⟩ := List.mem_map.1 hc
    exact (at_mem hi).1
  · have := hv.sz
    rw [hq] at this
    simp only [List.length_cons] at this
    simp only
    omega
  · rcases hj with hj | hj
    · exact .inl hj
    · refine .inr fun c hc => ?_
      rcases hj c hc with h1 | ⟨y, hy, hm⟩ | h1
      · exact .inl h1
      · rw [hq] at hm
        rcases List.mem_cons.1 hm with e | hm
        · refine .inr (.inr (List.mem_map.2 ?_))
          obtain ⟨j, hj1, hj2⟩ := List.mem_iff_getElem.1 hc
          refine ⟨(j : Int), ?_, by simp [hj1, hj2]⟩
          rw [gget_gatherL, gget, List.nil_append]
          refine idxs_mem.2 ⟨j, hj1, by simp, ?_⟩
          have : -x = y := by omega
          rw [this]
          simpa [hj1, hj2] using hy
        · exact .inr (.inl ⟨y, hy, hm⟩)
      · simp at h1
theorem close_J {n : Int} {l : List (List Int)} {a : List Int} {s : Wk} (h : Okl n l a) (hr : CloseRel n l a s) : J l s [] := by
  have : ∀ {t}, Star l (gatherL l 0 []) (firstW n l a) t → J l t [] ∧ WkV n t := by
    intro t ht
    induction ht with
    | refl => exact ⟨first_J h, (first_snd h).v⟩
    | step hst hc hq ih => exact ⟨pop_J h ih.2 ih.1 hq, (pop_snd h (by
        have : ∀ {t}, Star l (gatherL l 0 []) (firstW n l a) t → Snd l a n t := by
          intro t ht
          induction ht with
          | refl => exact first_snd h
          | step _ hc hq ih => exact pop_snd h ih hq
        exact this hst) hq).v⟩
  exact (this hr.1).1
end Go.Proofs.Ytdnpkeahgpbkoaa
namespace Go.Proofs.Ytdnpkeahgpbkoaa
open Go Ab
set_option linter.unusedVariables false
set_option linter.unusedSimpArgs false

/-- What is told stays told. -/
def Kp (x : Int) (s : Wk) : Prop := s.clash = true ∨ s.forced.getD (va x) 0 = x
theorem kp_force {n x y : Int} {s : Wk} (hv : WkV n s) (hy : litOk n y) (hx : x ≠ 0) (h : Kp x s) : Kp x (forceW s y) := by
  rcases h with h | h
  · exact .inl (force_clash h)
  · exact .inr (by rw [force_grows (by rw [hv.len]; exact va_lt hy) _ (by rw [h]; exact hx)]; exact h)
theorem kp_look {n x : Int} {s : Wk} {c : List Int} (hv : WkV n s) (hc : ∀ y ∈ c, litOk n y) (hx : x ≠ 0) (h : Kp x s) : Kp x (lookW s c) := by
  unfold lookW
  split
  · exact h
  · rename_i only ho
    split
    · exact .inl rfl
    · rename_i hne
      exact kp_force hv (hc only ((scan_spec s.forced c 0 only (fun y hy => (hc y hy).1) ho).2.2.resolve_left hne)) hx h
theorem kp_first {n : Int} {l : List (List Int)} {a : List Int} (h : Okl n l a) {x : Int} (hx : x ∈ a) : Kp x (firstW n l a) := by
  have hx0 := (h.asm x hx).1
  have key : ∀ (r : List Int) (s : Wk), WkV n s → (∀ y ∈ r, litOk n y) → (x ∈ r ∨ Kp x s) → Kp x (r.foldl forceW s) := by
    intro r
    induction r with
    | nil => intro s _ _ h; exact h.resolve_left (by simp)
    | cons y r ih =>
      intro s hv hr h
      have hy := hr y List.mem_cons_self
      refine ih _ (forceW_V hy hv) (fun z hz => hr z (List.mem_cons_of_mem _ hz)) ?_
      rcases h with h | h
      · rcases List.mem_cons.1 h with rfl | h
        · right
          cases hc : (forceW s x).clash with
          | true => exact .inl hc
          | false => exact .inr (force_at (by rw [hv.len]; exact va_lt hy) hc)
        · exact .inl h
      · exact .inr (kp_force hv hy hx0 h)
  unfold firstW
  have h1 := key a ⟨List.replicate (n + 1).toNat 0, [], false⟩ ⟨by simp, by simp⟩ h.asm (.inl hx)
  have h2 : WkV n (a.foldl forceW ⟨List.replicate (n + 1).toNat 0, [], false⟩) := foldl_inv (WkV n) forceW a _ ⟨by simp, by simp⟩ fun s x hx hs => forceW_V (h.asm x hx) hs
  exact (foldl_inv (fun s => WkV n s ∧ Kp x s) lookW l _ ⟨h2, h1⟩ fun s c hc hs => ⟨lookW_V (h.cl c hc) hs.1, kp_look hs.1 (h.cl c hc) hx0 hs.2⟩).2
theorem kp_star {n : Int} {l : List (List Int)} {a : List Int} (h : Okl n l a) {x : Int} (hx : x ∈ a) {t : Wk} (ht : Star l (gatherL l 0 []) (firstW n l a) t) : Snd l a n t ∧ Kp x t := by
  have hx0 := (h.asm x hx).1
  induction ht with
  | refl => exact ⟨first_snd h, kp_first h hx⟩
  | step _ hc hq ih =>
    refine ⟨pop_snd h ih.1 hq, ?_⟩
    rename_i t y q _
    have hv1 : WkV n ⟨t.forced, q, t.clash⟩ := ⟨ih.1.v.len, by
      have := ih.1.v.sz
      rw [hq] at this
      simp only [List.length_cons] at this
      simp only
      omega⟩
    rw [popW_eq]
    refine (foldl_inv (fun s => WkV n s ∧ Kp x s) lookW _ _ ⟨hv1, ih.2⟩ fun s c hc hs => ?_).2
    obtain ⟨i, hi, rfl⟩ := List.mem_map.1 hc
    have hcl := h.cl _ (at_mem hi).1
    exact ⟨lookW_V hcl hs.1, kp_look hs.1 hcl hx0 hs.2⟩

theorem fo_lit {n : Int} {l : List (List Int)} {a : List Int} (h : Okl n l a) {x : Int} (hf : Fo l a x) : litOk n x := by
  cases hf with
  | mem hx => exact h.asm x hx
  | unit hc hx _ => exact h.cl _ hc x hx

theorem close_fo {n : Int} {l : List (List Int)} {a : List Int} {s : Wk} (h : Okl n l a) (hr : CloseRel n l a s) (hc : s.clash = false) {x : Int} (hf : Fo l a x) : s.forced.getD (va x) 0 = x := by
  have hj : ∀ c ∈ l, Fine s.forced c := by
    intro c hcl
    rcases close_J h hr with hj | hj
    · rw [hc] at hj; cases hj
    · rcases hj c hcl with h1 | ⟨y, _, hq⟩ | h1
      · exact h1
      · rcases hr.2 with e | e
        · rw [e] at hq; simp at hq
        · rw [hc] at e; cases e
      · simp at h1
  induction hf with
  | mem hx =>
    rcases (kp_star h hx hr.1).2 with e | e
    · rw [hc] at e; cases e
    · exact e
  | unit hcl hx _ ih =>
    rename_i c x hrest
    have hneg : ∀ y ∈ c, y ≠ x → s.forced.getD (va y) 0 = -y := fun y hy hne => by rw [← va_neg]; exact ih y hy hne
    rcases hj c hcl with ⟨y, hy, he⟩ | ⟨y, hy, z, hz, hne, h1, h2⟩
    · by_cases e : y = x
      · rw [← e]; exact he
      · have := hneg y hy e
        have := (h.cl c hcl y hy).1
        omega
    · by_cases e : y = x
      · exact absurd (hneg z hz (fun e2 => hne (e.trans e2.symm))) h2
      · exact absurd (hneg y hy e) h1

theorem close_cf {n : Int} {l : List (List Int)} {a : List Int} {s : Wk} (h : Okl n l a) (hr : CloseRel n l a s) : s.clash = true ↔ Cf l a := by
  constructor
  · exact (close_snd h hr).cl
  · intro hcf
    cases hc : s.clash with
    | true => rfl
    | false =>
      exfalso
      rcases hcf with ⟨x, h1, h2⟩ | ⟨c, hcl, hall⟩
      · have e1 := close_fo h hr hc h1
        have e2 := close_fo h hr hc h2
        rw [va_neg, e1] at e2
        have := (fo_lit h h1).1
        omega
      · have hneg : ∀ y ∈ c, s.forced.getD (va y) 0 = -y := fun y hy => by rw [← va_neg]; exact close_fo h hr hc (hall y hy)
        rcases close_J h hr with hj | hj
        · rw [hc] at hj; cases hj
        · rcases hj c hcl with h1 | ⟨y, _, hq⟩ | h1
          · rcases h1 with ⟨y, hy, he⟩ | ⟨y, hy, z, hz, hne, h1, h2⟩
            · have := hneg y hy
              have := (h.cl c hcl y hy).1
              omega
            · exact h1 (hneg y hy)
          · rcases hr.2 with e | e
            · rw [e] at hq; simp at hq
            · rw [hc] at e; cases e
          · simp at h1
theorem close_mem {n : Int} {l : List (List Int)} {a : List Int} {s : Wk} (h : Okl n l a) (hr : CloseRel n l a s) (hc : s.clash = false) (x : Int) : x ∈ s.forced.filter (· ≠ 0) ↔ Fo l a x := by
  have hs := close_snd h hr
  rw [List.mem_filter]
  constructor
  · rintro ⟨hm, hx⟩
    obtain ⟨i, hi, rfl⟩ := List.mem_iff_getElem.1 hm
    have hg : s.forced.getD i 0 = s.forced[i] := by simp [hi]
    have := (hs.at_ i hi (by rw [hg]; simpa using hx)).2.1
    rwa [hg] at this
  · intro hf
    have e := close_fo h hr hc hf
    have hlt : va x < s.forced.length := by rw [hs.v.len]; exact va_lt (fo_lit h hf)
    refine ⟨?_, by simpa using (fo_lit h hf).1⟩
    have hg : s.forced.getD (va x) 0 = s.forced[va x] := by simp [hlt]
    rw [hg] at e
    rw [← e]
    exact List.getElem_mem hlt

theorem va_lt_ltI {x y : Int} (h : va x < va y) : ltI x y := by unfold va at h; unfold ltI; omega
theorem snd_pw {n : Int} {l : List (List Int)} {a : List Int} {s : Wk} (hs : Snd l a n s) : (s.forced.filter (· ≠ 0)).Pairwise ltI := by
  have h1 : s.forced.Pairwise (fun x y => x ≠ 0 → y ≠ 0 → ltI x y) := by
    rw [List.pairwise_iff_getElem]
    intro i j hi hj hij hx hy
    have gi : s.forced.getD i 0 = s.forced[i] := by simp [hi]
    have gj : s.forced.getD j 0 = s.forced[j] := by simp [hj]
    have e1 := (hs.at_ i hi (by rw [gi]; exact hx)).1
    have e2 := (hs.at_ j hj (by rw [gj]; exact hy)).1
    rw [gi] at e1
    rw [gj] at e2
    exact va_lt_ltI (by omega)
  have h2 := h1.filter (fun x => decide (x ≠ 0))
  refine List.Pairwise.imp_of_mem ?_ h2
  intro x y hx hy h
  exact h (by simpa using (List.mem_filter.1 hx).2) (by simpa using (List.mem_filter.1 hy).2)
/-- What Close tells, in the document's words. -/
theorem close_is {n : Int} {l : List (List Int)} {a : List Int} {s : Wk} (h : Okl n l a) (hr : CloseRel n l a s) :
    (s.clash = true ∧ Cf l a) ∨ (s.clash = false ∧ ¬ Cf l a ∧ (s.forced.filter (· ≠ 0)).Pairwise ltI ∧ ∀ x, x ∈ s.forced.filter (· ≠ 0) ↔ Fo l a x) := by
  cases hc : s.clash with
  | true => exact .inl ⟨rfl, (close_cf h hr).1 hc⟩
  | false =>
    refine .inr ⟨rfl, fun hcf => ?_, snd_pw (close_snd h hr), close_mem h hr hc⟩
    have := (close_cf h hr).2 hcf
    rw [hc] at this
    cases this
end Go.Proofs.Ytdnpkeahgpbkoaa
namespace Go.Proofs.Ytdnpkeahgpbkoaa
open Go Ab
set_option maxRecDepth 100000
set_option linter.unusedVariables false
set_option linter.unusedSimpArgs false

/-- What is told where nothing clashes. -/
def Clo (l : List (List Int)) (a xs : List Int) : Prop := ¬ Cf l a ∧ xs.Pairwise ltI ∧ ∀ x, x ∈ xs ↔ Fo l a x
def closeR (l : List (List Int)) (a : List Int) (r : AV) (_ : List (Option AObj)) : Prop :=
  (r = .tp [.d (.v (.slice none 0 0)), vB true] ∧ Cf l a) ∨ ∃ xs, r = .tp [.d (eIs xs), vB false] ∧ Clo l a xs
theorem close_c {n : Int} {l : List (List Int)} {a : List Int} (h : Okl n l a) (hn : n ≤ 100000) (hb : lits l ≤ 1000000) : ACall Try.prog 12 [vI .i64 n, .d (eIss l), .d (eIs a)] [] (closeR l a) := by
  refine (Close_call n l a ⟨h.n0, hn⟩ h.cl h.asm hb delOk).mono ?_
  rintro r o ⟨s, h1, h2, rfl⟩
  rcases close_is h h1 with ⟨e, hc⟩ | ⟨e, hc⟩
  · exact .inl ⟨by simp [closeEnd, e], hc⟩
  · exact .inr ⟨_, by simp [closeEnd, e], hc⟩
theorem closeR_refs {l : List (List Int)} {a : List Int} : ∀ r o, closeR l a r o → refsB 0 r = true := by
  rintro r o (⟨rfl, _⟩ | ⟨xs, rfl, _⟩) <;> rfl
theorem okl_neg {n : Int} {l : List (List Int)} {c : List Int} (h : Okl n l c) : Okl n l (c.map fun x => -x) :=
  ⟨h.n0, h.cl, fun x hx => by obtain ⟨y, hy, rfl⟩ := List.mem_map.1 hx; exact litOk_neg (h.asm y hy)⟩
def refR (l : List (List Int)) (c : List Int) (r : AV) (_ : List (Option AObj)) : Prop := ∃ b, r = vB b ∧ (b = true ↔ Cf l (c.map fun x => -x))
theorem refutes_c {n : Int} {l : List (List Int)} {c : List Int} (h : Okl n l c) (hn : n ≤ 100000) (hb : lits l ≤ 1000000) (hc : c.length ≤ 1000000) : ACall Try.prog 15 [vI .i64 n, .d (eIss l), .d (eIs c)] [] (refR l c) := by
  refine (Refutes_call n l c ⟨h.n0, hn⟩ h.cl h.asm hb hc).mono ?_
  rintro r o ⟨s, h1, h2, rfl⟩
  exact ⟨_, rfl, close_cf (okl_neg h) h1⟩
theorem lits_le (m : Nat) : ∀ l : List (List Int), (∀ c ∈ l, c.length ≤ m) → lits l ≤ l.length * m
  | [], _ => by simp [lits]
  | c :: r, h => by
    have ih := lits_le m r fun d hd => h d (List.mem_cons_of_mem _ hd)
    have h1 := h c List.mem_cons_self
    simp only [lits, List.map_cons, List.sum_cons, List.length_cons] at ih ⊢
    rw [Nat.add_mul]
    omega
theorem may_ok {n : Int} {l : List (List Int)} {c : List Int} (h : mayP n l c) : Okl n l c ∧ n ≤ 100000 ∧ lits l ≤ 1600 ∧ c.length ≤ 40 := by
  obtain ⟨h0, h1, h2, h3, h4, h5⟩ := h
  refine ⟨⟨h0, fun d hd => (h3 d hd).2, h5⟩, by omega, ?_, h4⟩
  have := lits_le 40 l fun d hd => (h3 d hd).1
  have : l.length * 40 ≤ 40 * 40 := Nat.mul_le_mul_right _ h2
  omega

/-- Where nothing clashes a clause has a literal that is forced, or two that aren't forced the other way round. -/
theorem clo_fine {l : List (List Int)} {a xs : List Int} (h : Clo l a xs) {c : List Int} (hc : c ∈ l) (h1 : ∀ y ∈ c, y ∉ xs) (f : Int) (h2 : ∀ y ∈ c, -y ∉ xs → y = f) : False := by
  by_cases hf : f ∈ c
  · refine h1 f hf ((h.2.2 f).2 (.unit hc hf fun y hy hne => ?_))
    exact (h.2.2 _).1 (Decidable.not_not.1 fun hh => hne (h2 y hy hh))
  · refine h.1 (.inr ⟨c, hc, fun y hy => (h.2.2 _).1 (Decidable.not_not.1 fun hh => hf ?_)⟩)
    rw [← h2 y hy hh]
    exact hy

/-- What counting comes to: how many are open, the one seen last, is one forced. -/
def Cnt (xs : List Int) (d : List Int) (op : Nat) (fi : Int) (is : Bool) : Prop :=
  is = d.any (fun y => xs.contains y) ∧ op ≤ d.length ∧ (2 ≤ op ∨ (op = 1 ∧ ∀ y ∈ d, -y ∉ xs → y = fi) ∨ (op = 0 ∧ fi = 0 ∧ ∀ y ∈ d, -y ∈ xs))

theorem cnt_step {xs d : List Int} {op : Nat} {fi : Int} {is : Bool} (h : Cnt xs d op fi is) (y : Int) (hy : y ≠ 0) :
    (-y ∉ xs ∧ y ≠ fi → Cnt xs (d ++ [y]) (op + 1) y (is || xs.contains y)) ∧ (¬ (-y ∉ xs ∧ y ≠ fi) → Cnt xs (d ++ [y]) op fi (is || xs.contains y)) := by
  obtain ⟨h1, h2, h3⟩ := h
  have ha : (is || xs.contains y) = (d ++ [y]).any (fun y => xs.contains y) := by rw [h1]; simp
  constructor
  · rintro ⟨e1, e2⟩
    refine ⟨ha, by simp; omega, ?_⟩
    rcases h3 with h3 | ⟨h3, h4⟩ | ⟨h3, h4, h5⟩
    · exact .inl (by omega)
    · exact .inl (by omega)
    · refine .inr (.inl ⟨by omega, fun z hz hn => ?_⟩)
      rcases List.mem_append.1 hz with hz | hz
      · exact absurd (h5 z hz) hn
      · exact List.mem_singleton.1 hz
  · intro e
    refine ⟨ha, by simp; omega, ?_⟩
    rcases h3 with h3 | ⟨h3, h4⟩ | ⟨h3, h4, h5⟩
    · exact .inl h3
    · refine .inr (.inl ⟨h3, fun z hz hn => ?_⟩)
      rcases List.mem_append.1 hz with hz | hz
      · exact h4 z hz hn
      · rw [List.mem_singleton.1 hz] at hn ⊢
        exact Decidable.not_not.1 fun hh => e ⟨hn, hh⟩
    · refine .inr (.inr ⟨h3, h4, fun z hz => ?_⟩)
      rcases List.mem_append.1 hz with hz | hz
      · exact h5 z hz
      · rw [List.mem_singleton.1 hz]
        exact Decidable.not_not.1 fun hh => e ⟨hh, by rw [h4]; exact hy⟩
theorem cnt_end {l : List (List Int)} {a xs : List Int} (h : Clo l a xs) {c : List Int} (hc : c ∈ l) {op : Nat} {fi : Int} {is : Bool} (hn : Cnt xs c op fi is) : is = true ∨ 2 ≤ op := by
  obtain ⟨h1, _, h3⟩ := hn
  cases is with
  | true => exact .inl rfl
  | false =>
    right
    have hno : ∀ y ∈ c, y ∉ xs := by
      intro y hy hm
      have : c.any (fun y => xs.contains y) = true := List.any_eq_true.2 ⟨y, hy, by simpa using hm⟩
      rw [← h1] at this
      cases this
    rcases h3 with h3 | ⟨h3, h4⟩ | ⟨h3, h4, h5⟩
    · exact h3
    · exact (clo_fine h hc hno fi h4).elim
    · exact (clo_fine h hc hno 0 fun y hy hn => absurd (h5 y hy) hn).elim
end Go.Proofs.Ytdnpkeahgpbkoaa
namespace Go.Proofs.Ytdnpkeahgpbkoaa
open Go Ab
set_option maxRecDepth 100000
set_option linter.unusedVariables false
set_option linter.unusedSimpArgs false

/-! ### What 'left' tells of a clause -/
theorem leftW_spec (xs : List Int) : ∀ (c : List Int) (only : Int), (∀ y ∈ c, y ≠ 0) → (only ≠ 0 → only ∉ xs ∧ -only ∉ xs) →
    (leftW xs only c = (0, 0) ∧ only = 0 ∧ (∀ y ∈ c, y ∉ xs ∧ -y ∈ xs)) ∨
    (∃ x, leftW xs only c = (x, 1) ∧ x ≠ 0 ∧ x ∉ xs ∧ -x ∉ xs ∧ (x = only ∨ x ∈ c) ∧ (only ≠ 0 → x = only) ∧ ∀ y ∈ c, y ≠ x → -y ∈ xs) ∨
    (leftW xs only c = (0, 2) ∧ ((∃ y ∈ c, y ∈ xs) ∨ ∃ y z, (y = only ∧ only ≠ 0 ∨ y ∈ c) ∧ z ∈ c ∧ y ≠ z ∧ -y ∉ xs ∧ -z ∉ xs))
  | [], only, _, ho => by
    by_cases h : only = 0
    · exact .inl ⟨by simp [leftW, h], h, by simp⟩
    · exact .inr (.inl ⟨only, by simp [leftW, h], h, (ho h).1, (ho h).2, .inl rfl, fun _ => rfl, by simp⟩)
  | y :: r, only, h0, ho => by
    have h0r : ∀ z ∈ r, z ≠ 0 := fun z hz => h0 z (List.mem_cons_of_mem _ hz)
    have hy0 := h0 y List.mem_cons_self
    by_cases h1 : y ∈ xs
    · exact .inr (.inr ⟨by simp [leftW, h1], .inl ⟨y, List.mem_cons_self, h1⟩⟩)
    by_cases h2 : -y ∈ xs ∨ y = only
    · have e : leftW xs only (y :: r) = leftW xs only r := by rw [leftW, if_neg h1, if_pos h2]
      rw [e]
      rcases leftW_spec xs r only h0r ho with ⟨a1, a2, a3⟩ | ⟨x, a1, a2, a3, a4, a5, a6, a7⟩ | ⟨a1, a2⟩
      · refine .inl ⟨a1, a2, fun z hz => ?_⟩
        rcases List.mem_cons.1 hz with rfl | hz
        · exact ⟨h1, h2.resolve_right (fun e => hy0 (e.trans a2))⟩
        · exact a3 z hz
      · refine .inr (.inl ⟨x, a1, a2, a3, a4, a5.imp id (List.mem_cons_of_mem _), a6, fun z hz hne => ?_⟩)
        rcases List.mem_cons.1 hz with rfl | hz
        · refine h2.resolve_right fun e => ?_
          by_cases h : only = 0
          · exact hy0 (e.trans h)
          · exact hne (e.trans (a6 h).symm)
        · exact a7 z hz hne
      · refine .inr (.inr ⟨a1, ?_⟩)
        rcases a2 with ⟨z, hz, hx⟩ | ⟨z, w, hz, hw, hne⟩
        · exact .inl ⟨z, List.mem_cons_of_mem _ hz, hx⟩
        · exact .inr ⟨z, w, hz.imp id (List.mem_cons_of_mem _), List.mem_cons_of_mem _ hw, hne⟩
    · have h3 : -y ∉ xs := fun h => h2 (.inl h)
      have h4 : y ≠ only := fun h => h2 (.inr h)
      by_cases h5 : only ≠ 0
      · refine .inr (.inr ⟨by rw [leftW, if_neg h1, if_neg h2, if_pos h5], .inr ⟨only, y, .inl ⟨rfl, h5⟩, List.mem_cons_self, fun e => h4 e.symm, (ho h5).2, h3⟩⟩)
      · have h5 : only = 0 := Decidable.not_not.1 h5
        have e : leftW xs only (y :: r) = leftW xs y r := by rw [leftW, if_neg h1, if_neg h2, if_neg (by simp [h5])]
        rw [e]
        rcases leftW_spec xs r y h0r (fun _ => ⟨h1, h3⟩) with ⟨a1, a2, a3⟩ | ⟨x, a1, a2, a3, a4, a5, a6, a7⟩ | ⟨a1, a2⟩
        · exact absurd a2 hy0
        · have hx : x = y := a6 hy0
          refine .inr (.inl ⟨x, a1, a2, a3, a4, .inr (by rw [hx]; exact List.mem_cons_self), fun h => absurd h5 h, fun z hz hne => ?_⟩)
          rcases List.mem_cons.1 hz with rfl | hz
          · exact absurd hx.symm hne
          · exact a7 z hz hne
        · refine .inr (.inr ⟨a1, ?_⟩)
          rcases a2 with ⟨z, hz, hx⟩ | ⟨z, w, hz, hw, hne⟩
          · exact .inl ⟨z, List.mem_cons_of_mem _ hz, hx⟩
          · refine .inr ⟨z, w, .inr ?_, List.mem_cons_of_mem _ hw, hne⟩
            rcases hz with ⟨rfl, _⟩ | hz
            · exact List.mem_cons_self
            · exact List.mem_cons_of_mem _ hz

theorem left_cases (xs c : List Int) (h0 : ∀ y ∈ c, y ≠ 0) :
    (leftW xs 0 c = (0, 0) ∧ ∀ y ∈ c, -y ∈ xs) ∨
    (∃ x, leftW xs 0 c = (x, 1) ∧ x ≠ 0 ∧ x ∉ xs ∧ -x ∉ xs ∧ x ∈ c ∧ ∀ y ∈ c, y ≠ x → -y ∈ xs) ∨
    (leftW xs 0 c = (0, 2) ∧ ((∃ y ∈ c, y ∈ xs) ∨ ∃ y z, y ∈ c ∧ z ∈ c ∧ y ≠ z ∧ -y ∉ xs ∧ -z ∉ xs)) := by
  rcases leftW_spec xs c 0 h0 (fun h => absurd rfl h) with ⟨a1, a2, a3⟩ | ⟨x, a1, a2, a3, a4, a5, a6, a7⟩ | ⟨a1, a2⟩
  · exact .inl ⟨a1, fun y hy => (a3 y hy).2⟩
  · exact .inr (.inl ⟨x, a1, a2, a3, a4, a5.resolve_left a2, a7⟩)
  · refine .inr (.inr ⟨a1, a2.imp id ?_⟩)
    rintro ⟨y, z, hy, hz, h⟩
    exact ⟨y, z, hy.resolve_left (fun e => e.2 rfl), hz, h⟩

/-! ### The document's Close, turn by turn -/
/-- What stands: all that is assumed, all of it forced, no variable both ways. -/
structure Rf (l : List (List Int)) (a xs : List Int) : Prop where
  asm : ∀ x ∈ a, x ∈ xs
  fo : ∀ x ∈ xs, Fo l a x
  con : ∀ x ∈ xs, -x ∉ xs
theorem rf_done {n : Int} {l : List (List Int)} {a xs : List Int} (hok : Okl n l a) (h : Rf l a xs) (hl : ∀ c ∈ l, leftW xs 0 c = (0, 2)) : ¬ Cf l a ∧ ∀ x, x ∈ xs ↔ Fo l a x := by
  have key : ∀ x, Fo l a x → x ∈ xs := by
    intro x hf
    induction hf with
    | mem hx => exact h.asm _ hx
    | unit hc hx _ ih =>
      rename_i c x hr
      rcases left_cases xs c (fun y hy => (hok.cl c hc y hy).1) with ⟨e, _⟩ | ⟨_, e, _⟩ | ⟨_, e⟩
      · rw [hl c hc] at e; simp at e
      · rw [hl c hc] at e; simp at e
      · rcases e with ⟨y, hy, hm⟩ | ⟨y, z, hy, hz, hne, h1, h2⟩
        · by_cases e : y = x
          · rw [← e]; exact hm
          · exact absurd (ih y hy e) (h.con y hm)
        · by_cases e : y = x
          · exact absurd (ih z hz fun e2 => hne (e.trans e2.symm)) h2
          · exact absurd (ih y hy e) h1
  refine ⟨?_, fun x => ⟨h.fo x, key x⟩⟩
  rintro (⟨x, h1, h2⟩ | ⟨c, hc, hall⟩)
  · exact h.con x (key x h1) (key _ h2)
  · rcases left_cases xs c (fun y hy => (hok.cl c hc y hy).1) with ⟨e, _⟩ | ⟨_, e, _⟩ | ⟨_, e⟩
    · rw [hl c hc] at e; simp at e
    · rw [hl c hc] at e; simp at e
    · rcases e with ⟨y, hy, hm⟩ | ⟨y, z, hy, hz, hne, h1, h2⟩
      · exact h.con y hm (key _ (hall y hy))
      · exact h1 (key _ (hall y hy))
theorem rf_clash {l : List (List Int)} {a xs c : List Int} (h : ∀ x ∈ xs, Fo l a x) (hc : c ∈ l) (hall : ∀ y ∈ c, -y ∈ xs) : Cf l a := .inr ⟨c, hc, fun y hy => h _ (hall y hy)⟩
theorem rf_more {l : List (List Int)} {a xs c : List Int} {x : Int} (h : Rf l a xs) (hx0 : x ≠ 0) (hc : c ∈ l) (hx : x ∈ c) (h1 : x ∉ xs) (h2 : -x ∉ xs) (hall : ∀ y ∈ c, y ≠ x → -y ∈ xs) : Rf l a (sortU (xs ++ [x])) := by
  have hm : ∀ y, y ∈ sortU (xs ++ [x]) ↔ y ∈ xs ∨ y = x := fun y => by rw [sortU_mem]; simp
  refine ⟨fun y hy => (hm y).2 (.inl (h.asm y hy)), fun y hy => ?_, fun y hy hn => ?_⟩
  · rcases (hm y).1 hy with hy | rfl
    · exact h.fo y hy
    · exact .unit hc hx fun z hz hne => h.fo _ (hall z hz hne)
  · rcases (hm y).1 hy with hy | rfl
    · rcases (hm _).1 hn with hn | hn
      · exact h.con y hy hn
      · exact h2 (by rw [← hn, Int.neg_neg]; exact hy)
    · rcases (hm _).1 hn with hn | hn
      · exact h2 hn
      · omega

/-! ### How many there may be -/
theorem incr_len : ∀ (l : List Nat) (m n : Nat), l.Pairwise (· < ·) → (∀ x ∈ l, m ≤ x ∧ x ≤ n) → l.length ≤ n + 1 - m
  | [], _, _, _, _ => Nat.zero_le _
  | x :: r, m, n, hp, hb => by
    rw [List.pairwise_cons] at hp
    have hx := hb x List.mem_cons_self
    have := incr_len r (x + 1) n hp.2 fun y hy => ⟨hp.1 y hy, (hb y (List.mem_cons_of_mem _ hy)).2⟩
    simp only [List.length_cons]
    omega
theorem pw_len {n : Int} {xs : List Int} (hp : xs.Pairwise ltI) (hl : ∀ x ∈ xs, litOk n x) (hcon : ∀ x ∈ xs, -x ∉ xs) : xs.length ≤ n.toNat + 1 := by
  have h1 : xs.Pairwise (fun x y => va x < va y) := by
    refine List.Pairwise.imp_of_mem ?_ hp
    intro x y hx hy h
    have hne : y ≠ -x := fun e => hcon x hx (e ▸ hy)
    unfold ltI at h
    unfold va
    omega
  have h2 := incr_len (xs.map va) 0 n.toNat (by rw [List.pairwise_map]; exact h1) (by
    intro v hv
    obtain ⟨x, hx, rfl⟩ := List.mem_map.1 hv
    have := hl x hx
    unfold litOk at this
    unfold va
    omega)
  rw [List.length_map] at h2
  omega
theorem sort_len {xs : List Int} {x : Int} (hp : xs.Pairwise ltI) (hx : x ∉ xs) : xs.length < (sortU (xs ++ [x])).length := by
  have hnd : (x :: xs).Nodup := by
    rw [List.nodup_cons]
    exact ⟨hx, hp.imp fun h e => by subst e; exact ltI_irr _ h⟩
  have hsub : ∀ (a b : List Int), a.Nodup → (∀ y ∈ a, y ∈ b) → a.length ≤ b.length := by
    intro a
    induction a with
    | nil => intro b _ _; exact Nat.zero_le _
    | cons y r ih =>
      intro b hn hm
      rw [List.nodup_cons] at hn
      have hy := hm y List.mem_cons_self
      have := ih (b.erase y) hn.2 fun z hz => (List.mem_erase_of_ne (by rintro rfl; exact hn.1 hz)).2 (hm z (List.mem_cons_of_mem _ hz))
      rw [List.length_erase_of_mem hy] at this
      have := List.length_pos_of_mem hy
      simp only [List.length_cons]
      omega
  have := hsub (x :: xs) (sortU (xs ++ [x])) hnd fun y hy => by
    rw [sortU_mem]
    rcases List.mem_cons.1 hy with rfl | hy
    · simp
    · simp [hy]
  simp only [List.length_cons] at this
  omega
end Go.Proofs.Ytdnpkeahgpbkoaa
namespace Go.Proofs.Ytdnpkeahgpbkoaa
open Go Ab
set_option maxRecDepth 100000
set_option linter.unusedVariables false
set_option linter.unusedSimpArgs false

/-! ### The document's Sort: a literal is let in at its place -/
def insK (xs : List Int) (x : Int) (k : Nat) : List Int := xs.take k ++ xs.getD k x :: xs.drop k
theorem insK_len (xs : List Int) (x : Int) : insK xs x xs.length = xs ++ [x] := by simp [insK]
theorem insK_size (xs : List Int) (x : Int) (k : Nat) (hk : k ≤ xs.length) : (insK xs x k).length = xs.length + 1 := by simp [insK]; omega
theorem insK_get (xs : List Int) (x : Int) (k : Nat) (hk : k < xs.length) : (insK xs x (k + 1)).getD k 0 = xs[k] := by
  have : k < (xs.take (k + 1)).length := by simp; omega
  rw [insK, List.getD_eq_getElem?_getD, List.getElem?_append_left this]
  simp [List.getElem?_take, hk]
theorem insK_set (xs : List Int) (x : Int) (k : Nat) (hk : k < xs.length) : (insK xs x (k + 1)).set (k + 1) xs[k] = insK xs x k := by
  have h1 : (xs.take (k + 1)).length = k + 1 := by simp; omega
  have h2 : xs.take (k + 1) = xs.take k ++ [xs[k]] := by rw [List.take_add_one]; simp [hk]
  rw [insK, List.set_append_right _ _ (by omega), h1, Nat.sub_self, List.set_cons_zero, insK, h2, List.append_assoc, List.drop_eq_getElem_cons hk]
  simp [hk]
theorem insK_fin (xs : List Int) (x : Int) (k : Nat) (hk : k ≤ xs.length) : (insK xs x k).set k x = xs.take k ++ x :: xs.drop k := by
  have h1 : (xs.take k).length = k := by simp; omega
  rw [insK, List.set_append_right _ _ (by omega), h1, Nat.sub_self, List.set_cons_zero]
theorem ins_pw {xs : List Int} {x : Int} {k : Nat} (hp : xs.Pairwise ltI) (hk : k ≤ xs.length) (h1 : ∀ y ∈ xs.drop k, ltI x y) (h2 : ∀ y ∈ xs.take k, ltI y x) : (xs.take k ++ x :: xs.drop k).Pairwise ltI := by
  rw [List.pairwise_append, List.pairwise_cons]
  refine ⟨hp.sublist (List.take_sublist _ _), ⟨h1, hp.sublist (List.drop_sublist _ _)⟩, fun a ha b hb => ?_⟩
  rcases List.mem_cons.1 hb with rfl | hb
  · exact h2 a ha
  · exact ltI_trans (h2 a ha) (h1 b hb)
theorem ins_mem (xs : List Int) (x : Int) (k : Nat) (y : Int) : y ∈ xs.take k ++ x :: xs.drop k ↔ y ∈ xs ∨ y = x := by
  have : y ∈ xs ↔ y ∈ xs.take k ∨ y ∈ xs.drop k := by
    conv => lhs; rw [← List.take_append_drop k xs, List.mem_append]
  rw [List.mem_append, List.mem_cons, this]
  constructor
  · rintro (h | h | h)
    · exact .inl (.inl h)
    · exact .inr h
    · exact .inl (.inr h)
  · rintro ((h | h) | h)
    · exact .inl h
    · exact .inr (.inr h)
    · exact .inr (.inl h)

theorem RSort_call (c : List Int) (hc : ∀ y ∈ c, -1000000 ≤ y ∧ y ≤ 1000000) (hl : c.length ≤ 1000000) : ACall Try.prog 18 [.d (eIs c)] [] (fun r o => r = .d (eIs (sortU c))) := by
  refine acall_enter Try.func18 rfl rfl (Nat.le_of_ble_eq_true rfl) fun C hC hCl => ?_
  refine sat_stop tabOk Try.func18 rfl trivial ?_
  refine sat_own (e := 3) (s := 1) (t := 3) (.inl rfl) (fun i => eI (([] : List Int).getD i 0)) ?_
  refine sat_while (α := Nat × List Int) (fun s => [(0, .d (eIs c)), (3, .gs 0), (4, vI .i64 s.1)]) (fun s => [some (gIs s.2)]) (fun s => s.1 ≤ c.length ∧ s.2.Pairwise ltI ∧ s.2.length ≤ s.1 ∧ ∀ y, y ∈ s.2 ↔ y ∈ c.take s.1) (fun s => c.length - s.1) (0, []) ⟨Nat.zero_le _, .nil, Nat.zero_le _, by simp⟩ ?_ ?_
  · exact fun h => sat_le h hC hCl ⟨⟨_, rfl, .refl _⟩, ⟨_, rfl, .refl _⟩, ⟨_, rfl, .refl _⟩, trivial⟩ ⟨.refl _, trivial⟩ rfl rfl (Nat.zero_le _)
  rintro ⟨i, xs⟩ ⟨hi, hp, hxl, hm⟩ ih
  simp only at hi hp hm hxl ⊢
  refine sat_branch tabOk Try.func18 rfl trivial (fun hb => ?_) (fun hb => ?_) <;> simp only [decide_eq_true_eq, decide_eq_false_iff_not, List.length_map] at hb
  · have hlt : i < c.length := by omega
    obtain ⟨b1, b2⟩ := hc _ (List.getElem_mem hlt)
    have hget : c.getD i 0 = c[i] := by simp [hlt]
    have htk : c.take (i + 1) = c.take i ++ [c[i]] := by rw [List.take_add_one]; simp [hlt]
    generalize hx : c[i] = x at *
    have e1 : IntKind.i64.wrap (0 - x) = -x := by rw [wrap_id (by omega) (by omega), Int.zero_sub]
    refine sat_callL tabOk Try.func18 rfl ?_ (In_call xs x) ⟨.inr ⟨0, 3, 1, _, _, _, rfl, rfl, rfl, map_rd eI 0 xs⟩, .inl (.of (by show vI .i64 (c.getD i 0) = _; rw [hget])), trivial⟩ rfl ⟨_, rfl⟩ (by rintro r o rfl; rfl) ?_
    · simp only [Int.toNat_natCast, List.length_map]; exact ⟨⟨by omega, by omega⟩, trivial⟩
    rintro r o rfl
    refine sat_branch tabOk Try.func18 rfl trivial (fun h1 => ?_) (fun h1 => ?_)
    · have h1 : x ∈ xs := by simpa using h1
      refine sat_stop tabOk Try.func18 rfl trivial ?_
      refine sat_le (ih (i + 1, xs) ⟨by simp; omega, hp, by simp; omega, fun y => ?_⟩ (by simp; omega)) hC hCl ⟨⟨_, rfl, .refl _⟩, ⟨_, rfl, .refl _⟩, ⟨_, rfl, .of (by rw [wrap_id (by omega) (by omega)]; rfl)⟩, trivial⟩ ⟨.refl _, trivial⟩ rfl rfl (Nat.zero_le _)
      simp only
      rw [htk, List.mem_append, List.mem_singleton, hm]
      constructor
      · exact .inl
      · rintro (h | rfl)
        · exact h
        · exact (hm _).1 h1
    have h1 : x ∉ xs := by simpa using h1
    refine sat_stop tabOk Try.func18 rfl ?_ ?_
    · simp only [andP, List.length_map, List.length_cons, List.length_nil]
      exact ⟨by show (xs.length + (0 + 1)) * 8 ≤ _; omega, trivial⟩
    refine sat_while (α := Nat) (fun k => [(0, .d (eIs c)), (3, .gs 0), (4, vI .i64 i), (5, vI .i64 x), (7, vI .i64 k)]) (fun k => [some (gIs (insK xs x k))]) (fun k => k ≤ xs.length ∧ ∀ y ∈ xs.drop k, ltI x y) (fun k => k) xs.length ⟨Nat.le_refl _, by simp⟩ ?_ ?_
    · refine fun h => sat_le h hC hCl ⟨⟨_, rfl, .refl _⟩, ⟨_, rfl, .refl _⟩, ⟨_, rfl, .refl _⟩, ⟨_, rfl, .of ?_⟩, ⟨_, rfl, .of ?_⟩, trivial⟩ ⟨.gL ?_, trivial⟩ rfl rfl (Nat.zero_le _)
      · rw [← hget]; rfl
      · show AV.drop 0 (vI .i64 ((xs.map eI).length)) = _; rw [List.length_map]; rfl
      · rw [insK_len, List.map_append, ← hget]; rfl
    rintro k ⟨hk, hd⟩ ihk
    have hsz := insK_size xs x k hk
    have done : (∀ y ∈ xs.take k, ltI y x) → ASat Try.prog 18 Try.f18.ntmps C _ [(0, .d (eIs c)), (3, .gs 0), (4, vI .i64 ((i + 1 : Nat) : Int))] [some (gIs (xs.take k ++ x :: xs.drop k))] (fun r o => r = .d (eIs (sortU c))) := fun h2 => ih (i + 1, xs.take k ++ x :: xs.drop k) ⟨by simp; omega, ins_pw hp hk hd h2, by simp; omega, fun y => by
      simp only
      rw [ins_mem, htk, List.mem_append, List.mem_singleton, hm]⟩ (by simp; omega)
    refine sat_drawQ tabOk Try.func18 rfl rfl trivial (by kernel_rfl) ?_
    refine qs_branch tabOk rfl trivial (fun h2 => ?_) (fun h2 => ?_)
    · have h2 : 0 < k := by simpa using h2
      obtain ⟨j, rfl⟩ : ∃ j, k = j + 1 := ⟨k - 1, by omega⟩
      have hlj : j < xs.length := by omega
      have w1 : IntKind.i64.wrap (((j + 1 : Nat) : Int) - 1) = (j : Int) := by rw [wrap_id (by omega) (by omega)]; omega
      have hg := insK_get xs x j hlj
      have hyc : xs[j] ∈ c := List.mem_of_mem_take ((hm _).1 (List.getElem_mem hlj))
      obtain ⟨y1, y2⟩ := hc _ hyc
      have hyx : x ≠ xs[j] := fun e => h1 (e ▸ List.getElem_mem hlj)
      have w2 : IntKind.i64.wrap (0 - xs[j]) = -xs[j] := by rw [wrap_id (by omega) (by omega), Int.zero_sub]
      have htj : xs.take (j + 1) = xs.take j ++ [xs[j]] := by rw [List.take_add_one]; simp [hlj]
      have hdj : xs.drop j = xs[j] :: xs.drop (j + 1) := List.drop_eq_getElem_cons hlj
      have hset := insK_set xs x j hlj
      have hpj : ∀ y ∈ xs.take j, ltI y xs[j] := by
        intro y hy
        obtain ⟨q, hq, rfl⟩ := List.mem_take_iff_getElem.1 hy
        exact (List.pairwise_iff_getElem.1 hp) q j (by omega) hlj (by omega)
      have hfix : ¬ ltI x xs[j] → ∀ y ∈ xs.take (j + 1), ltI y x := by
        intro hn y hy
        have hlt2 := lt_of_le_ne hn (fun e => hyx e.symm)
        rw [htj] at hy
        rcases List.mem_append.1 hy with hy | hy
        · exact ltI_trans (hpj y hy) hlt2
        · rw [List.mem_singleton.1 hy]; exact hlt2
      generalize hyy : xs[j] = y at *
      have again : ltI x y → ASat Try.prog 18 Try.f18.ntmps C _ _ _ _ := fun hlt2 => ihk j ⟨by omega, fun z hz => by
        rw [hdj] at hz
        rcases List.mem_cons.1 hz with rfl | hz
        · exact hlt2
        · exact hd z hz⟩ (by omega)
      refine qs_branch tabOk rfl ?_ (fun h3 => ?_) (fun h3 => ?_)
      · exact (by simp only [andP, and_true, true_and, Int.toNat_natCast, List.length_map, List.length_append, List.length_cons, List.length_nil, List.length_replicate, w1, hsz]; omega)
      · simp only [w1, Int.toNat_natCast, hg, e1, w2, decide_eq_true_eq] at h3
        refine qs_done tabOk rfl trivial ?_
        refine sat_branch tabOk Try.func18 rfl trivial (fun _ => ?_) (fun h => by cases h)
        refine sat_stop tabOk Try.func18 rfl ?_ ?_
        · exact (by simp only [andP, and_true, true_and, Int.toNat_natCast, List.length_map, List.length_append, List.length_cons, List.length_nil, List.length_replicate, w1, hsz]; omega)
        refine sat_le (again (by unfold ltI; omega)) hC hCl ⟨⟨_, rfl, .refl _⟩, ⟨_, rfl, .refl _⟩, ⟨_, rfl, .refl _⟩, ⟨_, rfl, .refl _⟩, ⟨_, rfl, .of ?_⟩, trivial⟩ ⟨.gL ?_, trivial⟩ rfl rfl (Nat.zero_le _)
        · rw [w1]
        · rw [← hset, List.map_set, ← hg, w1]; rfl
      · simp only [w1, Int.toNat_natCast, hg, e1, w2, decide_eq_false_iff_not] at h3
        refine qs_branch tabOk rfl ?_ (fun h4 => ?_) (fun h4 => ?_)
        · exact (by simp only [andP, and_true, true_and, Int.toNat_natCast, List.length_map, List.length_append, List.length_cons, List.length_nil, List.length_replicate, w1, hsz]; omega)
        · simp only [w1, Int.toNat_natCast, hg, e1, w2, beq_iff_eq] at h4
          refine qs_done tabOk rfl trivial ?_
          refine sat_branch tabOk Try.func18 rfl trivial (fun h5 => ?_) (fun h5 => ?_)
          · have h5 : x < 0 := by simpa using h5
            refine sat_stop tabOk Try.func18 rfl ?_ ?_
            · exact (by simp only [andP, and_true, true_and, Int.toNat_natCast, List.length_map, List.length_append, List.length_cons, List.length_nil, List.length_replicate, w1, hsz]; omega)
            refine sat_le (again (by unfold ltI; omega)) hC hCl ⟨⟨_, rfl, .refl _⟩, ⟨_, rfl, .refl _⟩, ⟨_, rfl, .refl _⟩, ⟨_, rfl, .refl _⟩, ⟨_, rfl, .of ?_⟩, trivial⟩ ⟨.gL ?_, trivial⟩ rfl rfl (Nat.zero_le _)
            · rw [w1]
            · rw [← hset, List.map_set, ← hg, w1]; rfl
          · have h5 : ¬ x < 0 := by simpa using h5
            refine sat_stop tabOk Try.func18 rfl ?_ ?_
            · exact (by simp only [andP, and_true, true_and, Int.toNat_natCast, List.length_map, List.length_append, List.length_cons, List.length_nil, List.length_replicate, hsz]; omega)
            refine sat_le (done (hfix (by unfold ltI; omega))) hC hCl ⟨⟨_, rfl, .refl _⟩, ⟨_, rfl, .refl _⟩, ⟨_, rfl, .of (by rw [wrap_id (by omega) (by omega)]; rfl)⟩, trivial⟩ ⟨.gL ?_, trivial⟩ rfl rfl (Nat.zero_le _)
            rw [← insK_fin xs x (j + 1) hk, List.map_set]
            rfl
        · simp only [w1, Int.toNat_natCast, hg, e1, w2, beq_eq_false_iff_ne] at h4
          refine qs_done tabOk rfl trivial ?_
          refine sat_branch tabOk Try.func18 rfl trivial (fun h => by cases h) (fun _ => ?_)
          refine sat_stop tabOk Try.func18 rfl ?_ ?_
          · exact (by simp only [andP, and_true, true_and, Int.toNat_natCast, List.length_map, List.length_append, List.length_cons, List.length_nil, List.length_replicate, hsz]; omega)
          refine sat_le (done (hfix (by unfold ltI; omega))) hC hCl ⟨⟨_, rfl, .refl _⟩, ⟨_, rfl, .refl _⟩, ⟨_, rfl, .of (by rw [wrap_id (by omega) (by omega)]; rfl)⟩, trivial⟩ ⟨.gL ?_, trivial⟩ rfl rfl (Nat.zero_le _)
          rw [← insK_fin xs x (j + 1) hk, List.map_set]
          rfl
    · have h2 : k = 0 := by
        have : ¬ 0 < k := by simpa using h2
        omega
      subst h2
      refine qs_done tabOk rfl trivial ?_
      refine sat_branch tabOk Try.func18 rfl trivial (fun h => by cases h) (fun _ => ?_)
      refine sat_stop tabOk Try.func18 rfl ?_ ?_
      · exact (by simp only [andP, and_true, true_and, Int.toNat_natCast, List.length_map, List.length_append, List.length_cons, List.length_nil, List.length_replicate, hsz]; omega)
      refine sat_le (done (by simp)) hC hCl ⟨⟨_, rfl, .refl _⟩, ⟨_, rfl, .refl _⟩, ⟨_, rfl, .of (by rw [wrap_id (by omega) (by omega)]; rfl)⟩, trivial⟩ ⟨.gL ?_, trivial⟩ rfl rfl (Nat.zero_le _)
      rw [← insK_fin xs x 0 hk, List.map_set]
      rfl
  · obtain rfl : i = c.length := by omega
    rw [List.take_length] at hm
    refine sat_freeze 0 rfl ?_
    refine sat_ret tabOk Try.func18 rfl trivial ?_
    rw [sortU_eq hp hm]
    rfl
end Go.Proofs.Ytdnpkeahgpbkoaa
namespace Go.Proofs.Ytdnpkeahgpbkoaa
open Go Ab
set_option maxRecDepth 100000
set_option linter.unusedVariables false
set_option linter.unusedSimpArgs false

theorem litOk_b {n x : Int} (h : litOk n x) (hn : n ≤ 100000) : -1000000 ≤ x ∧ x ≤ 1000000 := by obtain ⟨_, h1, h2⟩ := h; omega
/-- A clause that is left one literal. -/
def One (l : List (List Int)) (xs : List Int) (x : Int) : Prop := x ≠ 0 ∧ ∃ c ∈ l, x ∈ c ∧ x ∉ xs ∧ -x ∉ xs ∧ ∀ y ∈ c, y ≠ x → -y ∈ xs

theorem RClose_call {n : Int} {l : List (List Int)} {a : List Int} (hok : Okl n l a) (hn : n ≤ 100000) (hll : l.length ≤ 1000000) (ha : a.length ≤ 1000000) : ACall Try.prog 13 [vI .i64 n, .d (eIss l), .d (eIs a)] [] (closeR l a) := by
  refine acall_enter Try.func13 rfl rfl (Nat.le_of_ble_eq_true rfl) fun C hC hCl => ?_
  have hn0 := hok.n0
  refine sat_call tabOk Try.func13 rfl trivial (RSort_call a (fun y hy => litOk_b (hok.asm y hy) hn) ha) (.refl _) rfl ⟨_, rfl⟩ (by rintro r o rfl; rfl) ?_
  rintro r o rfl
  have hm0 : ∀ x, x ∈ sortU a ↔ x ∈ a := sortU_mem a
  have hp0 := sortU_pw a
  have hfo0 : ∀ x ∈ sortU a, Fo l a x := fun x hx => .mem ((hm0 x).1 hx)
  have hlit0 : ∀ x ∈ sortU a, litOk n x := fun x hx => hok.asm x ((hm0 x).1 hx)
  have hln := sortU_len a
  generalize hs0 : sortU a = s0 at *
  refine sat_stop tabOk Try.func13 rfl trivial ?_
  refine sat_while (α := Nat) (fun i => [(0, vI .i64 n), (1, .d (eIss l)), (8, .d (eIs s0)), (9, vI .i64 i)]) (fun _ => []) (fun i => i ≤ s0.length ∧ ∀ x ∈ s0.take i, -x ∉ s0) (fun i => s0.length - i) 0 ⟨Nat.zero_le _, by simp⟩ ?_ ?_
  · exact fun h => sat_le h hC hCl ⟨⟨_, rfl, .refl _⟩, ⟨_, rfl, .refl _⟩, ⟨_, rfl, .refl _⟩, ⟨_, rfl, .refl _⟩, trivial⟩ trivial rfl rfl (Nat.zero_le _)
  rintro i ⟨hi, hd⟩ ih
  refine sat_branch tabOk Try.func13 rfl trivial (fun hb => ?_) (fun hb => ?_) <;> simp only [decide_eq_true_eq, decide_eq_false_iff_not, List.length_map] at hb
  · have hlt : i < s0.length := by omega
    have hget : s0.getD i 0 = s0[i] := by simp [hlt]
    have htk : s0.take (i + 1) = s0.take i ++ [s0[i]] := by rw [List.take_add_one]; simp [hlt]
    have hx0 := List.getElem_mem hlt
    generalize hx : s0[i] = x at *
    obtain ⟨b1, b2⟩ := litOk_b (hlit0 x hx0) hn
    have e1 : IntKind.i64.wrap (0 - x) = -x := by rw [wrap_id (by omega) (by omega), Int.zero_sub]
    refine sat_call tabOk Try.func13 rfl ?_ (In_call s0 (-x)) ⟨.refl _, .of (by show vI .i64 (IntKind.i64.wrap (0 - s0.getD i 0)) = _; rw [hget, e1]), trivial⟩ rfl ⟨_, rfl⟩ (by rintro r o rfl; rfl) ?_
    · simp only [Int.toNat_natCast, List.length_map]; exact ⟨⟨by omega, by omega⟩, trivial⟩
    rintro r o rfl
    refine sat_branch tabOk Try.func13 rfl trivial (fun h1 => ?_) (fun h1 => ?_)
    · have h1 : -x ∈ s0 := by simpa using h1
      refine sat_ret tabOk Try.func13 rfl trivial (.inl ⟨rfl, .inl ⟨x, hfo0 x hx0, hfo0 _ h1⟩⟩)
    have h1 : -x ∉ s0 := by simpa using h1
    refine sat_stop tabOk Try.func13 rfl trivial ?_
    refine sat_le (ih (i + 1) ⟨by omega, fun y hy => ?_⟩ (by omega)) hC hCl ⟨⟨_, rfl, .refl _⟩, ⟨_, rfl, .refl _⟩, ⟨_, rfl, .refl _⟩, ⟨_, rfl, .of (by rw [wrap_id (by omega) (by omega)]; rfl)⟩, trivial⟩ trivial rfl rfl (Nat.zero_le _)
    rw [htk] at hy
    rcases List.mem_append.1 hy with hy | hy
    · exact hd y hy
    · rw [List.mem_singleton.1 hy]; exact h1
  obtain rfl : i = s0.length := by omega
  rw [List.take_length] at hd
  clear ih
  have hrf0 : Rf l a s0 := ⟨fun x hx => (hm0 x).2 hx, hfo0, hd⟩
  refine sat_stop tabOk Try.func13 rfl trivial ?_
  refine sat_while (α := List Int) (fun xs => [(0, vI .i64 n), (1, .d (eIss l)), (8, .d (eIs xs))]) (fun _ => []) (fun xs => Rf l a xs ∧ xs.Pairwise ltI ∧ ∀ x ∈ xs, litOk n x) (fun xs => n.toNat + 1 - xs.length) s0 ⟨hrf0, hp0, hlit0⟩ ?_ ?_
  · exact fun h => sat_le h hC hCl ⟨⟨_, rfl, .refl _⟩, ⟨_, rfl, .refl _⟩, ⟨_, rfl, .refl _⟩, trivial⟩ trivial rfl rfl (Nat.zero_le _)
  rintro xs ⟨hrf, hp, hlit⟩ ih
  have hxl := pw_len hp hlit hrf.con
  refine sat_stop tabOk Try.func13 rfl trivial ?_
  refine sat_while (α := Nat × Int) (fun s => [(0, vI .i64 n), (1, .d (eIss l)), (8, .d (eIs xs)), (11, vI .i64 s.2), (12, vI .i64 s.1)]) (fun _ => []) (fun s => s.1 ≤ l.length ∧ (s.2 = 0 → ∀ c ∈ l.take s.1, leftW xs 0 c = (0, 2)) ∧ (s.2 ≠ 0 → One l xs s.2)) (fun s => l.length - s.1) (0, 0) ⟨Nat.zero_le _, by simp, by simp⟩ ?_ ?_
  · exact fun h => sat_le h hC hCl ⟨⟨_, rfl, .refl _⟩, ⟨_, rfl, .refl _⟩, ⟨_, rfl, .refl _⟩, ⟨_, rfl, .refl _⟩, ⟨_, rfl, .refl _⟩, trivial⟩ trivial rfl rfl (Nat.zero_le _)
  rintro ⟨i, more⟩ ⟨hi, hz, hone⟩ ihi
  simp only at hi hz hone ⊢
  refine sat_branch tabOk Try.func13 rfl trivial (fun hb => ?_) (fun hb => ?_) <;> simp only [decide_eq_true_eq, decide_eq_false_iff_not, List.length_map] at hb
  · have hlt : i < l.length := by omega
    have hget : l.getD i [] = l[i] := by simp [hlt]
    have htk : l.take (i + 1) = l.take i ++ [l[i]] := by rw [List.take_add_one]; simp [hlt]
    have hcl := List.getElem_mem hlt
    generalize hcc : l[i] = c at *
    refine sat_call tabOk Try.func13 rfl ?_ (left_call xs c (fun y hy => litOk_b (hok.cl c hcl y hy) hn)) ⟨.refl _, .of (by show AV.d (eIs (l.getD i [])) = _; rw [hget]), trivial⟩ rfl ⟨_, rfl⟩ (by rintro r o rfl; rfl) ?_
    · simp only [Int.toNat_natCast, List.length_map]; exact ⟨⟨by omega, by omega⟩, trivial⟩
    rintro r o rfl
    rcases left_cases xs c (fun y hy => (hok.cl c hcl y hy).1) with ⟨e, h2⟩ | ⟨x, e, h1, h2, h3, h4, h5⟩ | ⟨e, h2⟩
    · rw [e]
      refine sat_branch tabOk Try.func13 rfl trivial (fun _ => ?_) (fun h => by cases h)
      refine sat_ret tabOk Try.func13 rfl trivial (.inl ⟨rfl, rf_clash hrf.fo hcl h2⟩)
    · rw [e]
      refine sat_branch tabOk Try.func13 rfl trivial (fun h => by cases h) (fun _ => ?_)
      refine sat_branch tabOk Try.func13 rfl trivial (fun _ => ?_) (fun h => by cases h)
      refine sat_stop tabOk Try.func13 rfl trivial ?_
      exact sat_le (ihi (i + 1, x) ⟨by simp; omega, fun h => absurd h h1, fun _ => ⟨h1, c, hcl, h4, h2, h3, h5⟩⟩ (by simp; omega)) hC hCl ⟨⟨_, rfl, .refl _⟩, ⟨_, rfl, .refl _⟩, ⟨_, rfl, .refl _⟩, ⟨_, rfl, .refl _⟩, ⟨_, rfl, .of (by rw [wrap_id (by omega) (by omega)]; rfl)⟩, trivial⟩ trivial rfl rfl (Nat.zero_le _)
    · rw [e]
      refine sat_branch tabOk Try.func13 rfl trivial (fun h => by cases h) (fun _ => ?_)
      refine sat_branch tabOk Try.func13 rfl trivial (fun h => by cases h) (fun _ => ?_)
      refine sat_stop tabOk Try.func13 rfl trivial ?_
      refine sat_le (ihi (i + 1, more) ⟨by simp; omega, fun h d hd => ?_, hone⟩ (by simp; omega)) hC hCl ⟨⟨_, rfl, .refl _⟩, ⟨_, rfl, .refl _⟩, ⟨_, rfl, .refl _⟩, ⟨_, rfl, .refl _⟩, ⟨_, rfl, .of (by rw [wrap_id (by omega) (by omega)]; rfl)⟩, trivial⟩ trivial rfl rfl (Nat.zero_le _)
      simp only at hd
      rw [htk] at hd
      rcases List.mem_append.1 hd with hd | hd
      · exact hz h d hd
      · rw [List.mem_singleton.1 hd]; exact e
  obtain rfl : i = l.length := by omega
  rw [List.take_length] at hz
  refine sat_branch tabOk Try.func13 rfl trivial (fun hb => ?_) (fun hb => ?_)
  · have hb : more = 0 := by simpa using hb
    obtain ⟨h1, h2⟩ := rf_done hok hrf (hz hb)
    exact sat_ret tabOk Try.func13 rfl trivial (.inr ⟨xs, rfl, h1, hp, h2⟩)
  have hb : more ≠ 0 := by simpa using hb
  obtain ⟨h1, c, hcl, h2, h3, h4, h5⟩ := hone hb
  refine sat_steps 9 tabOk Try.func13 rfl ?_ ?_
  · exact (by simp only [andP, and_true, true_and, Int.toNat_natCast, List.length_map, List.length_append, List.length_cons, List.length_nil, List.length_replicate]; omega)
  refine sat_freeze 0 rfl ?_
  refine sat_call tabOk Try.func13 rfl trivial (RSort_call (xs ++ [more]) (fun y hy => ?_) (by simp; omega)) ⟨.eL (by rw [List.map_append]; rfl), trivial⟩ rfl ⟨_, rfl⟩ (by rintro r o rfl; rfl) ?_
  · rcases List.mem_append.1 hy with hy | hy
    · exact litOk_b (hlit y hy) hn
    · rw [List.mem_singleton.1 hy]; exact litOk_b (hok.cl c hcl _ h2) hn
  rintro r o rfl
  refine sat_stop tabOk Try.func13 rfl trivial ?_
  have hlit2 : ∀ x ∈ sortU (xs ++ [more]), litOk n x := by
    intro x hx
    rw [sortU_mem] at hx
    rcases List.mem_append.1 hx with hx | hx
    · exact hlit x hx
    · rw [List.mem_singleton.1 hx]; exact hok.cl c hcl _ h2
  have hrf2 := rf_more hrf h1 hcl h2 h3 h4 h5
  have hl2 := pw_len (sortU_pw _) hlit2 hrf2.con
  have hl3 := sort_len hp h3
  exact sat_le (ih (sortU (xs ++ [more])) ⟨hrf2, sortU_pw _, hlit2⟩ (by omega)) hC hCl ⟨⟨_, rfl, .refl _⟩, ⟨_, rfl, .refl _⟩, ⟨_, rfl, .refl _⟩, trivial⟩ trivial rfl rfl (Nat.zero_le _)

theorem RRefutes_call {n : Int} {l : List (List Int)} {c : List Int} (hok : Okl n l c) (hn : n ≤ 100000) (hll : l.length ≤ 1000000) (hc : c.length ≤ 1000000) : ACall Try.prog 16 [vI .i64 n, .d (eIss l), .d (eIs c)] [] (refR l c) := by
  refine acall_enter Try.func16 rfl rfl (Nat.le_of_ble_eq_true rfl) fun C hC hCl => ?_
  refine sat_stop tabOk Try.func16 rfl trivial ?_
  refine sat_own (e := 3) (s := 1) (t := 7) (.inl rfl) (fun i => eI (([] : List Int).getD i 0)) ?_
  refine sat_while (α := Nat) (fun i => [(0, vI .i64 n), (1, .d (eIss l)), (2, .d (eIs c)), (7, .gs 0), (8, vI .i64 i)]) (fun i => [some (gIs ((c.take i).map fun x => -x))]) (fun i => i ≤ c.length) (fun i => c.length - i) 0 (Nat.zero_le _) ?_ ?_
  · exact fun h => sat_le h hC hCl ⟨⟨_, rfl, .refl _⟩, ⟨_, rfl, .refl _⟩, ⟨_, rfl, .refl _⟩, ⟨_, rfl, .refl _⟩, ⟨_, rfl, .refl _⟩, trivial⟩ ⟨.gL (by simp), trivial⟩ rfl rfl (Nat.zero_le _)
  rintro i hi ih
  refine sat_branch tabOk Try.func16 rfl trivial (fun hb => ?_) (fun hb => ?_) <;> simp only [decide_eq_true_eq, decide_eq_false_iff_not, List.length_map] at hb
  · have hlt : i < c.length := by omega
    have hget : c.getD i 0 = c[i] := by simp [hlt]
    have htk : c.take (i + 1) = c.take i ++ [c[i]] := by rw [List.take_add_one]; simp [hlt]
    have hxb := litOk_b (hok.asm _ (List.getElem_mem hlt)) hn
    generalize hx : c[i] = x at *
    have e1 : IntKind.i64.wrap (0 - x) = -x := by rw [wrap_id (by omega) (by omega), Int.zero_sub]
    refine sat_stop tabOk Try.func16 rfl ?_ ?_
    · exact (by simp only [andP, and_true, true_and, Int.toNat_natCast, List.length_map, List.length_append, List.length_cons, List.length_nil, List.length_replicate, List.length_take]; omega)
    refine sat_le (ih (i + 1) (by omega) (by omega)) hC hCl ⟨⟨_, rfl, .refl _⟩, ⟨_, rfl, .refl _⟩, ⟨_, rfl, .refl _⟩, ⟨_, rfl, .refl _⟩, ⟨_, rfl, .of (by rw [wrap_id (by omega) (by omega)]; rfl)⟩, trivial⟩ ⟨.gL ?_, trivial⟩ rfl rfl (Nat.zero_le _)
    rw [htk, List.map_append, List.map_append, List.map_cons, ← e1, ← hget]
    rfl
  obtain rfl : i = c.length := by omega
  refine sat_freeze 0 rfl ?_
  rw [List.take_length]
  refine sat_call tabOk Try.func16 rfl trivial (RClose_call (okl_neg hok) hn hll (by simpa using hc)) (.refl _) rfl ⟨_, rfl⟩ closeR_refs ?_
  rintro r o (⟨rfl, h⟩ | ⟨xs, rfl, h⟩)
  · exact sat_ret tabOk Try.func16 rfl trivial ⟨true, rfl, fun _ => h, fun _ => rfl⟩
  · exact sat_ret tabOk Try.func16 rfl trivial ⟨false, rfl, fun h => (by cases h), fun h2 => absurd h2 h.1⟩
end Go.Proofs.Ytdnpkeahgpbkoaa
namespace Go.Proofs.Ytdnpkeahgpbkoaa
open Go Ab
set_option maxRecDepth 100000
set_option linter.unusedVariables false
set_option linter.unusedSimpArgs false

/-- What both tell is the same. -/
theorem closeR_same {l : List (List Int)} {a xs ys : List Int} (h : Clo l a xs) (k : Clo l a ys) : xs = ys :=
  pw_unique h.2.1 k.2.1 fun x => by rw [h.2.2, k.2.2]
theorem refR_same {l : List (List Int)} {c : List Int} {b d : Bool} (h : b = true ↔ Cf l (c.map fun x => -x)) (k : d = true ↔ Cf l (c.map fun x => -x)) : b = d := by
  cases b <;> cases d <;> simp_all
theorem refR_refs {l : List (List Int)} {c : List Int} : ∀ r o, refR l c r o → refsB 0 r = true := by rintro r o ⟨b, rfl, _⟩; rfl

theorem UnitTells_law (n : Int) (l : List (List Int)) (c : List Int) (hll : l.length ≤ maxLen) (hlc : ∀ c ∈ l, c.length ≤ maxLen) (hcm : c.length ≤ maxLen) : ACall Try.prog 3 [vI .i64 n, .d (eIss l), .d (eIs c)] [] (fun r _ => r = vB true) := by
  refine acall_enter Try.func3 rfl rfl (Nat.le_of_ble_eq_true rfl) fun C hC hCl => ?_
  refine sat_call tabOk Try.func3 rfl trivial shown_call trivial rfl ⟨_, rfl⟩ (by rintro r o rfl; rfl) ?_
  rintro r o rfl
  refine sat_call tabOk Try.func3 rfl trivial (may_call n l c hll hlc hcm) (.refl _) rfl ⟨_, rfl⟩ (by rintro r o ⟨b, rfl, _⟩; rfl) ?_
  rintro r o ⟨b, rfl, hmay⟩
  refine sat_branch tabOk Try.func3 rfl trivial (fun h => ?_) (fun h => ?_)
  · exact sat_ret tabOk Try.func3 rfl trivial rfl
  have hb : b = true := by simpa using h
  have hm := hmay hb
  obtain ⟨hok, hn1, hlt0, hc40⟩ := may_ok hm
  have hl40 : l.length ≤ 40 := hm.2.2.1
  have hcb : ∀ x ∈ c, -1000000 ≤ x ∧ x ≤ 1000000 := fun x hx => litOk_b (hok.asm x hx) hn1
  refine sat_call tabOk Try.func3 rfl trivial (close_c hok hn1 (by omega)) (.refl _) rfl ⟨_, rfl⟩ closeR_refs ?_
  rintro r o (⟨rfl, hcf⟩ | ⟨xs, rfl, hx⟩)
  all_goals refine sat_call tabOk Try.func3 rfl trivial (RClose_call hok hn1 (by omega) (by omega)) (.refl _) rfl ⟨_, rfl⟩ closeR_refs ?_
  all_goals rintro r o (⟨rfl, hcf2⟩ | ⟨ys, rfl, hy⟩)
  · refine sat_branch tabOk Try.func3 rfl trivial (fun _ => ?_) (fun h => by cases h)
    refine sat_call tabOk Try.func3 rfl trivial (Ints_call [] []) ⟨.nil, .nil, trivial⟩ rfl ⟨_, rfl⟩ (by rintro r o rfl; rfl) ?_
    rintro r o rfl
    refine sat_branch tabOk Try.func3 rfl trivial (fun _ => ?_) (fun h => by simp at h)
    refine sat_branch tabOk Try.func3 rfl trivial (fun _ => ?_) (fun h => by cases h)
    refine sat_call tabOk Try.func3 rfl trivial (refutes_c hok hn1 (by omega) (by omega)) (.refl _) rfl ⟨_, rfl⟩ refR_refs ?_
    rintro r o ⟨b1, rfl, hb1⟩
    refine sat_call tabOk Try.func3 rfl trivial (RRefutes_call hok hn1 (by omega) (by omega)) (.refl _) rfl ⟨_, rfl⟩ refR_refs ?_
    rintro r o ⟨b2, rfl, hb2⟩
    obtain rfl := refR_same hb1 hb2
    refine sat_branch tabOk Try.func3 rfl trivial (fun _ => ?_) (fun h => by simp at h)
    refine sat_call tabOk Try.func3 rfl trivial (Sort_call c hcb (by omega)) (.refl _) rfl ⟨_, rfl⟩ (by rintro r o rfl; rfl) ?_
    rintro r o rfl
    refine sat_call tabOk Try.func3 rfl trivial (RSort_call c hcb (by omega)) (.refl _) rfl ⟨_, rfl⟩ (by rintro r o rfl; rfl) ?_
    rintro r o rfl
    refine sat_call tabOk Try.func3 rfl trivial (Ints_call _ _) (.refl _) rfl ⟨_, rfl⟩ (by rintro r o rfl; rfl) ?_
    rintro r o rfl
    refine sat_ret tabOk Try.func3 rfl trivial ?_
    show vB _ = vB true
    simp
  · exact absurd hcf hy.1
  · exact absurd hcf2 hx.1
  · obtain rfl := closeR_same hx hy
    refine sat_branch tabOk Try.func3 rfl trivial (fun _ => ?_) (fun h => by cases h)
    refine sat_call tabOk Try.func3 rfl trivial (Ints_call xs xs) (.refl _) rfl ⟨_, rfl⟩ (by rintro r o rfl; rfl) ?_
    rintro r o rfl
    refine sat_branch tabOk Try.func3 rfl trivial (fun _ => ?_) (fun h => by simp at h)
    refine sat_branch tabOk Try.func3 rfl trivial (fun _ => ?_) (fun h => by cases h)
    refine sat_call tabOk Try.func3 rfl trivial (refutes_c hok hn1 (by omega) (by omega)) (.refl _) rfl ⟨_, rfl⟩ refR_refs ?_
    rintro r o ⟨b1, rfl, hb1⟩
    refine sat_call tabOk Try.func3 rfl trivial (RRefutes_call hok hn1 (by omega) (by omega)) (.refl _) rfl ⟨_, rfl⟩ refR_refs ?_
    rintro r o ⟨b2, rfl, hb2⟩
    obtain rfl := refR_same hb1 hb2
    refine sat_branch tabOk Try.func3 rfl trivial (fun _ => ?_) (fun h => by simp at h)
    refine sat_call tabOk Try.func3 rfl trivial (Sort_call c hcb (by omega)) (.refl _) rfl ⟨_, rfl⟩ (by rintro r o rfl; rfl) ?_
    rintro r o rfl
    refine sat_call tabOk Try.func3 rfl trivial (RSort_call c hcb (by omega)) (.refl _) rfl ⟨_, rfl⟩ (by rintro r o rfl; rfl) ?_
    rintro r o rfl
    refine sat_call tabOk Try.func3 rfl trivial (Ints_call _ _) (.refl _) rfl ⟨_, rfl⟩ (by rintro r o rfl; rfl) ?_
    rintro r o rfl
    refine sat_ret tabOk Try.func3 rfl trivial ?_
    show vB _ = vB true
    simp
end Go.Proofs.Ytdnpkeahgpbkoaa
