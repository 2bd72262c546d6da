/- A part of the proof. -/
import Derived.Test.YtdnpkeahgpbkoaaU13
namespace Go.Proofs.Ytdnpkeahgpbkoaa
open Go Ab
set_option maxRecDepth 100000
set_option linter.unusedVariables false
set_option linter.unusedSimpArgs false

theorem in_true (l : List Int) (x : Int) (h : x ∈ l) : ACall Try.prog 21 [.d (eIs l), vI .i64 x] [] (fun r o => r = vB true) :=
  (In_call l x).mono fun r o hr => by rw [hr]; simp [h]

theorem UnitSorts_law (n : Int) (c : List Int) (hcm : c.length ≤ maxLen) : ACall Try.prog 9 [vI .i64 n, .d (eIs c)] [] (fun r _ => r = vB true) := by
  refine acall_enter Try.func9 rfl rfl (Nat.le_of_ble_eq_true rfl) fun C hC hCl => ?_
  refine sat_call tabOk Try.func9 rfl trivial shown_call trivial rfl ⟨_, rfl⟩ (by rintro r o rfl; rfl) ?_
  rintro r o rfl
  refine sat_call tabOk Try.func9 rfl trivial (may_call n [] c (Nat.zero_le _) (by simp) hcm) ⟨.refl _, .nil, .refl _, trivial⟩ rfl ⟨_, rfl⟩ (by rintro r o ⟨b, rfl, _⟩; rfl) ?_
  rintro r o ⟨b, rfl, hmay⟩
  refine sat_branch tabOk Try.func9 rfl trivial (fun h => ?_) (fun h => ?_)
  · exact sat_ret tabOk Try.func9 rfl trivial rfl
  have hb : b = true := by simpa using h
  obtain ⟨hn0, hn1, _, _, hc1, hc2⟩ := hmay hb
  have hcb : ∀ x ∈ c, -1000000 ≤ x ∧ x ≤ 1000000 := fun x hx => by obtain ⟨_, h1, h2⟩ := hc2 x hx; omega
  refine sat_call tabOk Try.func9 rfl trivial (Sort_call c hcb (by omega)) (.refl _) rfl ⟨_, rfl⟩ (by rintro r o rfl; rfl) ?_
  rintro r o rfl
  have hmem := sortU_mem c
  have hpw := sortU_pw c
  have hsl := sortU_len c
  have hsi := sortU_idem c
  generalize sortU c = s at hmem hpw hsl hsi
  refine sat_stop tabOk Try.func9 rfl trivial ?_
  refine sat_while (α := Nat) (fun i => [(1, .d (eIs c)), (5, vB true), (6, .d (eIs s)), (7, vI .i64 i)]) (fun _ => []) (fun i => i ≤ c.length) (fun i => c.length - i) 0 (Nat.zero_le _) ?_ ?_
  · exact fun h => sat_le h hC hCl ⟨⟨_, rfl, .refl _⟩, ⟨_, rfl, .refl _⟩, ⟨_, rfl, .refl _⟩, ⟨_, rfl, .refl _⟩, trivial⟩ trivial rfl rfl (Nat.zero_le _)
  rintro i hi ih
  refine sat_branch tabOk Try.func9 rfl trivial (fun hbr => ?_) (fun hbr => ?_) <;> simp only [decide_eq_true_eq, decide_eq_false_iff_not, List.length_map] at hbr
  · have hlt : i < c.length := by omega
    have hget : c.getD i 0 = c[i] := by simp [hlt]
    refine sat_call tabOk Try.func9 rfl ?_ (in_true s c[i] ((hmem _).2 (List.getElem_mem hlt))) ⟨.refl _, .of (by show vI .i64 (c.getD i 0) = _; rw [hget]), trivial⟩ rfl ⟨_, rfl⟩ (by rintro r o rfl; rfl) ?_
    · simp only [Int.toNat_natCast, List.length_map]; exact ⟨⟨by omega, by omega⟩, trivial⟩
    rintro r o rfl
    refine sat_branch tabOk Try.func9 rfl trivial (fun h => by cases h) (fun _ => ?_)
    refine sat_stop tabOk Try.func9 rfl trivial ?_
    exact sat_le (ih (i + 1) (by omega) (by omega)) hC hCl ⟨⟨_, rfl, .refl _⟩, ⟨_, rfl, .refl _⟩, ⟨_, rfl, .refl _⟩, ⟨_, rfl, .of (by rw [wrap_id (by omega) (by omega)]; rfl)⟩, trivial⟩ trivial rfl rfl (Nat.zero_le _)
  refine sat_stop tabOk Try.func9 rfl trivial ?_
  refine sat_while (α := Nat) (fun i => [(1, .d (eIs c)), (5, vB true), (6, .d (eIs s)), (8, vI .i64 i)]) (fun _ => []) (fun i => i ≤ s.length) (fun i => s.length - i) 0 (Nat.zero_le _) ?_ ?_
  · exact fun h => sat_le h hC hCl ⟨⟨_, rfl, .refl _⟩, ⟨_, rfl, .refl _⟩, ⟨_, rfl, .refl _⟩, ⟨_, rfl, .refl _⟩, trivial⟩ trivial rfl rfl (Nat.zero_le _)
  clear ih
  rintro i hi ih
  refine sat_branch tabOk Try.func9 rfl trivial (fun hbr => ?_) (fun hbr => ?_) <;> simp only [decide_eq_true_eq, decide_eq_false_iff_not, List.length_map] at hbr
  · have hlt : i < s.length := by omega
    have hget : s.getD i 0 = s[i] := by simp [hlt]
    have hsc : ∀ x ∈ s, litOk n x := fun x hx => hc2 x ((hmem x).1 hx)
    obtain ⟨y0, y1, y2⟩ := hsc _ (List.getElem_mem hlt)
    have next : ASat Try.prog 9 Try.f9.ntmps C _ _ _ _ := ih (i + 1) (by omega) (by omega)
    have fin : ∀ {env2 : Env}, True := fun {_} => trivial
    refine sat_drawQ tabOk Try.func9 rfl rfl trivial (by kernel_rfl) ?_
    refine qs_call (.bool true) tabOk rfl ?_ rfl (qcall_of (in_true c s[i] ((hmem _).1 (List.getElem_mem hlt))) (fun args w => callFunc_run Try.func21 rfl rfl args w) (by rintro r o rfl; rfl) ⟨.inl (.refl _), .inl (.of (by show vI .i64 (s.getD i 0) = _; rw [hget])), trivial⟩ rfl) ⟨_, rfl⟩ ?_
    · simp only [Int.toNat_natCast, List.length_map]; exact ⟨⟨by omega, by omega⟩, trivial⟩
    refine qs_branch tabOk rfl trivial (fun h => by cases h) (fun _ => ?_)
    refine qs_branch tabOk rfl trivial (fun h1 => ?_) (fun h1 => ?_)
    · have h1 : 0 < i := by simpa using h1
      have hlp : i - 1 < s.length := by omega
      have hgp : s.getD (i - 1) 0 = s[i - 1] := by simp [hlp]
      obtain ⟨z0, z1, z2⟩ := hsc _ (List.getElem_mem hlp)
      have hlt2 : ltI s[i - 1] s[i] := (List.pairwise_iff_getElem.1 hpw) (i - 1) i hlp hlt (by omega)
      have w0 : IntKind.i64.wrap ((i : Int) - 1) = ((i - 1 : Nat) : Int) := by rw [wrap_id (by omega) (by omega)]; omega
      have w1 : IntKind.i64.wrap (0 - s[i]) = -s[i] := by rw [wrap_id (by omega) (by omega), Int.zero_sub]
      have w2 : IntKind.i64.wrap (0 - s[i - 1]) = -s[i - 1] := by rw [wrap_id (by omega) (by omega), Int.zero_sub]
      refine qs_branch tabOk rfl ?_ (fun h => ?_) (fun h => ?_)
      · simp only [w0, Int.toNat_natCast, List.length_map]
        exact ⟨⟨by omega, by omega⟩, ⟨by omega, by omega⟩, ⟨by omega, by omega⟩, ⟨by omega, by omega⟩, trivial⟩
      · simp only [w0, Int.toNat_natCast, hget, hgp, w1, w2, decide_eq_true_eq] at h
        unfold ltI at hlt2
        omega
      refine qs_branch tabOk rfl trivial (fun _ => ?_) (fun h => ?_)
      · refine qs_done tabOk rfl ?_ ?_
        · simp only [w0, Int.toNat_natCast, List.length_map]
          exact ⟨⟨by omega, by omega⟩, ⟨by omega, by omega⟩, trivial⟩
        refine sat_branch tabOk Try.func9 rfl trivial (fun h => ?_) (fun _ => ?_)
        · simp only [w0, Int.toNat_natCast, hget, hgp, beq_iff_eq] at h
          rw [h] at hlt2
          exact absurd hlt2 (ltI_irr _)
        refine sat_stop tabOk Try.func9 rfl trivial ?_
        exact sat_le next hC hCl ⟨⟨_, rfl, .refl _⟩, ⟨_, rfl, .refl _⟩, ⟨_, rfl, .refl _⟩, ⟨_, rfl, .of (by rw [wrap_id (by omega) (by omega)]; rfl)⟩, trivial⟩ trivial rfl rfl (Nat.zero_le _)
      · have : ¬ 0 < i := by simpa using h
        omega
    · have h1 : ¬ 0 < i := by simpa using h1
      refine qs_branch tabOk rfl trivial (fun h => by cases h) (fun _ => ?_)
      refine qs_branch tabOk rfl trivial (fun h => ?_) (fun _ => ?_)
      · have : 0 < i := by simpa using h
        omega
      refine qs_done tabOk rfl trivial ?_
      refine sat_branch tabOk Try.func9 rfl trivial (fun h => by cases h) (fun _ => ?_)
      refine sat_stop tabOk Try.func9 rfl trivial ?_
      exact sat_le next hC hCl ⟨⟨_, rfl, .refl _⟩, ⟨_, rfl, .refl _⟩, ⟨_, rfl, .refl _⟩, ⟨_, rfl, .of (by rw [wrap_id (by omega) (by omega)]; rfl)⟩, trivial⟩ trivial rfl rfl (Nat.zero_le _)
  · refine sat_branch tabOk Try.func9 rfl trivial (fun _ => ?_) (fun h => by cases h)
    refine sat_branch tabOk Try.func9 rfl trivial (fun _ => ?_) (fun h => by simp at h; omega)
    have hsb : ∀ x ∈ s, -1000000 ≤ x ∧ x ≤ 1000000 := fun x hx => hcb x ((hmem x).1 hx)
    refine sat_call tabOk Try.func9 rfl trivial (Sort_call s hsb (by omega)) (.refl _) rfl ⟨_, rfl⟩ (by rintro r o rfl; rfl) ?_
    rintro r o rfl
    rw [hsi]
    refine sat_call tabOk Try.func9 rfl trivial (Ints_call s s) (.refl _) rfl ⟨_, rfl⟩ (by rintro r o rfl; rfl) ?_
    rintro r o rfl
    refine sat_ret tabOk Try.func9 rfl trivial ?_
    show vB _ = vB true
    simp
end Go.Proofs.Ytdnpkeahgpbkoaa
