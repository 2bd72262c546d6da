/- A part of the proof: U25. -/
import Derived.Test.YtdnpkeahgpbkoaaP7
set_option linter.unusedVariables false
set_option linter.unusedSimpArgs false
namespace Go.Proofs.Ytdnpkeahgpbkoaa
open Go Ab
set_option maxRecDepth 100000
set_option linter.unusedVariables false
set_option linter.unusedSimpArgs false

@[reducible] def eB (b : Bool) : D := .v (.bool b)
@[reducible] def eBs (m : List Bool) : D := eL 1 eB false m
/-- A literal is true in a model (variables from 1 on). -/
def litAt (m : List Bool) (x : Int) (k : Nat) : Prop := (m.getD k false = true ∧ x = (k : Int) + 1) ∨ (m.getD k false = false ∧ x = -(k : Int) - 1)
def litT (m : List Bool) (x : Int) : Prop := ∃ k, k < m.length ∧ litAt m x k
def clT (c : List Int) (m : List Bool) : Prop := ∃ x ∈ c, litT m x
def boolR (p : Prop) (r : AV) (_ : List (Option AObj)) : Prop := ∃ b, r = vB b ∧ (b = true ↔ p)
theorem boolR_refs {p : Prop} : ∀ r o, boolR p r o → refsB 0 r = true := by rintro r o ⟨b, rfl, _⟩; rfl

theorem Clause_call (c : List Int) (m : List Bool) : ACall Try.prog 20 [.d (eIs c), .d (eBs m)] [] (boolR (clT c m)) := by
  refine acall_enter Try.func20 rfl rfl (Nat.le_of_ble_eq_true rfl) fun C hC hCl => ?_
  refine sat_len (t := 0) rfl fun hlc => ?_
  refine sat_len (t := 1) rfl fun hlm => ?_
  rw [List.length_map] at hlc hlm
  refine sat_stop tabOk Try.func20 rfl trivial ?_
  refine sat_while (α := Nat) (fun i => [(0, .d (eIs c)), (1, .d (eBs m)), (5, vI .i64 i)]) (fun _ => []) (fun i => i ≤ c.length ∧ ∀ x ∈ c.take i, ¬ litT m x) (fun i => c.length - i) 0 ⟨Nat.zero_le _, by simp⟩ ?_ ?_
  · exact fun h => sat_le h hC hCl ⟨⟨_, rfl, .refl _⟩, ⟨_, rfl, .refl _⟩, ⟨_, rfl, .refl _⟩, trivial⟩ trivial rfl rfl (Nat.zero_le _)
  rintro i ⟨hi, hd⟩ ih
  refine sat_branch tabOk Try.func20 rfl trivial (fun hb => ?_) (fun hb => ?_) <;> simp only [decide_eq_true_eq, decide_eq_false_iff_not, List.length_map] at hb
  · have hlt : i < c.length := by omega
    have hget : c.getD i 0 = c[i] := by simp [hlt]
    have htk : c.take (i + 1) = c.take i ++ [c[i]] := by rw [List.take_add_one]; simp [hlt]
    have hmem := List.getElem_mem hlt
    generalize hx : c[i] = x at *
    refine sat_stop tabOk Try.func20 rfl trivial ?_
    refine sat_while (α := Nat) (fun k => [(0, .d (eIs c)), (1, .d (eBs m)), (5, vI .i64 i), (6, vI .i64 k)]) (fun _ => []) (fun k => k ≤ m.length ∧ ∀ j, j < k → ¬ litAt m x j) (fun k => m.length - k) 0 ⟨Nat.zero_le _, by omega⟩ ?_ ?_
    · exact fun h => sat_le h hC hCl ⟨⟨_, rfl, .refl _⟩, ⟨_, rfl, .refl _⟩, ⟨_, rfl, .refl _⟩, ⟨_, rfl, .refl _⟩, trivial⟩ trivial rfl rfl (Nat.zero_le _)
    rintro k ⟨hk, hdk⟩ ihk
    refine sat_branch tabOk Try.func20 rfl trivial (fun hb => ?_) (fun hb => ?_) <;> simp only [decide_eq_true_eq, decide_eq_false_iff_not, List.length_map] at hb
    · have hltk : k < m.length := by omega
      have w1 : IntKind.i64.wrap ((k : Int) + 1) = (k : Int) + 1 := wrap_id (by omega) (by omega)
      have w2 : IntKind.i64.wrap (0 - (k : Int)) = -(k : Int) := by rw [wrap_id (by omega) (by omega), Int.zero_sub]
      have w3 : IntKind.i64.wrap (-(k : Int) - 1) = -(k : Int) - 1 := wrap_id (by omega) (by omega)
      have next : ¬ litAt m x k → ASat Try.prog 20 Try.f20.ntmps C _ _ _ _ := fun h => ihk (k + 1) ⟨by omega, fun j hj => by
        by_cases e : j = k
        · rw [e]; exact h
        · exact hdk j (by omega)⟩ (by omega)
      refine sat_branch tabOk Try.func20 rfl ?_ (fun h1 => ?_) (fun h1 => ?_)
      · exact (by simp only [andP, and_true, true_and, Int.toNat_natCast, List.length_map, List.length_append, List.length_cons, List.length_nil, List.length_replicate]; omega)
      · have h1 : m.getD k false = true := by simpa using h1
        refine sat_branch tabOk Try.func20 rfl ?_ (fun h2 => ?_) (fun h2 => ?_)
        · exact (by simp only [andP, and_true, true_and, Int.toNat_natCast, List.length_map, List.length_append, List.length_cons, List.length_nil, List.length_replicate]; omega)
        · have h2 : x = (k : Int) + 1 := by rw [← hget]; simpa [w1] using h2
          refine sat_branch tabOk Try.func20 rfl trivial (fun _ => ?_) (fun h => by cases h)
          exact sat_ret tabOk Try.func20 rfl trivial ⟨true, rfl, fun _ => ⟨x, hmem, k, hltk, .inl ⟨h1, h2⟩⟩, fun _ => rfl⟩
        have h2 : x ≠ (k : Int) + 1 := by rw [← hget]; simpa [w1] using h2
        refine sat_branch tabOk Try.func20 rfl ?_ (fun h3 => ?_) (fun h3 => ?_)
        · exact (by simp only [andP, and_true, true_and, Int.toNat_natCast, List.length_map, List.length_append, List.length_cons, List.length_nil, List.length_replicate]; omega)
        · have h3 : m.getD k false = false := by simpa using h3
          rw [h1] at h3; cases h3
        refine sat_branch tabOk Try.func20 rfl trivial (fun h => by cases h) (fun _ => ?_)
        refine sat_stop tabOk Try.func20 rfl trivial ?_
        refine sat_le (next ?_) hC hCl ⟨⟨_, rfl, .refl _⟩, ⟨_, rfl, .refl _⟩, ⟨_, rfl, .refl _⟩, ⟨_, rfl, .of (by rw [wrap_id (by omega) (by omega)]; rfl)⟩, trivial⟩ trivial rfl rfl (Nat.zero_le _)
        rintro (⟨_, e⟩ | ⟨e, _⟩)
        · exact h2 e
        · rw [h1] at e; cases e
      · have h1 : m.getD k false = false := by simpa using h1
        refine sat_branch tabOk Try.func20 rfl trivial (fun h => by cases h) (fun _ => ?_)
        refine sat_branch tabOk Try.func20 rfl ?_ (fun h3 => ?_) (fun h3 => ?_)
        · exact (by simp only [andP, and_true, true_and, Int.toNat_natCast, List.length_map, List.length_append, List.length_cons, List.length_nil, List.length_replicate]; omega)
        · refine sat_branch tabOk Try.func20 rfl ?_ (fun h2 => ?_) (fun h2 => ?_)
          · exact (by simp only [andP, and_true, true_and, Int.toNat_natCast, List.length_map, List.length_append, List.length_cons, List.length_nil, List.length_replicate]; omega)
          · have h2 : x = -(k : Int) - 1 := by simp only [Int.toNat_natCast, w2, w3, beq_iff_eq] at h2; rw [← hget]; exact h2
            exact sat_ret tabOk Try.func20 rfl trivial ⟨true, rfl, fun _ => ⟨x, hmem, k, hltk, .inr ⟨h1, h2⟩⟩, fun _ => rfl⟩
          have h2 : x ≠ -(k : Int) - 1 := by simp only [Int.toNat_natCast, w2, w3, beq_eq_false_iff_ne] at h2; rw [← hget]; exact h2
          refine sat_stop tabOk Try.func20 rfl trivial ?_
          refine sat_le (next ?_) hC hCl ⟨⟨_, rfl, .refl _⟩, ⟨_, rfl, .refl _⟩, ⟨_, rfl, .refl _⟩, ⟨_, rfl, .of (by rw [wrap_id (by omega) (by omega)]; rfl)⟩, trivial⟩ trivial rfl rfl (Nat.zero_le _)
          rintro (⟨e, _⟩ | ⟨_, e⟩)
          · rw [h1] at e; cases e
          · exact h2 e
        · have h3 : m.getD k false = true := by simpa using h3
          rw [h1] at h3; cases h3
    · obtain rfl : k = m.length := by omega
      refine sat_stop tabOk Try.func20 rfl trivial ?_
      refine sat_le (ih (i + 1) ⟨by omega, fun y hy => ?_⟩ (by omega)) hC hCl ⟨⟨_, rfl, .refl _⟩, ⟨_, rfl, .refl _⟩, ⟨_, rfl, .of (by rw [wrap_id (by omega) (by omega)]; rfl)⟩, trivial⟩ trivial rfl rfl (Nat.zero_le _)
      rw [htk] at hy
      rcases List.mem_append.1 hy with hy | hy
      · exact hd y hy
      · rw [List.mem_singleton.1 hy]
        rintro ⟨k, hk, h⟩
        exact hdk k hk h
  · obtain rfl : i = c.length := by omega
    rw [List.take_length] at hd
    exact sat_ret tabOk Try.func20 rfl trivial ⟨false, rfl, fun h => (by cases h), fun ⟨x, hx, h⟩ => absurd h (hd x hx)⟩

def holdsT (l : List (List Int)) (m : List Bool) : Prop := ∀ c ∈ l, clT c m
theorem Holds_call (n : Int) (l : List (List Int)) (m : List Bool) (hll : l.length ≤ maxLen) : ACall Try.prog 19 [.d (.ag [eI n, eIss l]), .d (eBs m)] [] (boolR (holdsT l m)) := by
  have hml : maxLen = 9223372036854775807 := rfl
  refine acall_enter Try.func19 rfl rfl (Nat.le_of_ble_eq_true rfl) fun C hC hCl => ?_
  refine sat_stop tabOk Try.func19 rfl trivial ?_
  refine sat_while (α := Nat) (fun i => [(1, .d (eBs m)), (2, .ptr 0 0), (5, vI .i64 i)]) (fun _ => [some (.cells 35 [.d (eI n), .d (eIss l)])]) (fun i => i ≤ l.length ∧ ∀ c ∈ l.take i, clT c m) (fun i => l.length - i) 0 ⟨Nat.zero_le _, by simp⟩ ?_ ?_
  · exact fun h => sat_le h hC hCl ⟨⟨_, rfl, .refl _⟩, ⟨_, rfl, .refl _⟩, ⟨_, rfl, .refl _⟩, trivial⟩ ⟨.refl _, trivial⟩ rfl rfl (Nat.zero_le _)
  rintro i ⟨hi, hd⟩ ih
  refine sat_branch tabOk Try.func19 rfl trivial (fun hb => ?_) (fun hb => ?_) <;> simp only [decide_eq_true_eq, decide_eq_false_iff_not, List.length_map] at hb
  · have hlt : i < l.length := by omega
    have hget : l.getD i [] = l[i] := by simp [hlt]
    have htk : l.take (i + 1) = l.take i ++ [l[i]] := by rw [List.take_add_one]; simp [hlt]
    have hmem := List.getElem_mem hlt
    generalize hx : l[i] = c at *
    refine sat_call tabOk Try.func19 rfl ?_ (Clause_call c m) ⟨.of (by show AV.d (eIs (l.getD i [])) = _; rw [hget]), .refl _, trivial⟩ rfl ⟨_, rfl⟩ boolR_refs ?_
    · exact (by simp only [andP, and_true, true_and, Int.toNat_natCast, List.length_map, List.length_append, List.length_cons, List.length_nil, List.length_replicate]; omega)
    rintro r o ⟨b, rfl, hb2⟩
    refine sat_branch tabOk Try.func19 rfl trivial (fun h1 => ?_) (fun h1 => ?_)
    · have h1 : b = false := by simpa using h1
      refine sat_ret tabOk Try.func19 rfl trivial ⟨false, rfl, fun h => (by cases h), fun h => ?_⟩
      have := hb2.2 (h c hmem)
      rw [h1] at this
      exact this
    have h1 : b = true := by simpa using h1
    refine sat_stop tabOk Try.func19 rfl trivial ?_
    refine sat_le (ih (i + 1) ⟨by omega, fun y hy => ?_⟩ (by omega)) hC hCl ⟨⟨_, rfl, .refl _⟩, ⟨_, rfl, .refl _⟩, ⟨_, rfl, .of (by rw [wrap_id (by omega) (by omega)]; rfl)⟩, trivial⟩ ⟨.refl _, trivial⟩ rfl rfl (Nat.zero_le _)
    rw [htk] at hy
    rcases List.mem_append.1 hy with hy | hy
    · exact hd y hy
    · rw [List.mem_singleton.1 hy]; exact hb2.1 h1
  · obtain rfl : i = l.length := by omega
    rw [List.take_length] at hd
    exact sat_ret tabOk Try.func19 rfl trivial ⟨true, rfl, fun _ => hd, fun _ => rfl⟩

/-! ### SOUND -/
theorem litT_neg {m : List Bool} {x : Int} (h : litT m x) : ¬ litT m (-x) := by
  obtain ⟨k, hk, h⟩ := h
  rintro ⟨j, hj, h2⟩
  rcases h with ⟨h, e⟩ | ⟨h, e⟩ <;> rcases h2 with ⟨h2, e2⟩ | ⟨h2, e2⟩
  · omega
  · obtain rfl : k = j := by omega
    rw [h] at h2; cases h2
  · obtain rfl : k = j := by omega
    rw [h] at h2; cases h2
  · omega
theorem litT_or {n : Int} {m : List Bool} {x : Int} (hx : litOk n x) (hm : (m.length : Int) = n) : litT m x ∨ litT m (-x) := by
  obtain ⟨h0, h1, h2⟩ := hx
  have hk : va x - 1 < m.length := by unfold va; omega
  have hv : ((va x - 1 : Nat) : Int) = max x (-x) - 1 := by unfold va; omega
  cases hb : m.getD (va x - 1) false with
  | true =>
    rcases Int.lt_or_lt_of_ne h0 with h | h
    · exact .inr ⟨_, hk, .inl ⟨hb, by omega⟩⟩
    · exact .inl ⟨_, hk, .inl ⟨hb, by omega⟩⟩
  | false =>
    rcases Int.lt_or_lt_of_ne h0 with h | h
    · exact .inl ⟨_, hk, .inr ⟨hb, by omega⟩⟩
    · exact .inr ⟨_, hk, .inr ⟨hb, by omega⟩⟩
theorem fo_sound {l : List (List Int)} {a : List Int} {m : List Bool} (hl : holdsT l m) (ha : ∀ x ∈ a, litT m x) {x : Int} (h : Fo l a x) : litT m x := by
  induction h with
  | mem hx => exact ha _ hx
  | unit hc hx _ ih =>
    rename_i c x hr
    obtain ⟨z, hz, ht⟩ := hl c hc
    by_cases e : z = x
    · rw [← e]; exact ht
    · exact absurd (ih z hz e) (litT_neg ht)
theorem cf_sound {l : List (List Int)} {a : List Int} {m : List Bool} (hl : holdsT l m) (ha : ∀ x ∈ a, litT m x) : ¬ Cf l a := by
  rintro (⟨x, h1, h2⟩ | ⟨c, hc, hall⟩)
  · exact litT_neg (fo_sound hl ha h1) (fo_sound hl ha h2)
  · obtain ⟨z, hz, ht⟩ := hl c hc
    exact litT_neg ht (fo_sound hl ha (hall z hz))
theorem ref_sound {n : Int} {l : List (List Int)} {c : List Int} {m : List Bool} (hl : holdsT l m) (hc : ∀ x ∈ c, litOk n x) (hm : (m.length : Int) = n) (h : Cf l (c.map fun x => -x)) : clT c m := by
  apply Classical.byContradiction
  intro hn
  refine cf_sound hl (fun x hx => ?_) h
  obtain ⟨y, hy, rfl⟩ := List.mem_map.1 hx
  exact (litT_or (hc y hy) hm).resolve_left fun ht => hn ⟨y, hy, ht⟩
end Go.Proofs.Ytdnpkeahgpbkoaa
