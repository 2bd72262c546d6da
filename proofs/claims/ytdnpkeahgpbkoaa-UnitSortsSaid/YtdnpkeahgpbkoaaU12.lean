/- A part of the proof. -/
import Derived.Test.YtdnpkeahgpbkoaaU11
namespace Go.Proofs.Ytdnpkeahgpbkoaa
open Go Ab Go.Lib
set_option linter.unusedVariables false
set_option linter.unusedSimpArgs false

theorem leI_iff (x y : Int) : leI x y = true ↔ ¬ ltI y x := by simp [leI]
theorem le_lt {x y z : Int} (h : ¬ ltI y x) (k : ltI y z) : ltI x z := by unfold ltI at *; omega
theorem lt_of_le_ne {x y : Int} (h : ¬ ltI y x) (k : x ≠ y) : ltI x y := by unfold ltI at *; omega

theorem sorted_m (c : List Int) : (c.mergeSort leI).Pairwise (fun x y => ¬ ltI y x) := by
  have h := List.pairwise_mergeSort (le := leI) (fun a b c h k => by rw [leI_iff] at *; exact ltI_ntrans k h) (fun a b => by
    cases h : leI a b with
    | true => rfl
    | false =>
      have : ltI b a := by
        have := mt (leI_iff a b).2 (by rw [h]; decide)
        exact Decidable.not_not.1 this
      have hn : ¬ ltI a b := fun hh => ltI_irr a (ltI_trans hh this)
      simpa using (leI_iff b a).2 hn) c
  exact h.imp fun h => (leI_iff _ _).1 h

theorem compact_inv (m : List Int) (hs : m.Pairwise (fun x y => ¬ ltI y x)) : ∀ k, k ≤ m.length →
    (compactUpTo m.toArray k).Pairwise ltI ∧ (∀ x, x ∈ compactUpTo m.toArray k ↔ x ∈ m.take k) ∧ (∀ j, k = j + 1 → ∀ x ∈ compactUpTo m.toArray k, ¬ ltI (m.getD j 0) x)
  | 0, _ => ⟨by simp [compactUpTo], by simp [compactUpTo], by simp⟩
  | k + 1, hk => by
    obtain ⟨h1, h2, h3⟩ := compact_inv m hs k (by omega)
    have hlt : k < m.length := by omega
    have hd : m.toArray[k]! = m[k] := by simp [hlt]
    have hg : m.getD k 0 = m[k] := by simp [hlt]
    have htk : m.take (k + 1) = m.take k ++ [m[k]] := by rw [List.take_add_one]; simp [hlt]
    rw [compactUpTo_succ, hd]
    have hle : ∀ x ∈ compactUpTo m.toArray k, ¬ ltI m[k] x := by
      intro x hx
      have := (h2 x).1 hx
      obtain ⟨i, hi, rfl⟩ := List.mem_take_iff_getElem.1 this
      exact (List.pairwise_iff_getElem.1 hs) i k (by omega) hlt (by omega)
    by_cases hkeep : keeps m.toArray k = true
    · rw [if_pos hkeep]
      refine ⟨?_, ?_, ?_⟩
      · rw [List.pairwise_append]
        refine ⟨h1, List.pairwise_singleton _ _, fun x hx y hy => ?_⟩
        rw [List.mem_singleton.1 hy]
        cases k with
        | zero => simp [compactUpTo] at hx
        | succ j =>
          have hlj : j < m.length := by omega
          have hgj : m.getD j 0 = m[j] := by simp [hlj]
          have a1 := h3 j rfl x hx
          rw [hgj] at a1
          have a2 := (List.pairwise_iff_getElem.1 hs) j (j + 1) hlj hlt (by omega)
          have a3 : m[j] ≠ m[j + 1] := by
            have : m.toArray[j + 1]! ≠ m.toArray[j + 1 - 1]! := by simpa [keeps] using hkeep
            rw [hd] at this
            intro e
            apply this
            rw [← e]
            simp [hlj]
          exact le_lt a1 (lt_of_le_ne a2 a3)
      · intro x
        rw [htk, List.mem_append, List.mem_append, h2]
      · intro j hj x hx
        cases hj
        rw [hg]
        rcases List.mem_append.1 hx with hx | hx
        · exact hle x hx
        · rw [List.mem_singleton.1 hx]; exact ltI_irr _
    · rw [if_neg hkeep, List.append_nil]
      cases k with
      | zero => exact absurd (by simp [keeps]) hkeep
      | succ j =>
        have hlj : j < m.length := by omega
        have he : m[j + 1] = m[j] := by
          have : m.toArray[j + 1]! = m.toArray[j + 1 - 1]! := by simpa [keeps] using hkeep
          rw [hd] at this
          rw [this]
          simp [hlj]
        refine ⟨h1, fun x => ?_, fun i hi x hx => ?_⟩
        · rw [h2, htk, List.mem_append, List.mem_singleton]
          constructor
          · exact .inl
          · rintro (h | rfl)
            · exact h
            · rw [he]
              exact List.mem_take_iff_getElem.2 ⟨j, by omega, rfl⟩
        · cases hi
          rw [hg]
          exact hle x hx

theorem sortU_pw (c : List Int) : (sortU c).Pairwise ltI := by
  have := (compact_inv (c.mergeSort leI) (sorted_m c) (c.mergeSort leI).length (Nat.le_refl _)).1
  exact this
theorem sortU_mem (c : List Int) (x : Int) : x ∈ sortU c ↔ x ∈ c := by
  have := (compact_inv (c.mergeSort leI) (sorted_m c) (c.mergeSort leI).length (Nat.le_refl _)).2.1 x
  rw [List.take_length] at this
  have h2 : x ∈ sortU c ↔ x ∈ c.mergeSort leI := this
  rw [h2, List.mem_mergeSort]
/-- There is one such list. -/
theorem pw_unique : ∀ {a b : List Int}, a.Pairwise ltI → b.Pairwise ltI → (∀ x, x ∈ a ↔ x ∈ b) → a = b
  | [], [], _, _, _ => rfl
  | [], y :: s, _, _, h => by have := (h y).2 List.mem_cons_self; simp at this
  | x :: r, [], _, _, h => by have := (h x).1 List.mem_cons_self; simp at this
  | x :: r, y :: s, ha, hb, h => by
    rw [List.pairwise_cons] at ha hb
    have hxy : x = y := by
      rcases List.mem_cons.1 ((h x).1 List.mem_cons_self) with e | e
      · exact e
      · rcases List.mem_cons.1 ((h y).2 List.mem_cons_self) with e2 | e2
        · exact e2.symm
        · exact absurd (ltI_trans (hb.1 x e) (ha.1 y e2)) (ltI_irr y)
    subst hxy
    congr 1
    refine pw_unique ha.2 hb.2 fun z => ?_
    have hz := h z
    constructor
    · intro hm
      rcases List.mem_cons.1 (hz.1 (List.mem_cons_of_mem _ hm)) with e | e
      · subst e; exact absurd (ha.1 z hm) (ltI_irr z)
      · exact e
    · intro hm
      rcases List.mem_cons.1 (hz.2 (List.mem_cons_of_mem _ hm)) with e | e
      · subst e; exact absurd (hb.1 z hm) (ltI_irr z)
      · exact e
theorem sortU_eq {c b : List Int} (hp : b.Pairwise ltI) (hm : ∀ x, x ∈ b ↔ x ∈ c) : sortU c = b :=
  pw_unique (sortU_pw c) hp fun x => by rw [sortU_mem, hm]
theorem sortU_idem (c : List Int) : sortU (sortU c) = sortU c := sortU_eq (sortU_pw c) fun _ => Iff.rfl
theorem ex4 : sortU [2, -1, 2, 1] = [-1, 1, 2] := sortU_eq (by decide) (by intro x; simp; omega)
theorem sortU_len (c : List Int) : (sortU c).length ≤ c.length := by
  have : (sortU c).length ≤ (c.mergeSort leI).length := by
    unfold sortU Lib.compact compactUpTo
    rw [List.length_map]
    refine Nat.le_trans (List.length_filter_le _ _) (by simp)
  rwa [List.length_mergeSort] at this
end Go.Proofs.Ytdnpkeahgpbkoaa
