/- A part of the proof. -/
import Derived.Test.YtdnpkeahgpbkoaaU10
import Derived.Test.YtdnpkeahgpbkoaaAb39
namespace Go.Proofs.Ytdnpkeahgpbkoaa
open Go Ab
set_option maxRecDepth 100000
set_option linter.unusedVariables false
set_option linter.unusedSimpArgs false

/-! ### The steps, one by one -/
def stepC (l : List (List Int)) (G : List (Int × List Int)) (s : Wk) : Wk := match s.queue with | [] => s | x :: q => if s.clash = true then s else popW l G s x q
def iterC (l : List (List Int)) (G : List (Int × List Int)) : Nat → Wk → Wk
  | 0, s => s
  | k + 1, s => stepC l G (iterC l G k s)
theorem star_iter {l : List (List Int)} {G : List (Int × List Int)} {s t : Wk} (h : Star l G s t) : ∃ k, iterC l G k s = t := by
  induction h with
  | refl => exact ⟨0, rfl⟩
  | step h hc hq ih =>
    obtain ⟨k, hk⟩ := ih
    refine ⟨k + 1, ?_⟩
    simp [iterC, hk, stepC, hq, hc]
theorem stepC_done {l : List (List Int)} {G : List (Int × List Int)} {s : Wk} (h : s.queue = [] ∨ s.clash = true) : stepC l G s = s := by
  unfold stepC
  split
  · rfl
  · rename_i hq
    rcases h with h | h
    · rw [hq] at h; cases h
    · rw [if_pos h]
theorem iterC_done {l : List (List Int)} {G : List (Int × List Int)} {s : Wk} {k : Nat} (h : (iterC l G k s).queue = [] ∨ (iterC l G k s).clash = true) : ∀ m, iterC l G (k + m) s = iterC l G k s
  | 0 => rfl
  | m + 1 => by
    have ih := iterC_done h m
    show stepC l G (iterC l G (k + m) s) = _
    rw [ih, stepC_done h]
theorem closeRel_iter {n : Int} {l : List (List Int)} {a : List Int} {s : Wk} (h : CloseRel n l a s) (k : Nat) (hd : (iterC l (gatherL l 0 []) k (firstW n l a)).queue = [] ∨ (iterC l (gatherL l 0 []) k (firstW n l a)).clash = true) : s = iterC l (gatherL l 0 []) k (firstW n l a) := by
  obtain ⟨j, hj⟩ := star_iter h.1
  have hdj := h.2
  rw [← hj] at hdj
  have e1 := iterC_done hdj k
  have e2 := iterC_done hd j
  rw [Nat.add_comm] at e2
  rw [← hj, ← e1, e2]

def exL : List (List Int) := [[1, 2], [-1, 3]]
theorem ex1 {s : Wk} (h : CloseRel 3 exL [-2] s) : s.clash = false ∧ s.forced = [0, 1, -2, 3] := by
  rw [closeRel_iter h 5 (by left; decide)]
  decide
theorem ex2 {s : Wk} (h : CloseRel 3 exL [-2, -3] s) : s.clash = true := by
  rw [closeRel_iter h 5 (by right; decide)]
  decide
theorem ex3 {s : Wk} (h : CloseRel 3 exL [-2] s) : s.clash = false := (ex1 h).1
end Go.Proofs.Ytdnpkeahgpbkoaa
