/- Rows that are gathered under numbers in a map: its slices as objects behind it, and as data in the end. -/
import Derived.Test.YtdnpkeahgpbkoaaAb32
set_option linter.unusedSimpArgs false
set_option linter.unusedVariables false
namespace Ab
open Go

def gpos (k : Int) : List (Int × List Int) → Option Nat
  | [] => none
  | (k', _) :: r => if k' = k then some 0 else (gpos k r).map (· + 1)

theorem esOf_keys : ∀ (b : Nat) (G : List (Int × List Int)), keysB (.int .i64) (esOf b G) = true
  | _, [] => rfl
  | b, (k, l) :: r => by simp [esOf, keysB, keyB, esOf_keys (b + 1) r]

theorem esOf_find (k : Int) : ∀ (b : Nat) (G : List (Int × List Int)), MFind (.int .i64 k) (esOf b G) ((gpos k G).map (fun p => .gs (p + b)))
  | _, [] => .nil
  | b, (k', l) :: r => by
    simp only [esOf, gpos]
    split
    · rename_i e
      subst e
      simpa using .hit
    · rename_i e
      refine .miss (fun h => e (by cases h; rfl)) ?_
      have := esOf_find k (b + 1) r
      cases h : gpos k r with
      | none => rw [h] at this; exact this
      | some p =>
        rw [h] at this
        simp only [Option.map_some] at this ⊢
        rwa [show p + (b + 1) = p + 1 + b by omega] at this

theorem gpos_none {k i : Int} : ∀ {G : List (Int × List Int)}, gpos k G = none → gadd k i G = G ++ [(k, [i])]
  | [], _ => rfl
  | (k', l) :: r, h => by
    simp only [gpos] at h
    split at h
    · cases h
    · rename_i e
      simp only [gadd, if_neg e, List.cons_append]
      rw [gpos_none (by cases hg : gpos k r with | none => rfl | some p => rw [hg] at h; cases h)]
theorem gpos_get {k : Int} : ∀ {G : List (Int × List Int)} {p : Nat}, gpos k G = some p → nth G p = some (k, gget k G)
  | [], p, h => by cases h
  | (k', l) :: r, p, h => by
    simp only [gpos] at h
    split at h
    · rename_i e
      cases h
      subst e
      simp [nth, gget]
    · rename_i e
      cases hg : gpos k r with
      | none => rw [hg] at h; cases h
      | some q =>
        rw [hg] at h
        cases h
        simp only [nth, gget, if_neg e]
        exact gpos_get hg
theorem gadd_set {k i : Int} : ∀ {G : List (Int × List Int)} {p : Nat}, gpos k G = some p → gadd k i G = setNth G p (k, gget k G ++ [i])
  | [], p, h => by cases h
  | (k', l) :: r, p, h => by
    simp only [gpos] at h
    split at h
    · rename_i e
      cases h
      subst e
      simp [gadd, gget, setNth]
    · rename_i e
      cases hg : gpos k r with
      | none => rw [hg] at h; cases h
      | some q =>
        rw [hg] at h
        cases h
        simp only [gadd, gget, if_neg e, setNth]
        rw [gadd_set hg]

theorem esOf_app (k : Int) (l : List Int) : ∀ (b : Nat) (G : List (Int × List Int)), esOf b (G ++ [(k, l)]) = esOf b G ++ [(.int .i64 k, .gs (G.length + b))]
  | b, [] => by simp [esOf]
  | b, (k', l') :: r => by simp [esOf, esOf_app k l (b + 1) r, show r.length + (b + 1) = r.length + 1 + b by omega]
theorem esOf_put_new {k : Int} : ∀ (b : Nat) (G : List (Int × List Int)) (x : AV), gpos k G = none → MPut (.int .i64 k) x (esOf b G) (esOf b G ++ [(.int .i64 k, x)])
  | _, [], x, _ => .nil
  | b, (k', l) :: r, x, h => by
    simp only [gpos] at h
    split at h
    · cases h
    · rename_i e
      exact .miss (fun h => e (by cases h; rfl)) (esOf_put_new (b + 1) r x (by cases hg : gpos k r with | none => rfl | some p => rw [hg] at h; cases h))
theorem esOf_drop : ∀ (b j : Nat) (G : List (Int × List Int)), j < b → dropEs j (esOf b G) = esOf b G
  | _, _, [], _ => rfl
  | b, j, (k, l) :: r, h => by
    have : Nat.beq b j = false := by rw [← Bool.not_eq_true, Nat.beq_eq]; omega
    simp only [esOf, dropEs, AV.drop, this, esOf_drop (b + 1) j r (by omega)]
theorem esOf_put {k i : Int} : ∀ (b : Nat) {G : List (Int × List Int)} {p : Nat}, gpos k G = some p → MPut (.int .i64 k) (.gs (p + b)) (dropEs (p + b) (esOf b G)) (esOf b (gadd k i G))
  | _, [], p, h => by cases h
  | b, (k', l) :: r, p, h => by
    simp only [gpos] at h
    split at h
    · rename_i e
      cases h
      subst e
      have : Nat.beq b (0 + b) = true := by rw [Nat.zero_add]; exact Nat.beq_refl _
      simp only [esOf, dropEs, AV.drop, this, gadd, if_true]
      rw [esOf_drop (b + 1) (0 + b) r (by omega), Nat.zero_add]
      exact .hit
    · rename_i e
      cases hg : gpos k r with
      | none => rw [hg] at h; cases h
      | some q =>
        rw [hg] at h
        cases h
        have : Nat.beq b (q + 1 + b) = false := by rw [← Bool.not_eq_true, Nat.beq_eq]; omega
        simp only [esOf, dropEs, AV.drop, this, gadd, if_neg e]
        have ih := esOf_put (i := i) (b + 1) hg
        rw [show q + (b + 1) = q + 1 + b by omega] at ih
        exact .miss (fun h => e (by cases h; rfl)) ih

theorem tailOf_nth (t : TypeId) : ∀ (G : List (Int × List Int)) (p : Nat), nth (tailOf t G) p = (nth G p).map (fun g => some (gL t 1 eI 0 g.2))
  | [], p => by simp [tailOf, nth]
  | (k, l) :: r, 0 => rfl
  | (k, l) :: r, p + 1 => by simp only [tailOf, nth]; exact tailOf_nth t r p
theorem tailOf_drop (t : TypeId) (j : Nat) : ∀ G : List (Int × List Int), dropO j (tailOf t G) = tailOf t G
  | [] => rfl
  | (k, l) :: r => by simp [tailOf, dropO, AObj.drop, gL, tailOf_drop t j r]
theorem tailOf_len (t : TypeId) : ∀ G : List (Int × List Int), (tailOf t G).length = G.length
  | [] => rfl
  | (k, l) :: r => by simp [tailOf, tailOf_len t r]
theorem tailOf_app (t : TypeId) : ∀ G H : List (Int × List Int), tailOf t (G ++ H) = tailOf t G ++ tailOf t H
  | [], H => rfl
  | (k, l) :: r, H => by simp [tailOf, tailOf_app t r H]
theorem tailOf_set (t : TypeId) (k : Int) (l : List Int) : ∀ (G : List (Int × List Int)) (p : Nat), setNth (tailOf t G) p (some (gL t 1 eI 0 l)) = tailOf t (setNth G p (k, l))
  | [], p => by simp [tailOf, setNth]
  | (k', l') :: r, 0 => rfl
  | (k', l') :: r, p + 1 => by simp only [tailOf, setNth, tailOf_set t k l r p]

theorem subO_refl : ∀ (l : List (Option AObj)), subO l l
  | [] => trivial
  | none :: r => subO_refl r
  | some o :: r => ⟨.refl o, subO_refl r⟩
theorem subO_cons {x y : AObj} {r s : List (Option AObj)} (h : OLe y x) (t : subO r s) : subO (some x :: r) (some y :: s) := ⟨h, t⟩
theorem subO_set {o o' : AObj} (h : OLe o' o) : ∀ (l : List (Option AObj)) (p : Nat), subO (setNth l p (some o)) (setNth l p (some o'))
  | [], p => trivial
  | none :: r, 0 => ⟨h, subO_refl r⟩
  | some _ :: r, 0 => ⟨h, subO_refl r⟩
  | none :: r, p + 1 => subO_set h r p
  | some x :: r, p + 1 => ⟨.refl x, subO_set h r p⟩


theorem esOf_refs : ∀ (b m : Nat) (G : List (Int × List Int)), b + G.length ≤ m → refsM m (esOf b G) = true
  | _, _, [], _ => rfl
  | b, m, (k, l) :: r, h => by
    have : Nat.blt b m = true := by rw [Nat.blt_eq]; simp at h; omega
    simp only [esOf, refsM, refsB, this]
    exact esOf_refs (b + 1) m r (by simp at h; omega)
theorem tailOf_refs (t : TypeId) (m : Nat) : ∀ G : List (Int × List Int), refsO m (tailOf t G) = true
  | [] => rfl
  | (k, l) :: r => by simp only [tailOf, refsO, gL, refsO1]; exact tailOf_refs t m r

/-! ### In the end: data -/
def esD : List (Int × List Int) → List (Value × AV)
  | [] => []
  | (k, l) :: r => (.int .i64 k, .d (eIs l)) :: esD r
theorem esD_keys : ∀ (G : List (Int × List Int)), keysB (.int .i64) (esD G) = true
  | [] => rfl
  | (k, l) :: r => by simp [esD, keysB, keyB, esD_keys r]
theorem esD_find (k : Int) : ∀ (G : List (Int × List Int)), MFind (.int .i64 k) (esD G) ((gpos k G).map (fun _ => .d (eIs (gget k G))))
  | [] => .nil
  | (k', l) :: r => by
    simp only [esD, gpos, gget]
    split
    · rename_i e
      subst e
      simpa using .hit
    · rename_i e
      refine .miss (fun h => e (by cases h; rfl)) ?_
      have := esD_find k r
      cases h : gpos k r with
      | none => rw [h] at this; exact this
      | some p => rw [h] at this; exact this
theorem esD_refs (m : Nat) : ∀ G : List (Int × List Int), refsM m (esD G) = true
  | [] => rfl
  | (k, l) :: r => by simp only [esD, refsM, refsB]; exact esD_refs m r
theorem gpos_gget {k : Int} : ∀ {G : List (Int × List Int)}, gpos k G = none → gget k G = []
  | [], _ => rfl
  | (k', l) :: r, h => by
    simp only [gpos] at h
    split at h
    · cases h
    · rename_i e
      simp only [gget, if_neg e]
      exact gpos_gget (by cases hg : gpos k r with | none => rfl | some p => rw [hg] at h; cases h)

def nones : Nat → List (Option AObj)
  | 0 => []
  | n + 1 => none :: nones n
theorem esD_frz (i : Nat) (x : D) : ∀ G : List (Int × List Int), frzEs i x (esD G) = esD G
  | [] => rfl
  | (k, l) :: r => by simp [esD, frzEs, AV.frz, esD_frz i x r]
theorem esOf_frz (x : D) : ∀ (b i : Nat) (G : List (Int × List Int)), i < b → frzEs i x (esOf b G) = esOf b G
  | _, _, [], _ => rfl
  | b, i, (k, l) :: r, h => by
    have : Nat.beq b i = false := by rw [← Bool.not_eq_true, Nat.beq_eq]; omega
    simp [esOf, frzEs, AV.frz, this, esOf_frz x (b + 1) i r (by omega)]
theorem frzEs_app (i : Nat) (x : D) : ∀ a b : List (Value × AV), frzEs i x (a ++ b) = frzEs i x a ++ frzEs i x b
  | [], b => rfl
  | (k, y) :: r, b => by simp [frzEs, frzEs_app i x r b]
theorem frzO_app (i : Nat) (x : D) : ∀ (k : Nat) (a b : List (Option AObj)), frzO i x k (a ++ b) = frzO i x k a ++ frzO i x (k + a.length) b
  | k, [], b => rfl
  | k, y :: r, b => by simp [frzO, frzO_app i x (k + 1) r b, show k + 1 + r.length = k + (r.length + 1) by omega]
theorem frzO_nones (i : Nat) (x : D) : ∀ (k m : Nat), frzO i x k (nones m) = nones m
  | k, 0 => rfl
  | k, m + 1 => by
    simp only [nones, frzO, frzO_nones i x (k + 1) m]
    split <;> rfl
theorem frzO_tail (t : TypeId) (i : Nat) (x : D) : ∀ (k : Nat) (G : List (Int × List Int)), i < k → frzO i x k (tailOf t G) = tailOf t G
  | k, [], _ => rfl
  | k, (q, l) :: r, h => by
    have : Nat.beq k i = false := by rw [← Bool.not_eq_true, Nat.beq_eq]; omega
    simp only [tailOf, frzO, this, gL, AObj.frz, frzO_tail t i x (k + 1) r (by omega)]
theorem nones_len : ∀ m, (nones m).length = m
  | 0 => rfl
  | m + 1 => by simp [nones, nones_len m]
theorem nones_snoc : ∀ m, nones m ++ [none] = nones (m + 1)
  | 0 => rfl
  | m + 1 => by simp [nones, nones_snoc m]
theorem esD_app (k : Int) (l : List Int) : ∀ G : List (Int × List Int), esD (G ++ [(k, l)]) = esD G ++ [(.int .i64 k, .d (eIs l))]
  | [] => rfl
  | (k', l') :: r => by simp [esD, esD_app k l r]

section
variable {P : Program} {f : FuncId} {n : Nat} {C : Cx} {R : AV → List (Option AObj) → Prop} {todo : List Item} {env : Env}

/-- All rows are only read from here on. -/
theorem sat_gathered {t : TypeId} {o0 o1 : AObj} (hE : ∀ i x, frzE (i + 3) x env = env) (h0 : ∀ i x, o0.frz (i + 3) x = o0) (h1 : ∀ i x, o1.frz (i + 3) x = o1) {G : List (Int × List Int)}
    (k : ASat P f n C todo env (some o0 :: some o1 :: some (.map (esD G)) :: nones G.length) R) : ASat P f n C todo env (some o0 :: some o1 :: some (.map (esOf 3 G)) :: tailOf t G) R := by
  have key : ∀ (H D : List (Int × List Int)), (D ++ H = G) → ASat P f n C todo env (some o0 :: some o1 :: some (.map (esD D ++ esOf (D.length + 3) H)) :: (nones D.length ++ tailOf t H)) R := by
    intro H
    induction H with
    | nil =>
      intro D hD
      rw [List.append_nil] at hD
      subst hD
      simpa [esOf, tailOf] using k
    | cons g r ih =>
      intro D hD
      obtain ⟨kk, l⟩ := g
      have ih' := ih (D ++ [(kk, l)]) (by simpa using hD)
      have hnth : nth (some o0 :: some o1 :: some (.map (esD D ++ esOf (D.length + 3) ((kk, l) :: r))) :: (nones D.length ++ tailOf t ((kk, l) :: r))) (D.length + 3) = some (some (.grow t 1 (l.map eI) (fun i => eI (l.getD i 0)))) := by
        show nth (nones D.length ++ tailOf t ((kk, l) :: r)) D.length = _
        have := nth_append_at (l := nones D.length) (r := tailOf t ((kk, l) :: r)) (m := 0)
        rw [nones_len, Nat.add_zero] at this
        rw [this]
        rfl
      refine sat_freeze (D.length + 3) hnth ?_
      rw [hE]
      have e1 : ∀ x, frzO (D.length + 3) x 0 (some o0 :: some o1 :: some (.map (esD D ++ esOf (D.length + 3) ((kk, l) :: r))) :: (nones D.length ++ tailOf t ((kk, l) :: r))) =
          some (o0.frz (D.length + 3) x) :: some (o1.frz (D.length + 3) x) :: some (.map (frzEs (D.length + 3) x (esD D ++ esOf (D.length + 3) ((kk, l) :: r)))) :: frzO (D.length + 3) x 3 (nones D.length ++ tailOf t ((kk, l) :: r)) := fun x => rfl
      rw [e1, h0, h1, frzEs_app, esD_frz, frzO_app, frzO_nones, nones_len]
      have e2 : ∀ x, frzEs (D.length + 3) x (esOf (D.length + 3) ((kk, l) :: r)) = (.int .i64 kk, .d x) :: esOf (D.length + 1 + 3) r := by
        intro x
        have b : Nat.beq (D.length + 3) (D.length + 3) = true := Nat.beq_refl _
        simp only [esOf, frzEs, AV.frz, b]
        rw [esOf_frz x (D.length + 3 + 1) (D.length + 3) r (by omega), show D.length + 3 + 1 = D.length + 1 + 3 by omega]
      have e3 : ∀ x, frzO (D.length + 3) x (3 + D.length) (tailOf t ((kk, l) :: r)) = none :: tailOf t r := by
        intro x
        have b : Nat.beq (3 + D.length) (D.length + 3) = true := by rw [Nat.add_comm]; exact Nat.beq_refl _
        simp only [tailOf, frzO, b]
        rw [frzO_tail t (D.length + 3) x (3 + D.length + 1) r (by omega)]
      rw [e2, e3]
      rw [esD_app, List.length_append, List.length_singleton, ← nones_snoc] at ih'
      simpa [eIs, eL] using ih'
  have := key G [] rfl
  simpa [esD, nones] using this
end
end Ab
