/- Structs that are built; the pure step. -/
import Derived.Test.YtdnpkeahgpbkoaaAb10
namespace Ab
open Go

def setsL : List Value → Nat → List Value → List Value
  | ws, _, [] => ws
  | ws, off, u :: us => setsL (ws.set off u) (off + 1) us
theorem setsL_length : ∀ (us ws : List Value) (off : Nat), (setsL ws off us).length = ws.length
  | [], _, _ => rfl
  | _ :: us, ws, off => by simp [setsL, setsL_length us]
theorem setsL_mem : ∀ (us ws : List Value) (off : Nat), (∀ v ∈ ws, flat v = true) → (∀ v ∈ us, flat v = true) → ∀ v ∈ setsL ws off us, flat v = true
  | [], ws, off, h, _ => by simpa [setsL] using h
  | u :: us, ws, off, h, k => by
    simp only [setsL]
    refine setsL_mem us _ _ (fun v hv => ?_) (fun v hv => k v (by simp [hv]))
    rcases List.mem_or_eq_of_mem_set hv with hv | rfl
    · exact h v hv
    · exact k _ (by simp)
theorem setsL_arr (off : Nat) : ∀ (us : List Value) (k : Nat) (cells : Array Value), (us.zipIdx k).foldl (fun cs (x : Value × Nat) => cs.setIfInBounds (off + x.2) x.1) cells = (setsL cells.toList (off + k) us).toArray
  | [], _, _ => by simp [setsL]
  | u :: us, k, cells => by
    rw [List.zipIdx_cons, List.foldl_cons, setsL_arr off us (k + 1)]
    simp [setsL, Nat.add_assoc]

theorem putAt_rel {w : World} {ok : Nat → Prop} {π : List Value} : ∀ {us : List AV} {vs : List Value} (_ : RelVs w ok π us vs) {cs : List AV} {ws : List Value} (_ : RelVs w ok π cs ws) {off : Nat} {cs' : List AV}, putAt cs off us = some cs' →
    RelVs w ok π cs' (setsL ws off vs) ∧ (us ≠ [] → off + us.length ≤ cs.length)
  | _, _, .nil, cs, ws, hc, off, cs', h => by
    simp only [putAt, Option.some.injEq] at h
    subst h
    exact ⟨hc, fun h => absurd rfl h⟩
  | _, _, .cons (xs := us) hv ht, cs, ws, hc, off, cs', h => by
    simp only [putAt] at h
    split at h
    · cases h
    · rename_i x hx
      obtain ⟨h1, h2⟩ := putAt_rel ht (hc.set off hv) h
      refine ⟨h1, fun _ => ?_⟩
      have := nth_lt hx
      rw [setNth_length] at h2
      cases us with
      | nil => simp; omega
      | cons a r =>
        have := h2 (by simp)
        simp only [List.length_cons] at this ⊢
        omega

inductive RelPs (w : World) (ok : Nat → Prop) (π : List Value) : List (Nat × AV) → List (Nat × Value) → Prop
  | nil : RelPs w ok π [] []
  | cons {i : Nat} {a : AV} {v : Value} {xs : List (Nat × AV)} {vs : List (Nat × Value)} (h : RelV w ok π a v) (t : RelPs w ok π xs vs) : RelPs w ok π ((i, a) :: xs) ((i, v) :: vs)

theorem bFill_rel {P : Program} {w : World} {ok : Nat → Prop} {π : List Value} {fs : List Fld} {gs : List Field} (hfs : fldsOk P fs gs = true) {places : Nat → Option (Nat × Nat)}
    (hp : ∀ n g i, gs[n]? = some g → P.info? g.type = some i → places n = some (g.offset, i.size)) :
    ∀ {parts : List (Nat × AV)} {ps : List (Nat × Value)} (_ : allSolid parts = true) (_ : RelPs w ok π parts ps) {cs cs' : List AV} {ws : List Value} (_ : RelVs w ok π cs ws) (_ : ∀ v ∈ ws, flat v = true), bFill fs cs parts = some cs' →
      ∃ ws', Instr.fill places ws.toArray ps = some ws'.toArray ∧ RelVs w ok π cs' ws' ∧ ∀ v ∈ ws', flat v = true
  | [], _, _, .nil, cs, cs', ws, hc, hf, h => by
    simp only [bFill, Option.some.injEq] at h
    subst h
    exact ⟨ws, by simp [Instr.fill], hc, hf⟩
  | (i, a) :: parts, _, hs, .cons (v := v) hav ht, cs, cs', ws, hc, hf, h => by
    simp only [allSolid] at hs
    split at hs
    · rename_i hsol
      obtain ⟨hcells, hfl⟩ := cells_rel hav hsol
      simp only [bFill] at h
      split at h
      · cases h
      · rename_i fl hfl'
        obtain ⟨g, inf, hg, hoff, hi, hsz, _⟩ := flds_get hfs hfl'
        split at h
        · cases h
        · rename_i u us hu
          split at h
          · rename_i hlen
            have hlen := lenIs_eq hlen
            split at h
            · rename_i cs1 hput
              rw [← hu] at hput hlen
              obtain ⟨h1, h2⟩ := putAt_rel hcells hc hput
              have hle := h2 (by rw [hu]; simp)
              have hvl : v.cells.size = fl.size := by
                have := hcells.length
                rw [hlen] at this
                simpa using this
              have hcl := hc.length
              obtain ⟨ws', e1, e2, e3⟩ := bFill_rel hfs hp hs ht h1 (setsL_mem _ _ _ hf hfl) h
              refine ⟨ws', ?_, e2, e3⟩
              simp only [Instr.fill, hp _ _ _ hg hi]
              rw [if_neg (by simp [hvl, hsz]; omega)]
              rw [← e1]
              congr 1
              have := setsL_arr g.offset v.cells.toList 0 ws.toArray
              simp only [Nat.add_zero] at this
              rw [hoff, ← this, ← Array.foldl_toList]
              simp
            · cases h
          · cases h
    · cases hs

end Ab
