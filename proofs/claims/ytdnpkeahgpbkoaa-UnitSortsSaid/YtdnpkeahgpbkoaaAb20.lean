/- Literals of slices, make, cuts of a slice that grows. -/
import Derived.Test.YtdnpkeahgpbkoaaAb19
set_option linter.unusedSimpArgs false
set_option linter.unusedVariables false
namespace Ab
open Go

section
variable {X : Nat → Prop} {π : List Value} {objs : List (Option AObj)} {w : World}

/-- New memory that no object bears. -/
theorem tr_plain (m : Mem X π objs w) {w' : World} (hos : w'.os = w.os) (htape : w'.tape = w.tape) (hout : w'.output = w.output ∧ w.drawn ≤ w'.drawn) (hsz : w.heap.size ≤ w'.heap.size) (hw : ∀ b, b < w.heap.size → w'.heap[b]? = w.heap[b]?) : Tr X π objs w none π objs w' := by
  have hk : Keeps w (okOf X π objs) w' (okOf X π objs) := by
    intro b off u h1 h2
    have hb := cell_lt h2
    refine ⟨h1, ?_⟩
    unfold World.cell? at h2 ⊢
    rw [hw b hb]
    exact h2
  have hp : ∀ j k, nth π j = some k → nth π j = some k := fun _ _ h => h
  refine ⟨⟨m.len, ?_, m.dist, m.ext, fun b hx => Nat.lt_of_lt_of_le (m.inX b hx) hsz⟩, fun a v h1 => h1.mono hk hp, ⟨hos, htape, hout, hsz, fun b hb _ => hw b hb, fun i o h b h1 h2 h3 => .inr ⟨i, o, h, h1, h2, h3⟩, fun _ _ h _ => h⟩⟩
  intro i o ho
  obtain ⟨h, h2, h3⟩ := m.obj i o ho
  exact ⟨h, h2, h3.mono hk hp (fun b e => hw b (h3.lt e))⟩

theorem new_okb (m : Mem X π objs w) : okOf X π objs w.heap.size :=
  ⟨fun hx => Nat.lt_irrefl _ (m.inX _ hx), fun i o h ho hp e => Nat.lt_irrefl _ (m.lt ho hp e)⟩
end

def litRd (xs : List D) (j : Nat) : D := match nth xs j with | some x => x | none => .v undef
theorem litRd_ok (xs : List D) : ∀ i, i < xs.length → xs[i]? = some (litRd xs i) := by
  intro i hi
  unfold litRd
  rw [nth_eq, List.getElem?_eq_getElem hi]

/-- The parts of a literal, all there, in order. -/
def litParts (s : Nat) : Nat → List (Nat × AV) → Option (List D)
  | _, [] => some []
  | k, (i, a) :: r => match Nat.beq i k with
    | false => none
    | true => match a with
      | .d x => match lenIs x.cells s with
        | true => match litParts s (k + 1) r with
          | some l => some (x :: l)
          | none => none
        | false => none
      | _ => none

theorem lit_rel {w : World} {ok : Nat → Prop} {π : List Value} {s : Nat} : ∀ {k : Nat} {ps : List (Nat × AV)} {xs : List D} {vs : List (Nat × Value)}, litParts s k ps = some xs → RelPs w ok π ps vs → ∀ (done rest : List Value), done.length = k * s → rest.length = xs.length * s →
    ∃ us, RelE w ok s xs us ∧ Instr.fill (fun i => some (i * s, s)) (done ++ rest).toArray vs = some (done ++ us).toArray
  | k, [], xs, vs, h, hp, done, rest, hd, hr => by
    simp only [litParts, Option.some.injEq] at h
    subst h
    cases hp
    have : rest = [] := List.eq_nil_of_length_eq_zero (by simpa using hr)
    subst this
    exact ⟨[], .nil, by simp [Instr.fill]⟩
  | k, (i, a) :: r, xs, vs, h, hp, done, rest, hd, hr => by
    simp only [litParts] at h
    split at h
    · cases h
    · rename_i hik
      have hik' : i = k := by simpa using hik
      subst hik'
      split at h
      · rename_i x
        split at h
        · rename_i hlen
          have hlen := lenIs_eq hlen
          split at h
          · rename_i l hl
            cases h
            cases hp with
            | cons hv ht =>
              rename_i v vs'
              have hsol : solid (.d x) = true := rfl
              obtain ⟨hc, hf⟩ := cells_rel hv hsol
              have e : AV.cells (.d x) = x.cells.map .d := by cases x <;> rfl
              rw [e] at hc
              have hcl := hc.length
              rw [List.length_map, hlen] at hcl
              have hcL := hc.toL hf
              rw [List.length_cons, Nat.add_mul, Nat.one_mul] at hr
              obtain ⟨us, h1, h2⟩ := lit_rel hl ht (done ++ v.cells.toList) (rest.drop s) (by rw [List.length_append, hd, hcl, Nat.add_mul, Nat.one_mul]) (by rw [List.length_drop]; omega)
              refine ⟨v.cells.toList ++ us, .cons hcL hcl h1, ?_⟩
              have hvs : v.cells.size = s := by simpa using hcl
              simp only [Instr.fill]
              rw [if_neg (by simp [hvs]; omega)]
              rw [← List.append_assoc, ← h2]
              congr 1
              have := setsL_arr (i * s) v.cells.toList 0 (done ++ rest).toArray
              rw [← Array.foldl_toList]
              simp only [Nat.add_zero] at this
              have e2 : (v.cells.zipIdx.toList) = v.cells.toList.zipIdx := by simp
              rw [e2, this]
              congr 1
              apply List.ext_getElem?
              intro q
              rw [setsL_get _ _ _ (by simp; omega)]
              simp only [Array.length_toList, hvs, List.append_assoc]
              by_cases h1 : q < done.length
              · rw [if_neg (by omega), List.getElem?_append_left h1, List.getElem?_append_left h1]
              · rw [List.getElem?_append_right (by omega), List.getElem?_append_right (by omega)]
                by_cases h2 : q < done.length + s
                · rw [if_pos (by omega), List.getElem?_append_left (by omega)]
                  congr 1
                  omega
                · rw [if_neg (by omega), List.getElem?_append_right (by omega), List.getElem?_drop]
                  congr 1
                  omega
          · cases h
        · cases h
      · cases h

def eLit (T : Tab) (t : TypeId) (len : Nat) (ps : List (Nat × AV)) (objs : List (Option AObj)) : Option EOut :=
  match tlook T t with
  | none => none
  | some r => match r.kd with
    | .slice e => match tlook T e with
      | none => none
      | some re => match ps with
        | [] => match len with
          | 0 => some ⟨none, false, .e0 re.size, none, objs⟩
          | _ + 1 => none
        | p :: ps' => match litParts re.size 0 (p :: ps') with
          | none => none
          | some xs => match lenIs xs len with
            | false => none
            | true => match Nat.ble (len * re.size) 16777216 with
              | true => match Nat.beq re.size 0 with
                | true => none
                | false => some ⟨none, false, .d (.sl re.size xs (litRd xs)), none, objs⟩
              | false => none
    | _ => none

theorem eLit_ok {P : Program} {T : Tab} (hT : TabOk P T) {X : Nat → Prop} {π : List Value} {objs : List (Option AObj)} {w : World} (m : Mem X π objs w) {t : TypeId} {len : Nat} {ps : List (Nat × AV)} {vs : List (Nat × Value)}
    (hp : RelPs w (okOf X π objs) π ps vs) : ERok P X π objs w (eLit T t len ps objs) (do pure (.value (← Instr.buildSlice t len vs.toArray))) := by
  unfold eLit
  split
  · trivial
  · rename_i r hr
    split
    · rename_i e hk
      have ht := slice_elem hT hr hk
      split
      · trivial
      · rename_i re hre
        obtain ⟨z, hzr, hzc, hzf, _, _⟩ := (tab_row hT hre).zero
        have hzl : z.cells.size = re.size := by
          have := (tab_row hT hre).zl
          rw [← hzc] at this
          simpa using this
        split
        · split
          · intro _
            cases hp
            have hsz := (tab_row hT hre).sizeOf w
            have hrun : (Instr.buildSlice t 0 #[]).run P w = .ok (.slice (some ⟨w.heap.size, 0, none⟩) 0 0) (w.alloc (.cells #[] e)) := by
              simp [Instr.buildSlice, run_underlying ht, hsz, run_newRow, Instr.fill]
              have e0 : Array.range 0 = #[] := Array.ext' (by simp)
              rw [e0, Array.map_empty]
            refine ⟨_, _, π, by simp only [Sem.run_bind, hrun, Result.andThen_ok, Sem.run_pure]; rfl, tr_plain (w' := w.alloc (.cells #[] e)) m rfl rfl ⟨rfl, Nat.le_refl _⟩ (by rw [alloc_heap]; simp) (fun b hb => heap_push_old _ hb), fun _ => .e0⟩
          · trivial
        · rename_i p ps'
          split
          · trivial
          · rename_i xs hxs
            split
            · trivial
            · rename_i hlen
              have hlen := lenIs_eq hlen
              split
              · rename_i hble
                have hble' : len * re.size ≤ 16777216 := by simpa using hble
                split
                · trivial
                · rename_i hz0
                  intro _
                  obtain ⟨us, h1, h2⟩ := lit_rel hxs hp [] ((List.range (len * re.size)).map fun i => z.cells[i % z.cells.size]!) (by simp) (by simp [hlen])
                  have hul := h1.length
                  simp only [List.nil_append] at h2
                  have hrun : (Instr.buildSlice t len vs.toArray).run P w = .ok (.slice (some ⟨w.heap.size, 0, none⟩) len len) (w.alloc (.cells us.toArray e)) := by
                    have hz0' : re.size ≠ 0 := by
                      intro e
                      rw [e] at hz0
                      cases hz0
                    have hsz := (tab_row hT hre).sizeOf w
                    have h2' : Instr.fill (fun i => some (i * re.size, re.size)) (Array.map (fun i => z.cells[i % z.cells.size]!) (Array.range (len * re.size))) vs = some us.toArray := by
                      rw [← h2]
                      congr 1
                      apply Array.ext'
                      simp
                    by_cases hl0 : len * re.size = 0
                    · have hl00 : len = 0 := by
                        rcases Nat.mul_eq_zero.1 hl0 with h | h
                        · exact h
                        · exact absurd h hz0'
                      subst hl00
                      have hx0 : xs = [] := List.eq_nil_of_length_eq_zero hlen
                      subst hx0
                      exfalso
                      revert hxs
                      simp only [litParts]
                      repeat' split
                      all_goals simp
                    · simp [Instr.buildSlice, run_underlying ht, hsz, hl0, show ¬ 16777216 < len * re.size by omega, hzr, h2', run_newRow]
                  have hext : ∀ b, b < w.heap.size → (w.alloc (.cells us.toArray e)).heap[b]? = w.heap[b]? := fun b hb => heap_push_old _ hb
                  have htr := tr_plain (w' := w.alloc (.cells us.toArray e)) m rfl rfl ⟨rfl, Nat.le_refl _⟩ (by rw [alloc_heap]; simp) hext
                  refine ⟨_, _, π, by simp only [Sem.run_bind, hrun, Result.andThen_ok, Sem.run_pure]; rfl, htr, fun _ => ?_⟩
                  have hk : Keeps w (okOf X π objs) (w.alloc (.cells us.toArray e)) (okOf X π objs) := fun b o u a1 a2 => ⟨a1, cell_push _ a2⟩
                  subst hlen
                  refine .d (.sl (us := us) (h1.mono hk) (fun i hi => ⟨new_okb m, ?_⟩) (Nat.le_refl _) ?_ (litRd_ok xs))
                  · rw [Nat.zero_add]
                    exact cell_of_heap (fz := (0, 0)) (heap_push_new _)
                  · have hml : maxLen = 9223372036854775807 := rfl
                    have : xs.length * 1 ≤ xs.length * re.size := Nat.mul_le_mul_left _ (by
                      have : re.size ≠ 0 := by intro e; rw [e] at hz0; cases hz0
                      omega)
                    omega
              · trivial
    · trivial

end Ab
