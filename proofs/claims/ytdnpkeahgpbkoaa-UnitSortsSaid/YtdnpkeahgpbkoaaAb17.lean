/- Operations that make or write memory: variables, structs, cells. -/
import Derived.Test.YtdnpkeahgpbkoaaAb16
namespace Ab
open Go

/-- What an operation that acts comes to: a condition, is there no value, the value, which slice has moved, the objects. -/
structure EOut where
  c : Option Prop
  skip : Bool
  a : AV
  q : Option Nat
  objs : List (Option AObj)

def cond (c : Option Prop) : Prop := match c with | none => True | some p => p

def EDoes (P : Program) (X : Nat → Prop) (π : List Value) (objs : List (Option AObj)) (w : World) (r : EOut) (s : Sem Next) : Prop :=
  ∃ v w' π', s.run P w = .ok (if r.skip = true then .skip else .value v) w' ∧ Tr X π objs w r.q π' r.objs w' ∧ (r.skip = false → RelV w' (okOf X π' r.objs) π' r.a v)

def ERok (P : Program) (X : Nat → Prop) (π : List Value) (objs : List (Option AObj)) (w : World) : Option EOut → Sem Next → Prop
  | some r, s => cond r.c → EDoes P X π objs w r s
  | none, _ => True

theorem run_newRow {P : Program} {w : World} (e : TypeId) (cs : Array Value) : (newRow e cs).run P w = .ok ⟨w.heap.size, 0, none⟩ (w.alloc (.cells cs e)) := by
  rfl

def eNewCells (e : TypeId) (cs : List AV) (objs : List (Option AObj)) : EOut :=
  ⟨none, false, .ptr objs.length 0, none, objs ++ [some (.cells e cs)]⟩

theorem nth_new {π : List Value} {objs : List (Option AObj)} (hl : π.length = objs.length) (h : Value) : nth (π ++ [h]) objs.length = some h := by
  have := nth_append_at (l := π) (r := [h]) (m := 0)
  rw [Nat.add_zero, hl] at this
  rw [this]
  rfl

theorem eNewCells_ok {P : Program} {X : Nat → Prop} {π : List Value} {objs : List (Option AObj)} {w : World} (m : Mem X π objs w) {e : TypeId} {cs : List AV} {vs : List Value} (h : RelVs w (okOf X π objs) π cs vs) (hf : ∀ v ∈ vs, flat v = true)
    {s : Sem Value} (hs : s.run P w = .ok (.pointer (some ⟨w.heap.size, 0, none⟩)) (w.alloc (.cells vs.toArray e))) : EDoes P X π objs w (eNewCells e cs objs) (do pure (.value (← s))) := by
  have hh : ∀ b, blk (.pointer (some ⟨w.heap.size, 0, none⟩)) = some b → w.heap.size ≤ b := by intro b e; cases e; exact Nat.le_refl _
  refine ⟨.pointer (some ⟨w.heap.size, 0, none⟩), _, π ++ [.pointer (some ⟨w.heap.size, 0, none⟩)], by simp [hs, eNewCells], tr_new m (.cells vs.toArray e) _ (.cells e cs) rfl ?_, fun _ => ?_⟩
  · exact .cells (heap_push_new _) (h.mono (new_keeps _ _ _ m.len hh) (new_hand _)) hf
  · exact .ptr (nth_new m.len _)

def eAlloc (T : Tab) (t : TypeId) (objs : List (Option AObj)) : Option EOut :=
  match tlook T t with
  | some r => some (eNewCells t (r.zero.map fun v => .d (.v v)) objs)
  | none => none
theorem eAlloc_ok {P : Program} {T : Tab} (hT : TabOk P T) {X : Nat → Prop} {π : List Value} {objs : List (Option AObj)} {w : World} (m : Mem X π objs w) (t : TypeId) :
    ERok P X π objs w (eAlloc T t objs) (do pure (.value (← Instr.alloc t true (.tuple #[])))) := by
  unfold eAlloc
  split
  · rename_i r hr
    intro _
    obtain ⟨z, hz1, hz2, hz3, _⟩ := (tab_row hT hr).zero
    have e : z.cells = r.zero.toArray := by rw [← hz2]
    exact eNewCells_ok m (zeros_rel r.zero hz3) hz3 (by simp [Instr.alloc, hz1, newVar, run_newRow, e])
  · trivial

def eBox (e : TypeId) (a : AV) (objs : List (Option AObj)) : Option EOut :=
  match solid a with
  | true => some (eNewCells e a.cells objs)
  | false => none
theorem eBox_ok {P : Program} {X : Nat → Prop} {π : List Value} {objs : List (Option AObj)} {w : World} (m : Mem X π objs w) (t : TypeId) {a : AV} {v : Value} (ha : RelV w (okOf X π objs) π a v) :
    ERok P X π objs w (eBox t a objs) (do pure (.value (← Instr.box t v))) := by
  unfold eBox
  split
  · rename_i hs
    intro _
    obtain ⟨h1, h2⟩ := cells_rel ha hs
    exact eNewCells_ok m h1 h2 (by simp [Instr.box, newVar, run_newRow])
  · trivial

/-! ### Cells that are written -/
theorem setCells_heap {P : Program} : ∀ (us : List Value) (w : World) (b o i : Nat) (vs : List Value) (e : TypeId) (fz : Nat × Nat), w.heap[b]? = some (.cells vs.toArray e fz) → (∀ j, j < vs.length → ¬ (fz.1 ≤ j ∧ j < fz.2)) → o + i + us.length ≤ vs.length → (∀ u ∈ us, flat u = true) →
    ∃ w', (storeCells ⟨b, o, none⟩ us i).run P w = .ok () w' ∧ w'.heap[b]? = some (.cells (setsL vs (o + i) us).toArray e fz) ∧ (∀ c, c ≠ b → w'.heap[c]? = w.heap[c]?) ∧ w'.heap.size = w.heap.size ∧ w'.os = w.os ∧ w'.tape = w.tape ∧ (w'.output = w.output ∧ w.drawn ≤ w'.drawn)
  | [], w, b, o, i, vs, e, fz, hb, _, _, _ => ⟨w, by simp [storeCells], by simpa [setsL] using hb, fun _ _ => rfl, rfl, rfl, rfl, rfl, Nat.le_refl _⟩
  | u :: us, w, b, o, i, vs, e, fz, hb, hz, hl, hf => by
    have hlt : o + i < vs.length := by simp at hl; omega
    have hc : w.cell? ⟨b, o + i, none⟩ = some vs[o + i] := by rw [cell_of_heap hb, List.getElem?_eq_getElem hlt]
    have hfz : w.frozen? ⟨b, o + i, none⟩ = false := by
      have := hz (o + i) hlt
      simp only [World.frozen?, hb]
      simpa using this
    have hu : flat u = true := hf u (by simp)
    have hstore : (store ⟨b, o + i, none⟩ u).run P w = .ok () (w.setCell ⟨b, o + i, none⟩ u) := by
      unfold store
      cases u <;> first | (simp [Sem.run, hc, hfz]; done) | (simp [flat] at hu)
    have hb1 : (w.setCell ⟨b, o + i, none⟩ u).heap[b]? = some (.cells (vs.set (o + i) u).toArray e fz) := by
      simp [World.setCell, Array.getElem?_modify, hb]
    have hne : ∀ c, c ≠ b → (w.setCell ⟨b, o + i, none⟩ u).heap[c]? = w.heap[c]? := by
      intro c hc
      simp [World.setCell, Array.getElem?_modify, hc.symm]
    obtain ⟨w', h1, h2, h3, h4, h5, h6, h7⟩ := setCells_heap (P := P) us (w.setCell ⟨b, o + i, none⟩ u) b o (i + 1) (vs.set (o + i) u) e fz hb1 (by simpa using hz) (by simp at hl ⊢; omega) (fun x hx => hf x (by simp [hx]))
    refine ⟨w', ?_, ?_, fun c hc => (h3 c hc).trans (hne c hc), ?_, h5, h6, h7⟩
    · simp only [storeCells, Sem.run_bind, addr_add, hstore, Result.andThen_ok, h1]
    · simpa [setsL, Nat.add_assoc] using h2
    · rw [h4]; simp [World.setCell]

theorem setsL_get : ∀ (us ws : List Value) (off : Nat), off + us.length ≤ ws.length → ∀ k, (setsL ws off us)[k]? = if off ≤ k ∧ k < off + us.length then us[k - off]? else ws[k]?
  | [], ws, off, _, k => by
    simp only [setsL, List.length_nil, Nat.add_zero]
    rw [if_neg (by omega)]
  | u :: us, ws, off, h, k => by
    simp only [List.length_cons] at h
    have ih := setsL_get us (ws.set off u) (off + 1) (by simp; omega) k
    simp only [setsL, ih, List.length_cons]
    by_cases h1 : off + 1 ≤ k ∧ k < off + 1 + us.length
    · rw [if_pos h1, if_pos (by omega), show k - off = (k - (off + 1)) + 1 by omega, List.getElem?_cons_succ]
    · rw [if_neg h1, List.getElem?_set]
      by_cases h2 : off = k
      · subst h2
        rw [if_pos rfl, if_pos (by omega), if_pos (by omega)]
        simp
      · rw [if_neg h2, if_neg (by omega)]

/-- An element of a slice that grows is written. -/
def eSet (r : TRow) (objs : List (Option AObj)) (i s j off : Nat) (y : D) : Option EOut :=
  match objAt objs i with
  | some (.grow e s' xs rd) => match Nat.beq s s' with
    | false => none
    | true => match off with
      | _ + 1 => none
      | 0 => match Nat.beq s r.size with
        | false => none
        | true => some ⟨some (j < xs.length), true, .dead, none, setNth objs i (some (.grow e s' (xs.set j y) (fun k => match Nat.beq k j with | true => y | false => rd k)))⟩
  | _ => none

theorem eSet_ok {P : Program} {X : Nat → Prop} {π : List Value} {objs : List (Option AObj)} {w : World} (m : Mem X π objs w) {t : TypeId} {r : TRow} (hr : RowOk P t r) {i s j off : Nat} {y : D} {va vx : Value}
    (ha : RelV w (okOf X π objs) π (.ge i s j off) va) (hvl : vx.cells.size = r.size) (hyl : RelL w (okOf X π objs) y.cells vx.cells.toList) :
    ERok P X π objs w (eSet r objs i s j off y) (do Instr.storeAt t va vx; pure .skip) := by
  have hfl := hyl.flat
  unfold eSet
  split
  · rename_i e s' xs rd ho
    have ho' := objAt_eq ho
    split
    · trivial
    · rename_i hs
      have hs' : s = s' := by simpa using hs
      subst hs'
      split
      · trivial
      · split
        · trivial
        · rename_i hsr
          have hsr' : s = r.size := by simpa using hsr
          intro hj
          have hj : j < xs.length := hj
          obtain ⟨h, hp, hrel⟩ := m.obj _ _ ho'
          cases ha with
          | ge hh =>
            have hp0 := hp
            rw [hh] at hp
            cases hp
            cases hrel with
            | gnil => exact absurd hj (by simp)
            | grow hb hz he hu hc2 hm2 ho2 hr2 =>
              rename_i b o c us vs fz
              have hul := he.length
              have hjs : j * s + s ≤ xs.length * s := by
                have := Nat.mul_le_mul_right s (show j + 1 ≤ xs.length by omega)
                rwa [Nat.add_mul, Nat.one_mul] at this
              have hcs := Nat.mul_le_mul_right s hc2
              have hvl2 : vx.cells.toList.length = s := by simp [hvl, hsr']
              obtain ⟨w', e1, e2, e3, e4, e5, e6, e7⟩ := setCells_heap (P := P) vx.cells.toList w b (o + j * s + 0) 0 vs e fz hb hz (by rw [hvl2]; omega) hfl
              simp only [Nat.add_zero] at e1 e2
              have hk := set_keeps (X := X) (w' := w') (o' := .grow e s (xs.set j y) (fun k => match Nat.beq k j with | true => y | false => rd k)) ho' hp0 rfl e3
              refine ⟨undef, w', π, ?_, tr_set m ho' hp0 rfl e5 e6 e7 e4 e3 ?_, fun h => by cases h⟩
              · simp [Instr.storeAt, Instr.sureAddr, storeVar, hr.sizeOf, hvl, e1]
              · have hset := (he.set hyl hvl2 j hj).mono hk
                have hxl : (xs.set j y).length = xs.length := by simp
                have := RelO.grow (π := π) (e := e) (rd := fun k => match Nat.beq k j with | true => y | false => rd k) (o := o) e2 ?_ hset (fun q hq => ?_) (by rw [hxl]; exact hc2) hm2 (by rw [setsL_length]; exact ho2) (fun q hq => ?_)
                · rwa [hxl] at this
                · rw [setsL_length]; exact hz
                · rw [setsL_get _ _ _ (by rw [hvl2]; omega), hvl2]
                  have hlt : (us.take (j * s)).length = j * s := by rw [List.length_take]; omega
                  by_cases h1 : q < j * s
                  · rw [if_neg (by omega), List.append_assoc, List.getElem?_append_left (by omega), List.getElem?_take, if_pos h1]
                    exact hu q (by omega)
                  · by_cases h2 : q < j * s + s
                    · rw [if_pos (by omega), List.append_assoc, List.getElem?_append_right (by omega), hlt, List.getElem?_append_left (by omega)]
                      congr 1
                      omega
                    · rw [if_neg (by omega), List.getElem?_append_right (by rw [List.length_append, hlt, hvl2]; omega), List.length_append, hlt, hvl2, List.getElem?_drop]
                      rw [show j * s + s + (q - (j * s + s)) = q by omega]
                      refine hu q ?_
                      simp only [List.length_append, hlt, hvl2, List.length_drop] at hq
                      omega
                · rw [hxl] at hq
                  rw [List.getElem?_set]
                  by_cases hqj : j = q
                  · subst hqj
                    simp [hq]
                  · rw [if_neg hqj]
                    have : Nat.beq q j = false := by
                      rw [Bool.eq_false_iff]
                      exact fun e => hqj (Nat.eq_of_beq_eq_true e).symm
                    simp only [this]
                    exact hr2 q hq
  · trivial

/-- A store into an object's cells. -/
def eStore (T : Tab) (t : TypeId) (objs : List (Option AObj)) (addr x : AV) : Option EOut :=
  match tlook T t with
  | none => none
  | some r => match solid x with
    | false => none
    | true => match lenIs x.cells r.size with
      | false => none
      | true => match addr with
        | .ptr i off => match objAt objs i with
          | some (.cells e cs) => match x.cells with
            | [] => none
            | u :: us => match putAt cs off (u :: us) with
              | some cs' => some ⟨none, true, .dead, none, setNth objs i (some (.cells e cs'))⟩
              | none => none
          | _ => none
        | .ge i s j off => match x with
          | .d y => eSet r objs i s j off y
          | _ => none
        | _ => none

theorem eStore_ok {P : Program} {T : Tab} (hT : TabOk P T) {X : Nat → Prop} {π : List Value} {objs : List (Option AObj)} {w : World} (m : Mem X π objs w) {t : TypeId} {addr x : AV} {va vx : Value}
    (ha : RelV w (okOf X π objs) π addr va) (hx : RelV w (okOf X π objs) π x vx) : ERok P X π objs w (eStore T t objs addr x) (do Instr.storeAt t va vx; pure .skip) := by
  unfold eStore
  split
  · trivial
  · rename_i r hr
    split
    · trivial
    · rename_i hsol
      obtain ⟨hcells, hfl⟩ := cells_rel hx hsol
      split
      · trivial
      · rename_i hlen
        have hlen := lenIs_eq hlen
        have hvl : vx.cells.size = r.size := by
          have := hcells.length
          rw [hlen] at this
          simpa using this
        split
        · rename_i i off
          split
          · rename_i e cs ho
            have ho' := objAt_eq ho
            split
            · trivial
            · rename_i u us hu
              split
              · rename_i cs' hput
                intro _
                rw [← hu] at hput
                obtain ⟨h, hp, hrel⟩ := m.obj _ _ ho'
                cases ha with
                | ptr hh =>
                  have hp0 := hp
                  rw [hh] at hp
                  cases hp
                  cases hrel with
                  | cells hb hvs hf =>
                    rename_i b vs
                    obtain ⟨h1, h2⟩ := putAt_rel hcells hvs hput
                    have hle := h2 (by rw [hu]; simp)
                    have hcl := hvs.length
                    obtain ⟨w', e1, e2, e3, e4, e5, e6, e7⟩ := setCells_heap (P := P) vx.cells.toList w b off 0 vs e (0, 0) hb (by simp) (by simp; omega) hfl
                    simp only [Nat.add_zero] at e2
                    have hk := set_keeps (X := X) (w' := w') (o' := .cells e cs') ho' hp0 rfl e3
                    refine ⟨undef, w', π, ?_, tr_set m ho' hp0 rfl e5 e6 e7 e4 e3 ?_, fun h => by cases h⟩
                    · simp [Instr.storeAt, Instr.sureAddr, storeVar, (tab_row hT hr).sizeOf, hvl, e1]
                    · exact .cells e2 (h1.mono hk (fun _ _ h => h)) (setsL_mem _ _ _ hf hfl)
              · trivial
          · trivial
        · split
          · rename_i y _
            cases hx with
            | d hx =>
              refine eSet_ok m (tab_row hT hr) ha hvl ?_
              have e : AV.cells (.d y) = y.cells.map .d := by cases y <;> rfl
              rw [e] at hcells
              exact hcells.toL hfl
          · trivial
        · trivial

end Ab
