/- append: that the machine does it. -/
import Derived.Test.YtdnpkeahgpbkoaaAb18
set_option linter.unusedSimpArgs false
set_option linter.unusedVariables false
namespace Ab
open Go

theorem RelE.ext {w : World} {ok : Nat → Prop} {s : Nat} {xs ys : List D} {us vs : List Value} (h : RelE w ok s xs us) (k : RelE w ok s ys vs) : RelE w ok s (xs ++ ys) (us ++ vs) := h.append k

/-- A slice's cells in a block, as the object says. -/
theorem grow_new {P : Program} {X : Nat → Prop} {π : List Value} {objs : List (Option AObj)} {w w1 : World} {e : TypeId} {s n cap : Nat} {zs : List D} {us : List Value} {rd : Nat → D} {rest : List Value} {ok' : Nat → Prop} {π' : List Value}
    (hk : Keeps w (okOf X π objs) (w1.alloc (.cells (us ++ rest).toArray e)) ok') (hw1 : w1.heap = w.heap) (he : RelE w (okOf X π objs) s zs us) (hn : n = zs.length) (hc : n ≤ cap + 1) (hm : cap + 1 ≤ maxLen) (hrest : rest.length = (cap + 1 - n) * s)
    (hr : ∀ i, i < zs.length → zs[i]? = some (rd i)) : RelO (w1.alloc (.cells (us ++ rest).toArray e)) ok' π' (.grow e s zs rd) (.slice (some ⟨w.heap.size, 0, none⟩) n (cap + 1)) := by
  subst hn
  have hl := he.length
  refine .grow (us := us) (vs := us ++ rest) (fz := (0, 0)) ?_ (by simp) (he.mono hk) (fun i hi => ?_) hc hm ?_ hr
  · rw [alloc_heap, hw1]; simp
  · rw [Nat.zero_add, List.getElem?_append_left hi]
  · rw [List.length_append, hl, hrest, Nat.zero_add, ← Nat.add_mul]
    exact Nat.mul_le_mul_right s (by omega)

theorem eAppend_ok {P : Program} {T : Tab} (hT : TabOk P T) {X : Nat → Prop} {π : List Value} {objs : List (Option AObj)} {w : World} (m : Mem X π objs w) {t t2 ty : TypeId} {rest : List TypeId} {s x : AV} {vs vx : Value}
    (hs : RelV w (okOf X π objs) π s vs) (hx : RelV w (okOf X π objs) π x vx) : ERok P X π objs w (eAppend T t t2 objs s x) (do pure (.value (← Builtin.append_ ⟨t :: t2 :: rest⟩ ty #[vs, vx]))) := by
  unfold eAppend
  split
  · trivial
  · rename_i r hr
    split
    · rename_i e hk
      have ht := slice_elem hT hr hk
      split
      · trivial
      · rename_i re hre
        obtain ⟨inf, d0, hi, hd0, hsz, hby, hz0, _⟩ := (tab_row hT hre).ex
        obtain ⟨z, hzr, hzc, hzf, _, _⟩ := (tab_row hT hre).zero
        have hzl : z.cells.size = re.size := by
          have := (tab_row hT hre).zl
          rw [← hzc] at this
          simpa using this
        have hz : inf.zero = some z := by
          have := hzr w
          simp only [zeroValue, Sem.run_bind, run_typeInfo w hi, Result.andThen_ok] at this
          cases h : inf.zero with
          | none => rw [h] at this; simp [unsupported, Sem.run] at this
          | some z' => rw [h] at this; simp at this; rw [this]
        split
        · trivial
        · rename_i r2 hr2
          split
          · rename_i e2 hk2
            have ht2 := slice_elem hT hr2 hk2
            split
            · trivial
            · rename_i ys rd2 hel
              obtain ⟨A2, c2, us, rfl, hE, hload, hrd2⟩ := elems_rel (P := P) m hel hx
              have hul := hE.length
              split
              · trivial
              · rename_i hb0
                have hb0' : inf.bytes ≠ 0 := by
                  rw [hby]
                  intro e
                  rw [e] at hb0
                  cases hb0
                have hml : maxLen = 9223372036854775807 := rfl
                have hbound : ∀ n : Nat, n * re.bytes ≤ 140737488355328 → n ≤ maxLen := by
                  intro n hn
                  have : n * 1 ≤ n * re.bytes := Nat.mul_le_mul_left n (by rw [← hby]; omega)
                  omega
                -- a slice without capacity
                have key : ∀ (A : Option Addr), vs = .slice A 0 0 → ys.length * re.bytes ≤ 140737488355328 →
                    EDoes P X π objs w ⟨some (ys.length * re.bytes ≤ 140737488355328), false, .gs objs.length, none, objs ++ [some (.grow e re.size ys rd2)]⟩ (do pure (.value (← Builtin.append_ ⟨t :: t2 :: rest⟩ ty #[vs, .slice A2 ys.length c2]))) := by
                  rintro A rfl hc
                  by_cases h0 : ys.length = 0
                  · have hy : ys = [] := List.eq_nil_of_length_eq_zero h0
                    subst hy
                    have hus : us = [] := by cases hE; rfl
                    subst hus
                    have := run_append_in (P := P) (w := w) (w' := w) (ty := ty) (rest := rest) ht ⟨_, ht2⟩ hi (A := A) (n := 0) (c := 0) (m := 0) (A2 := A2) (c2 := c2) (us := []) (by omega) (by rw [hsz]; exact hload w (Ext.refl w)) (by cases A <;> simp [storeCells])
                    refine ⟨.slice A 0 0, w, π ++ [.slice A 0 0], by simp [this], tr_newW m rfl rfl ⟨rfl, Nat.le_refl _⟩ (Nat.le_refl _) (fun _ _ => rfl) _ _ (by intro b e; cases A <;> cases e) .gnil, fun _ => .gs (nth_new m.len _)⟩
                  · obtain ⟨cap, w1, q1, q2, q3, q4, q5, q6, q7⟩ := run_append_grow (P := P) (w := w) (ty := ty) (rest := rest) ht ⟨_, ht2⟩ hi hz (A := A) (n := 0) (c := 0) (m := ys.length) (A2 := A2) (c2 := c2) (us1 := []) (us := us) (by omega) (by rw [hby, Nat.zero_add]; exact hc) (by rw [Nat.zero_add]; exact hbound _ hc) hb0'
                      (fun w' _ => by cases A <;> simp [Builtin.firstCells, loadCells, loadCellsFrom]) (fun w' hw => by rw [hsz]; exact hload w' hw)
                    obtain ⟨cap', rfl⟩ : ∃ k, cap = k + 1 := ⟨cap - 1, by omega⟩
                    simp only [List.nil_append, Nat.zero_add] at q7 q1
                    have hh : ∀ b, blk (.slice (some ⟨w.heap.size, 0, none⟩) ys.length (cap' + 1)) = some b → w.heap.size ≤ b := by intro b e; cases e; exact Nat.le_refl _
                    have hext : ∀ b, b < w.heap.size → (w1.alloc (.cells (us ++ (Builtin.zeroCells z.cells (cap' + 1 - ys.length)).toList).toArray e)).heap[b]? = w.heap[b]? := by
                      intro b hb
                      rw [alloc_heap, q3, Array.getElem?_push, if_neg (Nat.ne_of_lt hb)]
                    have hk2 := new_keepsW (X := X) (π := π) (objs := objs) hext _ (.grow e re.size ys rd2) m.len hh
                    refine ⟨.slice (some ⟨w.heap.size, 0, none⟩) ys.length (cap' + 1), w1.alloc (.cells (us ++ (Builtin.zeroCells z.cells (cap' + 1 - ys.length)).toList).toArray e), π ++ [.slice (some ⟨w.heap.size, 0, none⟩) ys.length (cap' + 1)], by simp [q7], tr_newW (w' := w1.alloc (.cells (us ++ (Builtin.zeroCells z.cells (cap' + 1 - ys.length)).toList).toArray e)) m q4 q5 q6 (by rw [alloc_heap, q3]; simp) hext _ _ hh ?_, fun _ => .gs (nth_new m.len _)⟩
                    exact grow_new (P := P) hk2 q3 hE rfl q1 q2 (by simp [zeroCells_len, hzl]) hrd2
                split
                · cases hs with | d hs => cases hs with | v _ =>
                  exact fun hc => key none rfl hc
                · cases hs
                  exact fun hc => key _ rfl hc
                · rename_i i
                  split
                  · rename_i e' s' xs rd ho
                    split
                    · rename_i hs1
                      have hs1' : s' = re.size := by simpa using hs1
                      subst hs1'
                      split
                      · rename_i he1
                        have he1' : e' = e := by simpa using he1
                        subst he1'
                        intro hc
                        have hc : (xs.length + ys.length) * re.bytes ≤ 140737488355328 := hc
                        have ho' := objAt_eq ho
                        obtain ⟨h, hp, hrel⟩ := m.obj _ _ ho'
                        cases hs with
                        | gs hh =>
                          have hp0 := hp
                          rw [hh] at hp
                          cases hp
                          rename_i n c A
                          -- new memory
                          have fresh : ∀ (us1 : List Value), n = xs.length → RelE w (okOf X π objs) re.size xs us1 → (∀ w', Ext w w' → (Builtin.firstCells re.size n (.slice A n c)).run P w' = .ok us1.toArray w') → (∀ i, i < xs.length → xs[i]? = some (rd i)) → ¬ n + ys.length ≤ c →
                              EDoes P X π objs w ⟨some ((xs.length + ys.length) * re.bytes ≤ 140737488355328), false, .gs i, some i, setNth (dropO i objs) i (some (.grow e' re.size (xs ++ ys) (catRd xs.length rd rd2)))⟩ (do pure (.value (← Builtin.append_ ⟨t :: t2 :: rest⟩ ty #[.slice A n c, .slice A2 ys.length c2]))) := by
                            intro us1 hn hE1 hl1 hrd1 hnf
                            subst hn
                            obtain ⟨cap, w1, q1, q2, q3, q4, q5, q6, q7⟩ := run_append_grow (P := P) (w := w) (ty := ty) (rest := rest) ht ⟨_, ht2⟩ hi hz (A := A) (n := xs.length) (c := c) (m := ys.length) (A2 := A2) (c2 := c2) (us1 := us1) (us := us) hnf (by rw [hby]; exact hc) (hbound _ hc) hb0'
                              (fun w' hw => by rw [hsz]; exact hl1 w' hw) (fun w' hw => by rw [hsz]; exact hload w' hw)
                            obtain ⟨cap', rfl⟩ : ∃ k, cap = k + 1 := ⟨cap - 1, by omega⟩
                            have hext : ∀ b, b < w.heap.size → (w1.alloc (.cells (us1 ++ us ++ (Builtin.zeroCells z.cells (cap' + 1 - (xs.length + ys.length))).toList).toArray e')).heap[b]? = w.heap[b]? := by
                              intro b hb
                              rw [alloc_heap, q3, Array.getElem?_push, if_neg (Nat.ne_of_lt hb)]
                            have hb' : ∀ b, blk (.slice (some ⟨w.heap.size, 0, none⟩) (xs.length + ys.length) (cap' + 1)) = some b → blk (.slice A xs.length c) = some b ∨ w.heap.size ≤ b := by intro b e; cases e; exact .inr (Nat.le_refl _)
                            have hk2 := regrow_keeps (X := X) (o' := .grow e' re.size (xs ++ ys) (catRd xs.length rd rd2)) ho' hp0 (fun c hc _ => hext c hc) hb'
                            refine ⟨.slice (some ⟨w.heap.size, 0, none⟩) (xs.length + ys.length) (cap' + 1), w1.alloc (.cells (us1 ++ us ++ (Builtin.zeroCells z.cells (cap' + 1 - (xs.length + ys.length))).toList).toArray e'), setNth π i (.slice (some ⟨w.heap.size, 0, none⟩) (xs.length + ys.length) (cap' + 1)), by simp [q7],
                              tr_regrow (w' := w1.alloc (.cells (us1 ++ us ++ (Builtin.zeroCells z.cells (cap' + 1 - (xs.length + ys.length))).toList).toArray e')) m ho' hp0 rfl q4 q5 q6 (by rw [alloc_heap, q3]; simp) (fun c hc _ => hext c hc) hb' ?_, fun _ => .gs (nth_setNth_eq hp0)⟩
                            exact grow_new (P := P) hk2 q3 (hE1.append hE) (by simp) q1 q2 (by simp [zeroCells_len, hzl]) (catRd_ok hrd1 hrd2)
                          cases hrel with
                          | gnil =>
                            by_cases h0 : ys.length = 0
                            · have hy : ys = [] := List.eq_nil_of_length_eq_zero h0
                              subst hy
                              have hus : us = [] := by cases hE; rfl
                              subst hus
                              have := run_append_in (P := P) (w := w) (w' := w) (ty := ty) (rest := rest) ht ⟨_, ht2⟩ hi (A := A) (n := 0) (c := 0) (m := 0) (A2 := A2) (c2 := c2) (us := []) (by omega) (by rw [hsz]; exact hload w (Ext.refl w)) (by cases A <;> simp [storeCells])
                              refine ⟨.slice A 0 0, w, setNth π i (.slice A 0 0), by simp [this], tr_regrow m ho' hp0 rfl rfl rfl ⟨rfl, Nat.le_refl _⟩ (Nat.le_refl _) (fun _ _ _ => rfl) (by intro b e; cases A <;> cases e) ?_, fun _ => .gs (nth_setNth_eq hp0)⟩
                              simpa using RelO.gnil
                            · exact fresh [] rfl .nil (fun w' _ => by cases A <;> simp [Builtin.firstCells, loadCells, loadCellsFrom]) (by simp) (by omega)
                          | grow hb hz2 he hu hc2 hm2 ho2 hr2 =>
                            rename_i b o c us1 vs fz
                            have hl1 := he.length
                            by_cases hfit : xs.length + ys.length ≤ c + 1
                            · have hmul : (xs.length + ys.length) * re.size ≤ (c + 1) * re.size := Nat.mul_le_mul_right _ hfit
                              rw [Nat.add_mul] at hmul
                              obtain ⟨w', e1, e2, e3, e4, e5, e6, e7⟩ := setCells_heap (P := P) us w b (o + xs.length * re.size) 0 vs e' fz hb hz2 (by rw [hul]; omega) hE.flat
                              simp only [Nat.add_zero] at e2
                              have := run_append_in (P := P) (w := w) (w' := w') (ty := ty) (rest := rest) ht ⟨_, ht2⟩ hi (A := some ⟨b, o, none⟩) (n := xs.length) (c := c + 1) (m := ys.length) (A2 := A2) (c2 := c2) (us := us) hfit (by rw [hsz]; exact hload w (Ext.refl w)) (by simp only [addr_add, hsz]; exact e1)
                              have hb' : ∀ q, blk (.slice (some ⟨b, o, none⟩) (xs.length + ys.length) (c + 1)) = some q → blk (.slice (some ⟨b, o, none⟩) xs.length (c + 1)) = some q ∨ w.heap.size ≤ q := fun q e => .inl e
                              have hw : ∀ q, q < w.heap.size → blk (.slice (some ⟨b, o, none⟩) xs.length (c + 1)) ≠ some q → w'.heap[q]? = w.heap[q]? := fun q _ hq => e3 q (fun e => hq (by rw [e]; rfl))
                              have hk2 := regrow_keeps (X := X) (o' := .grow e' re.size (xs ++ ys) (catRd xs.length rd rd2)) ho' hp0 hw hb'
                              refine ⟨.slice (some ⟨b, o, none⟩) (xs.length + ys.length) (c + 1), w', setNth π i (.slice (some ⟨b, o, none⟩) (xs.length + ys.length) (c + 1)), by simp [this],
                                tr_regrow m ho' hp0 rfl e5 e6 e7 (by omega) hw hb' ?_, fun _ => .gs (nth_setNth_eq hp0)⟩
                              have := RelO.grow (π := setNth π i (.slice (some ⟨b, o, none⟩) (xs.length + ys.length) (c + 1))) (e := e') (o := o) (c := c) (rd := catRd xs.length rd rd2) e2 (by rw [setsL_length]; exact hz2) ((he.append hE).mono hk2) (fun q hq => ?_) (by rw [List.length_append]; exact hfit) hm2 (by rw [setsL_length]; exact ho2) (catRd_ok hr2 hrd2)
                              · rwa [List.length_append] at this
                              · rw [List.length_append] at hq
                                rw [setsL_get _ _ _ (by rw [hul]; omega)]
                                by_cases hq1 : q < us1.length
                                · rw [if_neg (by omega), List.getElem?_append_left hq1]
                                  exact hu q hq1
                                · rw [if_pos (by omega), List.getElem?_append_right (by omega)]
                                  congr 1
                                  omega
                            · refine fresh us1 rfl he (fun w' hw => ?_) hr2 hfit
                              have := run_loadRow (P := P) (w := w') (b := b) (o := o) (us := us1) (fun j hj => by
                                have h1 := (cell_of_heap (i := o + j) hb).trans (hu j hj)
                                rw [List.getElem?_eq_getElem hj] at h1 ⊢
                                exact hw.cell h1)
                              rw [hl1] at this
                              simpa [Builtin.firstCells] using this
                      · trivial
                    · trivial
                  · trivial
                · trivial
          · trivial
    · trivial

end Ab
