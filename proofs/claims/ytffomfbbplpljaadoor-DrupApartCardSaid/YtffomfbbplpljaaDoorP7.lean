/- A part of the proof: Ab52, K30, Ab34, Ab35. -/
import Derived.Test.YtffomfbbplpljaaDoorP6
import Derived.Below
import Derived.Shelf.SlSortCmp.NoneTotal
set_option linter.unusedVariables false
set_option linter.unusedSimpArgs false
set_option linter.unusedSectionVars false
namespace Ab
open Go Go.RowKit
variable [Draws]

/-- The same of a contract that leans on tables. -/
theorem below_acallT {P : Program} [Globals P] (hdr : ∀ w w' : World, dr w ≤ dr w') {f : FuncId} {az : List AV} {vs : List Value} {v : Value} (hfl : flat v = true) (haz : ∀ w ok π us, RelVs w ok π az us → us = vs) (eg : ∀ args w, (callFunc f args).run P w = .ok (.enter f args) w)
    (h : ∀ w, Globals.tb P w → Calls P f vs.toArray w fun e w' => e = .returned v ∧ Below w.heap.size w w') : ACall P f az [] (fun r o => r = .d (.v v)) := by
  intro X π w us g m hv
  obtain rfl := haz _ _ _ _ hv
  refine .inl ⟨eg _ _, (h w g.tb).mono ?_⟩
  rintro e w' ⟨rfl, b⟩
  have t := tr_plain m b.os b.tape ⟨b.output, hdr _ _⟩ b.size b.block
  exact ⟨v, _, [], π, rfl, rfl, t.mem, .d (.v hfl), t.hist⟩
end Ab
namespace Go.Proofs.YtffomfbbplpljaaDoor
open Go Ab Go.RowKit
set_option maxRecDepth 100000
set_option linter.unusedVariables false

theorem below_grow (w : World) (k : Nat) (os : Array Obj) : Below w.heap.size w (Go.Sort.grow (w.drewN k) os) := by
  refine ⟨rfl, rfl, rfl, by simp [Go.Sort.grow, World.drewN], fun b hb => ?_⟩
  show (w.heap ++ os)[b]? = _
  rw [Array.getElem?_append_left hb]
@[reducible] def tItoa (n : Int) : List UInt8 := Go.Lib.itoa n
@[reducible] def vTx (l : List UInt8) : AV := .d (.v (.string ⟨l.toArray⟩))
theorem FormatInt_call (n : Int) (h0 : -9223372036854775808 ≤ n) (h1 : n ≤ 9223372036854775807) : ACall Tryd.prog 49 [vI .i64 n, vI .i64 10] [] (fun r o => r = vTx (tItoa n)) :=
  below_acallT (fun _ _ => Nat.le_refl _) rfl (vs := [.int .i64 n, .int .i64 10]) (fun w ok π us h => by
    cases h with | cons h1 h => cases h with | cons h2 h => cases h with | nil =>
    cases h1 with | d h1 => cases h1 with | v _ => cases h2 with | d h2 => cases h2 with | v _ => rfl) (fun args w => callFunc_run Tryd.func49 rfl rfl args w) fun w ht => (Any.internal_strconv_FormatInt_10 Tryd.itoaL n h0 h1 w ht.2).mono fun e w' ⟨he, k, os, hw⟩ => ⟨he, hw ▸ below_grow w k os⟩
theorem iItoa_call (n : Int) (h0 : -9223372036854775808 ≤ n) (h1 : n ≤ 9223372036854775807) : ACall Tryd.prog 38 [vI .i64 n] [] (fun r o => r = vTx (tItoa n)) := by
  refine acall_enter Tryd.func38 rfl rfl (Nat.le_of_ble_eq_true rfl) fun C hC hCl hDs hGk => ?_
  refine sat_call tabOk Tryd.func38 rfl trivial (FormatInt_call n h0 h1) (.refl _) rfl ⟨_, rfl⟩ (by rintro r o rfl; rfl) ?_
  rintro _ o rfl
  exact sat_ret tabOk Tryd.func38 rfl trivial rfl
theorem Itoa_call (n : Int) (h0 : -9223372036854775808 ≤ n) (h1 : n ≤ 9223372036854775807) : ACall Tryd.prog 25 [vI .i64 n] [] (fun r o => r = vTx (tItoa n)) := by
  refine acall_enter Tryd.func25 rfl rfl (Nat.le_of_ble_eq_true rfl) fun C hC hCl hDs hGk => ?_
  refine sat_call tabOk Tryd.func25 rfl trivial (iItoa_call n h0 h1) (.refl _) rfl ⟨_, rfl⟩ (by rintro r o rfl; rfl) ?_
  rintro _ o rfl
  exact sat_ret tabOk Tryd.func25 rfl trivial rfl
end Go.Proofs.YtffomfbbplpljaaDoor
set_option linter.unusedSimpArgs false
set_option linter.unusedVariables false
set_option linter.unusedSectionVars false
namespace Ab
open Go Go.Shelf Go.RowKit Go.Lib Go.Sort Go.Proofs
variable [Draws]

section
variable {α : Type} [Inhabited α] {enc : α → Value}

theorem relE_enc {w : World} {ok : Nat → Prop} : ∀ {l : List α} {us : List Value}, RelE w ok 1 (l.map fun x => D.v (enc x)) us → us = l.map enc
  | [], us, h => by
    simp only [List.map_nil] at h
    cases h; rfl
  | x :: r, us, h => by
    simp only [List.map_cons] at h
    cases h with
    | cons h hl t =>
      cases h with
      | cons h hf t' =>
        cases t'
        cases h
        rw [relE_enc t]
        rfl
theorem enc_relE {w : World} {ok : Nat → Prop} (hfl : ∀ x, flat (enc x) = true) : ∀ (l : List α), RelE w ok 1 (l.map fun x => D.v (enc x)) (l.map enc)
  | [] => .nil
  | x :: r => by
    have := RelE.cons (s := 1) (x := D.v (enc x)) (us := [enc x]) (.cons (.v (hfl x)) (hfl x) .nil) rfl (enc_relE (w := w) (ok := ok) hfl r)
    simpa using this

theorem holds_row {w : World} {ok : Nat → Prop} {π : List Value} {e : TypeId} {l : List α} {rd : Nat → D} {b o n c : Nat} (h : RelO w ok π (.grow e 1 (l.map fun x => D.v (enc x)) rd) (.slice (some ⟨b, o, none⟩) n (c + 1))) :
    Holds enc w b o l.toArray ∧ n = l.length ∧ b < w.heap.size ∧ l.length ≤ c + 1 ∧ c + 1 ≤ maxLen := by
  have hlen : (l.map fun x => D.v (enc x)).length = l.length := by simp
  generalize hxs : (l.map fun x => D.v (enc x)) = xs at h hlen
  cases h with
  | grow hb hz he hu hc hm ho hr =>
    rename_i us vs fz
    subst hxs
    have := relE_enc he
    subst this
    refine ⟨fun j hj => ?_, by rw [hlen], (Array.getElem?_eq_some_iff.1 hb).1, by rw [hlen] at hc; exact hc, hm⟩
    have hj' : j < l.length := by simpa using hj
    have hg := hu j (by simpa using hj')
    constructor
    · rw [cell_of_heap hb, hg]
      simp [hj']
    · have hlt : o + j < vs.length := by
        have := (List.getElem?_eq_some_iff.1 (hg.trans (by simp [hj'] : (l.map enc)[j]? = some (enc l[j])))).1
        exact this
      have := hz (o + j) hlt
      simp only [World.frozen?, hb]
      simpa using this

theorem heap_sortWorld {w : World} {b o n : Nat} {d : Array α} {os : Array Obj} {vs : List Value} {e : TypeId} {fz : Nat × Nat} (hb : w.heap[b]? = some (.cells vs.toArray e fz)) :
    (sortWorld enc w b o n d os).heap[b]? = some (.cells (putCells enc o d vs.toArray) e fz) ∧ (∀ c, c < w.heap.size → c ≠ b → (sortWorld enc w b o n d os).heap[c]? = w.heap[c]?) ∧ w.heap.size ≤ (sortWorld enc w b o n d os).heap.size := by
  have hlt : b < w.heap.size := (Array.getElem?_eq_some_iff.1 hb).1
  have hh : (sortWorld enc w b o n d os).heap = w.heap.modify b (onCells (putCells enc o d)) ++ os := rfl
  rw [hh]
  refine ⟨?_, fun c hc hne => ?_, by simp⟩
  · rw [Array.getElem?_append_left (by simpa using hlt), Array.getElem?_modify, if_pos rfl, hb]
    rfl
  · rw [Array.getElem?_append_left (by simpa using hc), Array.getElem?_modify, if_neg (fun e => hne e.symm)]

/-- A row is written, cut and perhaps other blocks are laid. -/
theorem row_tr {X : Nat → Prop} {w : World} {e : TypeId} {l L : List α} {rd rd' : Nat → D} {b o n c k q : Nat} {os : Array Obj} (hfl : ∀ x, flat (enc x) = true)
    (m : Mem X [.slice (some ⟨b, o, none⟩) n (c + 1)] [some (.grow e 1 (l.map fun x => D.v (enc x)) rd)] w) (hL : L.length = l.length) (hk : k ≤ L.length) (hrd : ∀ i, i < k → ((L.take k).map fun x => D.v (enc x))[i]? = some (rd' i)) :
    Tr X [.slice (some ⟨b, o, none⟩) n (c + 1)] [some (.grow e 1 (l.map fun x => D.v (enc x)) rd)] w (some 0) [.slice (some ⟨b, o, none⟩) k (c + 1)] [some (.grow e 1 ((L.take k).map fun x => D.v (enc x)) rd')] (sortWorld enc w b o q L.toArray os) := by
  obtain ⟨h, hp, hrel⟩ := m.obj 0 _ rfl
  cases hp
  have hlen : (l.map fun x => D.v (enc x)).length = l.length := by simp
  have hrel' := hrel
  generalize hxs : (l.map fun x => D.v (enc x)) = xs at hrel' hlen
  cases hrel' with
  | grow hb hz he hu hc hm ho hr =>
    rename_i us vs fz
    subst hxs
    have := relE_enc he
    subst this
    obtain ⟨g1, g2, g3⟩ := heap_sortWorld (enc := enc) (o := o) (n := q) (d := L.toArray) (os := os) hb
    have := tr_regrow (w' := sortWorld enc w b o q L.toArray os) (i := 0) (h' := .slice (some ⟨b, o, none⟩) k (c + 1)) (o' := .grow e 1 ((L.take k).map fun x => D.v (enc x)) rd') m rfl rfl rfl rfl rfl ⟨rfl, dr_mono (Nat.le_add_right _ _)⟩ g3
      (fun c' hc' hne => g2 c' hc' (fun e' => hne (by subst e'; rfl))) (fun b' hb' => .inl (by cases hb'; rfl)) ?_
    · exact this
    · have hkl : ((L.take k).map fun x => D.v (enc x)).length = k := by simp; omega
      have hcells : putCells enc o L.toArray vs.toArray = ((putCells enc o L.toArray vs.toArray).toList).toArray := by simp
      have hvl : ((putCells enc o L.toArray vs.toArray).toList).length = vs.length := by simp [putCells]
      have := RelO.grow (w := sortWorld enc w b o q L.toArray os) (ok := okOf X (setNth [.slice (some ⟨b, o, none⟩) l.length (c + 1)] 0 (.slice (some ⟨b, o, none⟩) k (c + 1))) (setNth (dropO 0 [some (.grow e 1 (l.map fun x => D.v (enc x)) rd)]) 0 (some (.grow e 1 ((L.take k).map fun x => D.v (enc x)) rd'))))
        (π := setNth [.slice (some ⟨b, o, none⟩) l.length (c + 1)] 0 (.slice (some ⟨b, o, none⟩) k (c + 1))) (e := e) (s := 1) (b := b) (o := o) (c := c) (xs := (L.take k).map fun x => D.v (enc x)) (us := (L.take k).map enc) (vs := (putCells enc o L.toArray vs.toArray).toList) (rd := rd') (fz := fz)
        (by rw [← hcells]; exact g1) (by rw [hvl]; exact hz) (enc_relE hfl _) ?_ (by rw [hkl]; omega) hm (by rw [hvl]; exact ho) (by rw [hkl]; exact hrd)
      · rw [hkl] at this
        rw [hlen]
        exact this
      · intro i hi
        have hik : i < k := by simp at hi; omega
        have hiL : i < L.length := by omega
        have hlt : o + i < vs.length := by omega
        simp only [putCells, Array.toList_mapIdx, List.getElem?_mapIdx]
        rw [List.getElem?_eq_getElem (by simpa using hlt)]
        simp [hik, hiL, List.getElem?_take]
end

theorem row_set {α : Type} [Inhabited α] {enc : α → Value} {X : Nat → Prop} {w : World} {π : List Value} {objs : List (Option AObj)} {e : TypeId} {l L : List α} {rd rd' : Nat → D} {i b o n c q : Nat} {os : Array Obj} (hfl : ∀ x, flat (enc x) = true)
    (m : Mem X π objs w) (hobj : nth objs i = some (some (.grow e 1 (l.map fun x => D.v (enc x)) rd))) (hp : nth π i = some (.slice (some ⟨b, o, none⟩) n (c + 1))) (hL : L.length = l.length) (hrd : ∀ i, i < L.length → (L.map fun x => D.v (enc x))[i]? = some (rd' i)) :
    Tr X π objs w none π (setNth objs i (some (.grow e 1 (L.map fun x => D.v (enc x)) rd'))) (sortWorld enc w b o q L.toArray os) := by
  obtain ⟨h, hp', hrel⟩ := m.obj i _ hobj
  rw [hp] at hp'
  cases hp'
  have hlen : (l.map fun x => D.v (enc x)).length = l.length := by simp
  have hrel' := hrel
  generalize hxs : (l.map fun x => D.v (enc x)) = xs at hrel' hlen
  cases hrel' with
  | grow hb hz he hu hc hm ho hr =>
    rename_i us vs fz
    subst hxs
    have := relE_enc he
    subst this
    obtain ⟨g1, g2, g3⟩ := heap_sortWorld (enc := enc) (o := o) (n := q) (d := L.toArray) (os := #[]) hb
    have hk1 : ∀ c', c' ≠ b → (sortWorld enc w b o q L.toArray #[]).heap[c']? = w.heap[c']? := by
      intro c' hne
      have hh : (sortWorld enc w b o q L.toArray #[]).heap = w.heap.modify b (onCells (putCells enc o L.toArray)) := by simp [sortWorld, Sort.grow, putRow, mapBlock, Sort.ahead]
      rw [hh, Array.getElem?_modify, if_neg (fun e => hne e.symm)]
    have hsz : (sortWorld enc w b o q L.toArray #[]).heap.size = w.heap.size := by simp [sortWorld, Sort.grow, putRow, mapBlock, Sort.ahead]
    have t1 := tr_set (w' := sortWorld enc w b o q L.toArray #[]) (o' := .grow e 1 (L.map fun x => D.v (enc x)) rd') m hobj hp (b := b) rfl rfl rfl ⟨rfl, dr_mono (Nat.le_add_right _ _)⟩ hsz hk1 ?_
    · have t2 := tr_plain (w' := sortWorld enc w b o q L.toArray os) t1.mem rfl rfl ⟨rfl, dr_mono (Nat.le_refl _)⟩ (by simp [sortWorld, Sort.grow]) (by
        intro c' hc'
        have e1 : (sortWorld enc w b o q L.toArray os).heap = (sortWorld enc w b o q L.toArray #[]).heap ++ os := by simp [sortWorld, Sort.grow]
        rw [e1, Array.getElem?_append_left hc'])
      exact ⟨t2.mem, fun a v h => t2.keep _ _ (t1.keep _ _ h), t1.hist.trans t2.hist⟩
    · have hkl : (L.map fun x => D.v (enc x)).length = l.length := by simp [hL]
      have hcells : putCells enc o L.toArray vs.toArray = ((putCells enc o L.toArray vs.toArray).toList).toArray := by simp
      have hvl : ((putCells enc o L.toArray vs.toArray).toList).length = vs.length := by simp [putCells]
      have := RelO.grow (w := sortWorld enc w b o q L.toArray #[]) (ok := okOf X π (setNth objs i (some (.grow e 1 (L.map fun x => D.v (enc x)) rd')))) (π := π) (e := e) (s := 1) (b := b) (o := o) (c := c) (xs := L.map fun x => D.v (enc x)) (us := L.map enc) (vs := (putCells enc o L.toArray vs.toArray).toList) (rd := rd') (fz := fz)
        (by rw [← hcells]; exact g1) (by rw [hvl]; exact hz) (enc_relE hfl _) ?_ (by rw [hkl]; omega) hm (by rw [hvl]; exact ho) (by rw [List.length_map]; exact hrd)
      · rw [hkl] at this
        rw [hlen]
        exact this
      · intro i hi
        have hiL : i < L.length := by simpa using hi
        have hlt : o + i < vs.length := by omega
        simp only [putCells, Array.toList_mapIdx, List.getElem?_mapIdx]
        rw [List.getElem?_eq_getElem (by simpa using hlt)]
        simp [hiL]

/-! ### Functions that are called in whatever world -/
theorem mem0 (w : World) : Mem (fun _ => False) [] [] w := ⟨rfl, fun i o h => by simp [nth] at h, fun i j o o' h h' b _ h1 => by simp [nth] at h1, fun i o h b h1 => by simp [nth] at h1, fun b h => h.elim⟩

omit [Draws] in
theorem world_grow {W w' : World} (h : @Hist Draws.all [] [] W [] [] w' ∨ ∃ π o, @Hist Draws.all [] [] W π o w') : ∃ q os', w' = Sort.grow (W.drewN q) os' := by
  letI : Draws := Draws.all
  have key : ∀ {π o}, @Hist Draws.all [] [] W π o w' → ∃ q os', w' = Sort.grow (W.drewN q) os' := by
    intro π o h
    refine ⟨w'.drawn - W.drawn, w'.heap.extract W.heap.size w'.heap.size, ?_⟩
    have e1 : w'.heap = W.heap ++ w'.heap.extract W.heap.size w'.heap.size := by
      apply Array.ext_getElem?
      intro i
      rcases Nat.lt_or_ge i W.heap.size with hi | hi
      · rw [Array.getElem?_append_left hi]
        exact h.heap i hi (fun i o k h1 => by simp [nth] at h1)
      · rw [Array.getElem?_append_right hi, Array.getElem?_extract]
        have hs := h.size
        split
        · congr 1; omega
        · rename_i hlt
          rw [Array.getElem?_eq_none]
          omega
    obtain ⟨heap, tape, drawn, os, output⟩ := w'
    have ho := h.os; have ht := h.tape; have hu := h.output.1; have hd : W.drawn ≤ drawn := h.output.2
    simp only at ho ht hu hd e1
    unfold Sort.grow World.drewN
    simp only [World.mk.injEq]
    exact ⟨e1, ht, by omega, ho, hu⟩
  rcases h with h | ⟨π, o, h⟩
  · exact key h
  · exact key h

omit [Draws] in
theorem cmp_lays {P : Program} [Globals P] {α : Type} [Inhabited α] {enc : α → Value} (hfl : ∀ x, flat (enc x) = true) {cf : α → α → Int} {g : Nat} (eg : ∀ args w, (callFunc g args).run P w = .ok (.enter g args) w)
    (hc : ∀ x y, @ACall Draws.all P _ g [.d (.v (enc x)), .d (.v (enc y))] [] (fun r o => r = vI .i64 (cf x y))) (blk off size : Nat) (w : World) (ht : ∀ m os dk, Globals.tb P (sortWorld enc w blk off m dk os)) : CmpLays1 P g #[] enc cf blk off size w := by
  letI : Draws := Draws.all
  intro m os dk hs x y
  have h := hc x y _ [] (sortWorld enc w blk off m dk os) [enc x, enc y] ⟨ht m os dk, fun i o h b h1 => by simp [nth] at h1⟩ (mem0 _) (.cons (.d (.v (hfl x))) (.cons (.d (.v (hfl y))) .nil))
  rcases h with ⟨_, h⟩ | ⟨v, w', h, _⟩
  · refine Calls.mono h ?_
    rintro e w' ⟨v, r, o, π', rfl, rfl, _, hrel, hh⟩
    refine ⟨?_, world_grow (.inr ⟨_, _, hh⟩)⟩
    cases hrel with | d hrel => cases hrel; rfl
  · rw [eg] at h
    cases h

theorem sortFunc_acall {P : Program} [Globals P] {ρ : Ren} (L : SlLaysF.n6 P ρ) {α : Type} [Inhabited α] {enc : α → Value} (h1 : OneCell enc) (hfl : ∀ x, flat (enc x) = true) {cf : α → α → Int} (hO : SWO (ltOf cf)) (hT : ∀ x y, (ltOf cf) x y = false → (ltOf cf) y x = false → x = y) {g : Nat}
    (eg : ∀ args w, (callFunc g args).run P w = .ok (.enter g args) w) (es : ∀ args w, (callFunc (ρ.f 6) args).run P w = .ok (.enter (ρ.f 6) args) w) (hc : ∀ x y, @ACall Draws.all P _ g [.d (.v (enc x)), .d (.v (enc y))] [] (fun r o => r = vI .i64 (cf x y)))
    (e : TypeId) (l : List α) (rd : Nat → D) (hl : l.length < 4611686018427387904)
    (hv0 : Value) : ACall P (ρ.f 6) [.gs 0, .d (.v (.func (.func g) #[] #[]))] [some (.grow e 1 (l.map fun x => D.v (enc x)) rd), some (.hold (.gs 0) hv0)]
      (fun r o => r = .tp [] ∧ o = [some (.grow e 1 ((l.mergeSort fun x y => !(ltOf cf) y x).map fun x => D.v (enc x)) (fun i => D.v (enc ((l.mergeSort fun x y => !(ltOf cf) y x).getD i default)))), some (.hold (.gs 0) hv0)]) := by
  intro X π w vs hgk m hv
  refine .inl ⟨es _ _, ?_⟩
  cases hv with
  | cons hv ht =>
    cases ht with
    | cons hg ht =>
      cases ht
      cases hg with | d hg => cases hg with | v _ =>
      obtain ⟨h, hp, hrel⟩ := m.obj 0 _ rfl
      cases hv with
      | gs hh =>
        rw [hp] at hh
        cases hh
        rename_i n c A
        by_cases hgn : ∃ b o c', A = some ⟨b, o, none⟩ ∧ c = c' + 1
        · obtain ⟨b, o, c', rfl, rfl⟩ := hgn
          obtain ⟨q1, q2, q3, q4, q5⟩ := holds_row hrel
          subst q2
          have htb : ∀ m os dk, Globals.tb P (sortWorld enc w b o m dk os) := fun m' os dk => by
            refine Globals.keep w _ hgk.tb fun b' hb' => ?_
            have hne : b ≠ b' := fun e' => hgk.fr 0 _ _ b rfl hp rfl (e' ▸ hb')
            have hlt := Globals.lt w b' hgk.tb hb'
            have hh : (sortWorld enc w b o m' dk os).heap = w.heap.modify b (onCells (putCells enc o dk)) ++ os := rfl
            rw [hh, Array.getElem?_append_left (by simpa using hlt), Array.getElem?_modify, if_neg hne]
          have hcall := Any.slices_SortFunc_total L enc h1 cf hO g #[] b o (c' + 1) l.toArray w eg (cmp_lays hfl eg hc b o l.toArray.size w htb) q1 q3 (by simpa using hl) hT
          simp only [List.size_toArray] at hcall
          refine Calls.mono hcall ?_
          rintro e' w' ⟨rfl, n, os, rfl⟩
          have hsl : (l.mergeSort fun x y => !(ltOf cf) y x).length = l.length := List.length_mergeSort _
          have htr := row_set (q := n) (os := os) (L := l.mergeSort fun x y => !(ltOf cf) y x) (rd' := fun i => D.v (enc ((l.mergeSort fun x y => !(ltOf cf) y x).getD i default))) hfl m (i := 0) rfl hp hsl (by
            intro i hi
            exact map_rd (fun x => D.v (enc x)) default _ i (by rw [List.length_map]; exact hi))
          exact ⟨_, .tp [], _, _, rfl, ⟨rfl, rfl⟩, htr.mem, .tp .nil, htr.hist⟩
        · have hnil : l = [] ∧ n = 0 ∧ c = 0 := by
            generalize hxs : (l.map fun x => D.v (enc x)) = xs at hrel
            cases hrel with
            | gnil => exact ⟨List.map_eq_nil_iff.1 hxs, rfl, rfl⟩
            | grow _ _ _ _ _ _ _ _ => exact absurd ⟨_, _, _, rfl, rfl⟩ hgn
          obtain ⟨rfl, rfl, rfl⟩ := hnil
          refine Calls.mono (AnyF.slices_SortFunc_none { L with } A 0 (.func (.func g) #[] #[]) w) ?_
          rintro e' w' ⟨rfl, rfl⟩
          have hme : (([] : List α).mergeSort fun x y => !(ltOf cf) y x) = [] := List.mergeSort_nil
          have hle : subO [some (.grow e 1 ((([] : List α).mergeSort fun x y => !(ltOf cf) y x).map fun x => D.v (enc x)) (fun i => D.v (enc ((([] : List α).mergeSort fun x y => !(ltOf cf) y x).getD i default)))), some (.hold (.gs 0) hv0)] [some (.grow e 1 (([] : List α).map fun x => D.v (enc x)) rd), some (.hold (.gs 0) hv0)] :=
            ⟨.grow (by rw [hme]) (by intro i hi; rw [hme] at hi; simp at hi), .refl _, trivial⟩
          obtain ⟨m1, m2, m3⟩ := mem_le m hle rfl
          have hπ : π.length = 2 := m.len
          refine ⟨_, .tp [], _, _, rfl, ⟨rfl, rfl⟩, m1, .tp .nil, m3 (.refl _ _ _) (by simp [hπ])⟩
end Ab
set_option linter.unusedSimpArgs false
set_option linter.unusedVariables false
set_option linter.unusedSectionVars false
namespace Ab
open Go
variable [Draws]

section
variable {P : Program} [Globals P] {T : Tab} {f : FuncId} {fn : Func} {n : Nat} {C : Cx} {R R1 : AV → List (Option AObj) → Prop} {todo todo' : List Item} {env env' : Env} {objs objs' : List (Option AObj)} {nd : Prop}

theorem sat_isnil {ops : Array Oper} {i : Nat} {r : List Nat} {k : List Item} {o : Oper} {e1 e2 : Env} {t ty e : TypeId} {xo : Operand} {rr : TRow} {s : Nat} {xs : List D} {rd : Nat → D} (hT : TabOk P T)
    (ho : ops[i]? = some o) (hw : wantE ops env o = .yes) (hop : o.op = .binOp .eql t xo (.const (.slice none 0 0)) ty) (hx : opnd env xo = some (.d (.sl s xs rd))) (h1 : tlook T t = some rr) (h2 : rr.kd = .slice e)
    (hput1 : putE n o.dst (.lit true) env = some e1) (hput2 : putE n o.dst (.lit false) env = some e2)
    (k1 : xs = [] → ASat P f n C (.inRegion ops r :: k) e1 objs R) (k2 : ASat P f n C (.inRegion ops r :: k) e2 objs R) : ASat P f n C (.inRegion ops (i :: r) :: k) env objs R := by
  intro π w tmps hn hm hh he
  have hv := opnd_rel (ds := []) he hx
  have ht : P.underlying t = some (.slice e) := by
    have := kdTy_of hT h1
    rwa [h2] at this
  have hrun : ∀ {v : Value} {b : Bool}, Act.eval ⟨tmps, []⟩ xo = v → (∀ cs, v ≠ .agg cs) → nonArith v → (Op.equal t v (.slice none 0 0)).run P w = .ok b w → (execOp (Act.eval ⟨tmps, []⟩) o).run P w = .ok (.value (.bool b)) w := by
    intro v b h3 h4 h5 h6
    unfold execOp
    simp only [hop, h3]
    have hg := guard_nil (P := P) (op := .eql) (t := t) (xo := xo) (yo := .const (.slice none 0 0)) (a := v) (b := .slice none 0 0) (by simp [isC]) h4 w
    have h7 : Act.eval ⟨tmps, []⟩ (.const (.slice none 0 0)) = .slice none 0 0 := rfl
    rw [h7]
    simp only [Sem.run_bind, hg, Result.andThen_ok, binOp_eql h5, h6, Sem.run_pure]
  generalize hev : Act.eval ⟨tmps, []⟩ xo = v at hv
  cases hv with
  | d hv =>
    cases hv with
    | nil hb =>
      rename_i c A
      cases A with
      | none =>
        obtain ⟨p1, p2⟩ := put_rel he hn hput1 (.lit (w := w) (ok := okOf C.X π objs) (π := π))
        refine .opVal ho ((wanted_of he).1 hw) (hrun hev (by simp) trivial (run_equal_of fun d => ?_)) (k1 rfl π w _ p2 hm hh p1)
        simp [Op.equalIn, run_underlying ht]
      | some a =>
        obtain ⟨p1, p2⟩ := put_rel he hn hput2 (.lit (w := w) (ok := okOf C.X π objs) (π := π))
        refine .opVal ho ((wanted_of he).1 hw) (hrun hev (by simp) trivial (run_equal_of fun d => ?_)) (k2 π w _ p2 hm hh p1)
        simp [Op.equalIn, run_underlying ht]
    | sl a1 a2 a3 a4 a5 =>
      obtain ⟨p1, p2⟩ := put_rel he hn hput2 (.lit (w := w) (ok := okOf C.X π objs) (π := π))
      refine .opVal ho ((wanted_of he).1 hw) (hrun hev (by simp) trivial (run_equal_of fun d => ?_)) (k2 π w _ p2 hm hh p1)
      simp [Op.equalIn, run_underlying ht]

/-! ### A slice's header is kept -/
theorem sat_hold (t i : Nat) (hl : look env t = some (.gs i)) (k : ∀ v, flat v = true → ASat P f n C todo ((t, .d (.v v)) :: env) (objs ++ [some (.hold (.gs i) v)]) R) : ASat P f n C todo env objs R := by
  intro π w tmps hn hm hh he
  have hv := he t _ hl
  have hfl : flat (tmps.getD t undef) = true := by
    revert hv
    generalize tmps.getD t undef = v
    intro hv
    cases hv
    rfl
  have htr : Tr C.X π objs w none (π ++ [.tuple #[]]) (objs ++ [some (.hold (.gs i) (tmps.getD t undef))]) w :=
    tr_newW hm rfl rfl ⟨rfl, dr_mono (Nat.le_refl _)⟩ (Nat.le_refl _) (fun _ _ => rfl) _ _ (by intro b e; cases e)
      (.hold (hv.mono (new_keepsW (fun _ _ => rfl) _ _ hm.len (by intro b e; cases e)) (new_hand _)))
  refine k _ hfl _ w tmps hn htr.mem (hist_tr hh htr) fun u c hu => ?_
  simp only [look] at hu
  split at hu
  · rename_i e
    have e' : t = u := by simpa using e
    cases hu
    subst e'
    exact .d (.v hfl)
  · exact env_tr he htr u c hu
theorem sat_unhold (t m : Nat) {a : AV} {v : Value} (hl : look env t = some (.d (.v v))) (ho : nth objs m = some (some (.hold a v))) (k : ASat P f n C todo ((t, a) :: env) objs R) : ASat P f n C todo env objs R := by
  intro π w tmps hn hm hh he
  obtain ⟨h, hp, hrel⟩ := hm.obj m _ ho
  refine k _ w tmps hn hm hh fun u c hu => ?_
  simp only [look] at hu
  split at hu
  · rename_i e
    have e' : t = u := by simpa using e
    cases hu
    subst e'
    have hv := he t _ hl
    revert hv
    generalize tmps.getD t undef = x
    intro hv
    cases hv with | d hv => cases hv with | v _ => cases hrel with | hold h => exact h
  · exact he u c hu
end
end Ab
