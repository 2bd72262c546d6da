/- A part of the proof. -/
import Derived.Test.YtkemmijjpclckaaGreatDoorP12
import Derived.Shelf.SlSortCmp.NoneTotal
import Derived.Shelf.SlicesE.Delete
set_option linter.unusedVariables false
set_option linter.unusedSimpArgs false
set_option linter.unusedSectionVars false
set_option maxRecDepth 100000
set_option maxHeartbeats 8000000
namespace Ab
open Go Go.Shelf Go.RowKit Go.Lib Go.Sort Go.Proofs
variable [Draws]
section
variable {α : Type} [Inhabited α] {enc : α → Value}
theorem z86 {w : World} {ok : Nat → Prop} {π : List Value} {e : TypeId} {l : List α} {rd : Nat → D} {b o n c : Nat} (h : RelO w ok π (.grow e 1 (l.map fun x => D.v (enc x)) rd) (.slice (some ⟨b, o, none⟩) n (c + 1))) :
  Holds enc w b o l.toArray ∧ n = l.length ∧ b < w.heap.size ∧ l.length ≤ c + 1 ∧ c + 1 ≤ maxLen := by
 have hlen : (l.map fun x => D.v (enc x)).length = l.length := by simp
 generalize hxs : (l.map fun x => D.v (enc x)) = xs at h hlen
 cases h with
 | grow hb hz he hu hc hm ho hr =>
  rename_i us vs fz
  subst hxs
  have := z6h he
  subst this
  refine ⟨fun j hj => ?_, by rw [hlen], (Array.getElem?_eq_some_iff.1 hb).1, by rw [hlen] at hc; exact hc, hm⟩
  have hj' : j < l.length := by simpa using hj
  have hg := hu j (by simpa using hj')
  constructor
  ·rw [z12 hb, hg]
   simp [hj']
  ·have hlt : o + j < vs.length := by
    have := (List.getElem?_eq_some_iff.1 (hg.trans (by simp [hj'] : (l.map enc)[j]? = some (enc l[j])))).1
    exact this
   have := hz (o + j) hlt
   simp only [World.frozen?, hb]
   simpa using this
theorem z71 {w : World} {b o n : Nat} {d : Array α} {os : Array Obj} {vs : List Value} {e : TypeId} {fz : Nat × Nat} (hb : w.heap[b]? = some (.cells vs.toArray e fz)) :
  (sortWorld enc w b o n d os).heap[b]? = some (.cells (putCells enc o d vs.toArray) e fz) ∧ (∀ c, c < w.heap.size → c ≠ b → (sortWorld enc w b o n d os).heap[c]? = w.heap[c]?) ∧ w.heap.size ≤ (sortWorld enc w b o n d os).heap.size := by
 have hlt : b < w.heap.size := (Array.getElem?_eq_some_iff.1 hb).1
 have hh : (sortWorld enc w b o n d os).heap = w.heap.modify b (onCells (putCells enc o d)) ++ os := rfl
 rw [hh]
 refine ⟨?_, fun c hc hne => ?_, by simp⟩
 ·rw [Array.getElem?_append_left (by simpa using hlt), Array.getElem?_modify, if_pos rfl, hb]
  rfl
 ·rw [Array.getElem?_append_left (by simpa using hc), Array.getElem?_modify, if_neg (fun e => hne e.symm)]
theorem zll {X : Nat → Prop} {w : World} {e : TypeId} {l L : List α} {rd rd' : Nat → D} {b o n c k q : Nat} {os : Array Obj} (hfl : ∀ x, flat (enc x) = true)
  (m : Mem X [.slice (some ⟨b, o, none⟩) n (c + 1)] [some (.grow e 1 (l.map fun x => D.v (enc x)) rd)] w) (hL : L.length = l.length) (hk : k ≤ L.length) (hrd : ∀ i, i < k → ((L.take k).map fun x => D.v (enc x))[i]? = some (rd' i)) :
  Tr X [.slice (some ⟨b, o, none⟩) n (c + 1)] [some (.grow e 1 (l.map fun x => D.v (enc x)) rd)] w (some 0) [.slice (some ⟨b, o, none⟩) k (c + 1)] [some (.grow e 1 ((L.take k).map fun x => D.v (enc x)) rd')] (sortWorld enc w b o q L.toArray os) := by
 obtain ⟨h, hp, hrel⟩ := m.obj 0 _ rfl
 cases hp
 have hlen : (l.map fun x => D.v (enc x)).length = l.length := by simp
 have hrel' := hrel
 generalize hxs : (l.map fun x => D.v (enc x)) = xs at hrel' hlen
 cases hrel' with
 | grow hb hz he hu hc hm ho hr =>
  rename_i us vs fz
  subst hxs
  have := z6h he
  subst this
  obtain ⟨g1, g2, g3⟩ := z71 (enc := enc) (o := o) (n := q) (d := L.toArray) (os := os) hb
  have := z49 (w' := sortWorld enc w b o q L.toArray os) (i := 0) (h' := .slice (some ⟨b, o, none⟩) k (c + 1)) (o' := .grow e 1 ((L.take k).map fun x => D.v (enc x)) rd') m rfl rfl rfl rfl rfl ⟨rfl, zv (Nat.le_add_right _ _)⟩ g3
   (fun c' hc' hne => g2 c' hc' (fun e' => hne (by subst e'; rfl))) (fun b' hb' => .inl (by cases hb'; rfl)) ?_
  ·exact this
  ·have hkl : ((L.take k).map fun x => D.v (enc x)).length = k := by simp; omega
   have hcells : putCells enc o L.toArray vs.toArray = ((putCells enc o L.toArray vs.toArray).toList).toArray := by simp
   have hvl : ((putCells enc o L.toArray vs.toArray).toList).length = vs.length := by simp [putCells]
   have := RelO.grow (w := sortWorld enc w b o q L.toArray os) (ok := okOf X (zi [.slice (some ⟨b, o, none⟩) l.length (c + 1)] 0 (.slice (some ⟨b, o, none⟩) k (c + 1))) (zi (dropO 0 [some (.grow e 1 (l.map fun x => D.v (enc x)) rd)]) 0 (some (.grow e 1 ((L.take k).map fun x => D.v (enc x)) rd'))))
    (π := zi [.slice (some ⟨b, o, none⟩) l.length (c + 1)] 0 (.slice (some ⟨b, o, none⟩) k (c + 1))) (e := e) (s := 1) (b := b) (o := o) (c := c) (xs := (L.take k).map fun x => D.v (enc x)) (us := (L.take k).map enc) (vs := (putCells enc o L.toArray vs.toArray).toList) (rd := rd') (fz := fz)
    (by rw [← hcells]; exact g1) (by rw [hvl]; exact hz) (za1 hfl _) ?_ (by rw [hkl]; omega) hm (by rw [hvl]; exact ho) (by rw [hkl]; exact hrd)
   ·rw [hkl] at this
    rw [hlen]
    exact this
   ·intro i hi
    have hik : i < k := by simp at hi; omega
    have hiL : i < L.length := by omega
    have hlt : o + i < vs.length := by omega
    simp only [putCells, Array.toList_mapIdx, List.getElem?_mapIdx]
    rw [List.getElem?_eq_getElem (by simpa using hlt)]
    simp [hik, hiL, List.getElem?_take]
end
theorem zq3 {α : Type} [Inhabited α] {enc : α → Value} {X : Nat → Prop} {w : World} {π : List Value} {objs : List (Option AObj)} {e : TypeId} {l L : List α} {rd rd' : Nat → D} {i b o n c q : Nat} {os : Array Obj} (hfl : ∀ x, flat (enc x) = true)
  (m : Mem X π objs w) (hobj : nth objs i = some (some (.grow e 1 (l.map fun x => D.v (enc x)) rd))) (hp : nth π i = some (.slice (some ⟨b, o, none⟩) n (c + 1))) (hL : L.length = l.length) (hrd : ∀ i, i < L.length → (L.map fun x => D.v (enc x))[i]? = some (rd' i)) :
  Tr X π objs w none π (zi objs i (some (.grow e 1 (L.map fun x => D.v (enc x)) rd'))) (sortWorld enc w b o q L.toArray os) := by
 obtain ⟨h, hp', hrel⟩ := m.obj i _ hobj
 rw [hp] at hp'
 cases hp'
 have hlen : (l.map fun x => D.v (enc x)).length = l.length := by simp
 have hrel' := hrel
 generalize hxs : (l.map fun x => D.v (enc x)) = xs at hrel' hlen
 cases hrel' with
 | grow hb hz he hu hc hm ho hr =>
  rename_i us vs fz
  subst hxs
  have := z6h he
  subst this
  obtain ⟨g1, g2, g3⟩ := z71 (enc := enc) (o := o) (n := q) (d := L.toArray) (os := #[]) hb
  have hk1 : ∀ c', c' ≠ b → (sortWorld enc w b o q L.toArray #[]).heap[c']? = w.heap[c']? := by
   intro c' hne
   have hh : (sortWorld enc w b o q L.toArray #[]).heap = w.heap.modify b (onCells (putCells enc o L.toArray)) := by simp [sortWorld, Sort.grow, putRow, mapBlock, Sort.ahead]
   rw [hh, Array.getElem?_modify, if_neg (fun e => hne e.symm)]
  have hsz : (sortWorld enc w b o q L.toArray #[]).heap.size = w.heap.size := by simp [sortWorld, Sort.grow, putRow, mapBlock, Sort.ahead]
  have t1 := z97 (w' := sortWorld enc w b o q L.toArray #[]) (o' := .grow e 1 (L.map fun x => D.v (enc x)) rd') m hobj hp (b := b) rfl rfl rfl ⟨rfl, zv (Nat.le_add_right _ _)⟩ hsz hk1 ?_
  ·have t2 := z2l (w' := sortWorld enc w b o q L.toArray os) t1.mem rfl rfl ⟨rfl, zv (Nat.le_refl _)⟩ (by simp [sortWorld, Sort.grow]) (by
    intro c' hc'
    have e1 : (sortWorld enc w b o q L.toArray os).heap = (sortWorld enc w b o q L.toArray #[]).heap ++ os := by simp [sortWorld, Sort.grow]
    rw [e1, Array.getElem?_append_left hc'])
   exact ⟨t2.mem, fun a v h => t2.keep _ _ (t1.keep _ _ h), t1.hist.trans t2.hist⟩
  ·have hkl : (L.map fun x => D.v (enc x)).length = l.length := by simp [hL]
   have hcells : putCells enc o L.toArray vs.toArray = ((putCells enc o L.toArray vs.toArray).toList).toArray := by simp
   have hvl : ((putCells enc o L.toArray vs.toArray).toList).length = vs.length := by simp [putCells]
   have := RelO.grow (w := sortWorld enc w b o q L.toArray #[]) (ok := okOf X π (zi objs i (some (.grow e 1 (L.map fun x => D.v (enc x)) rd')))) (π := π) (e := e) (s := 1) (b := b) (o := o) (c := c) (xs := L.map fun x => D.v (enc x)) (us := L.map enc) (vs := (putCells enc o L.toArray vs.toArray).toList) (rd := rd') (fz := fz)
    (by rw [← hcells]; exact g1) (by rw [hvl]; exact hz) (za1 hfl _) ?_ (by rw [hkl]; omega) hm (by rw [hvl]; exact ho) (by rw [List.length_map]; exact hrd)
   ·rw [hkl] at this
    rw [hlen]
    exact this
   ·intro i hi
    have hiL : i < L.length := by simpa using hi
    have hlt : o + i < vs.length := by omega
    simp only [putCells, Array.toList_mapIdx, List.getElem?_mapIdx]
    rw [List.getElem?_eq_getElem (by simpa using hlt)]
    simp [hiL]
theorem mem0 (w : World) : Mem (fun _ => False) [] [] w := ⟨rfl, fun i o h => by simp [nth] at h, fun i j o o' h h' b _ h1 => by simp [nth] at h1, fun i o h b h1 => by simp [nth] at h1, fun b h => h.elim⟩
omit [Draws] in
theorem zjb {W w' : World} (h : @Hist Draws.all [] [] W [] [] w' ∨ ∃ π o, @Hist Draws.all [] [] W π o w') : ∃ q os', w' = Sort.grow (W.drewN q) os' := by
 letI : Draws := Draws.all
 have key : ∀ {π o}, @Hist Draws.all [] [] W π o w' → ∃ q os', w' = Sort.grow (W.drewN q) os' := by
  intro π o h
  refine ⟨w'.drawn - W.drawn, w'.heap.extract W.heap.size w'.heap.size, ?_⟩
  have e1 : w'.heap = W.heap ++ w'.heap.extract W.heap.size w'.heap.size := by
   apply Array.ext_getElem?
   intro i
   rcases Nat.lt_or_ge i W.heap.size with hi | hi
   ·rw [Array.getElem?_append_left hi]
    exact h.heap i hi (fun i o k h1 => by simp [nth] at h1)
   ·rw [Array.getElem?_append_right hi, Array.getElem?_extract]
    have hs := h.size
    split
    ·congr 1; omega
    ·rename_i hlt
     rw [Array.getElem?_eq_none]
     omega
  obtain ⟨heap, tape, drawn, os, output⟩ := w'
  have ho := h.os; have ht := h.tape; have hu := h.output.1; have hd : W.drawn ≤ drawn := h.output.2
  simp only at ho ht hu hd e1
  unfold Sort.grow World.drewN
  simp only [World.mk.injEq]
  exact ⟨e1, ht, by omega, ho, hu⟩
 rcases h with h | ⟨π, o, h⟩
 ·exact key h
 ·exact key h
omit [Draws] in
theorem zpg {P : Program} [Globals P] {α : Type} [Inhabited α] {enc : α → Value} (hfl : ∀ x, flat (enc x) = true) {cf : α → α → Int} {g : Nat} (eg : ∀ args w, (callFunc g args).run P w = .ok (.enter g args) w)
  (hc : ∀ x y, @ACall Draws.all P _ g [.d (.v (enc x)), .d (.v (enc y))] [] (fun r o => r = vI .i64 (cf x y))) (blk off size : Nat) (w : World) (ht : ∀ m os dk, Globals.tb P (sortWorld enc w blk off m dk os)) : CmpLays1 P g #[] enc cf blk off size w := by
 letI : Draws := Draws.all
 intro m os dk hs x y
 have h := hc x y _ [] (sortWorld enc w blk off m dk os) [enc x, enc y] ⟨ht m os dk, fun i o h b h1 => by simp [nth] at h1⟩ (mem0 _) (.cons (.d (.v (hfl x))) (.cons (.d (.v (hfl y))) .nil))
 rcases h with ⟨_, h⟩ | ⟨v, w', h, _⟩
 ·refine Calls.mono h ?_
  rintro e w' ⟨v, r, o, π', rfl, rfl, _, hrel, hh⟩
  refine ⟨?_, zjb (.inr ⟨_, _, hh⟩)⟩
  cases hrel with | d hrel => cases hrel; rfl
 ·rw [eg] at h
  cases h
theorem zbq {P : Program} [Globals P] {ρ : Ren} (L : SlLaysF.n6 P ρ) {α : Type} [Inhabited α] {enc : α → Value} (h1 : OneCell enc) (hfl : ∀ x, flat (enc x) = true) {cf : α → α → Int} (hO : SWO (ltOf cf)) (hT : ∀ x y, (ltOf cf) x y = false → (ltOf cf) y x = false → x = y) {g : Nat}
  (eg : ∀ args w, (callFunc g args).run P w = .ok (.enter g args) w) (es : ∀ args w, (callFunc (ρ.f 6) args).run P w = .ok (.enter (ρ.f 6) args) w) (hc : ∀ x y, @ACall Draws.all P _ g [.d (.v (enc x)), .d (.v (enc y))] [] (fun r o => r = vI .i64 (cf x y)))
  (e : TypeId) (l : List α) (rd : Nat → D) (hl : l.length < 4611686018427387904)
  (hv0 : Value) : ACall P (ρ.f 6) [.gs 0, .d (.v (.func (.func g) #[] #[]))] [some (.grow e 1 (l.map fun x => D.v (enc x)) rd), some (.hold (.gs 0) hv0)]
   (fun r o => r = .tp [] ∧ o = [some (.grow e 1 ((l.mergeSort fun x y => !(ltOf cf) y x).map fun x => D.v (enc x)) (fun i => D.v (enc ((l.mergeSort fun x y => !(ltOf cf) y x).getD i default)))), some (.hold (.gs 0) hv0)]) := by
 intro X π w vs hgk m hv
 refine .inl ⟨es _ _, ?_⟩
 cases hv with
 | cons hv ht =>
  cases ht with
  | cons hg ht =>
   cases ht
   cases hg with | d hg => cases hg with | v _ =>
   obtain ⟨h, hp, hrel⟩ := m.obj 0 _ rfl
   cases hv with
   | gs hh =>
    rw [hp] at hh
    cases hh
    rename_i n c A
    by_cases hgn : ∃ b o c', A = some ⟨b, o, none⟩ ∧ c = c' + 1
    ·obtain ⟨b, o, c', rfl, rfl⟩ := hgn
     obtain ⟨q1, q2, q3, q4, q5⟩ := z86 hrel
     subst q2
     have htb : ∀ m os dk, Globals.tb P (sortWorld enc w b o m dk os) := fun m' os dk => by
      refine Globals.keep w _ hgk.tb fun b' hb' => ?_
      have hne : b ≠ b' := fun e' => hgk.fr 0 _ _ b rfl hp rfl (e' ▸ hb')
      have hlt := Globals.lt w b' hgk.tb hb'
      have hh : (sortWorld enc w b o m' dk os).heap = w.heap.modify b (onCells (putCells enc o dk)) ++ os := rfl
      rw [hh, Array.getElem?_append_left (by simpa using hlt), Array.getElem?_modify, if_neg hne]
     have hcall := Any.slices_SortFunc_total L enc h1 cf hO g #[] b o (c' + 1) l.toArray w eg (zpg hfl eg hc b o l.toArray.size w htb) q1 q3 (by simpa using hl) hT
     simp only [List.size_toArray] at hcall
     refine Calls.mono hcall ?_
     rintro e' w' ⟨rfl, n, os, rfl⟩
     have hsl : (l.mergeSort fun x y => !(ltOf cf) y x).length = l.length := List.length_mergeSort _
     have htr := zq3 (q := n) (os := os) (L := l.mergeSort fun x y => !(ltOf cf) y x) (rd' := fun i => D.v (enc ((l.mergeSort fun x y => !(ltOf cf) y x).getD i default))) hfl m (i := 0) rfl hp hsl (by
      intro i hi
      exact z2v (fun x => D.v (enc x)) default _ i (by rw [List.length_map]; exact hi))
     exact ⟨_, .tp [], _, _, rfl, ⟨rfl, rfl⟩, htr.mem, .tp .nil, htr.hist⟩
    ·have hnil : l = [] ∧ n = 0 ∧ c = 0 := by
      generalize hxs : (l.map fun x => D.v (enc x)) = xs at hrel
      cases hrel with
      | gnil => exact ⟨List.map_eq_nil_iff.1 hxs, rfl, rfl⟩
      | grow _ _ _ _ _ _ _ _ => exact absurd ⟨_, _, _, rfl, rfl⟩ hgn
     obtain ⟨rfl, rfl, rfl⟩ := hnil
     refine Calls.mono (AnyF.slices_SortFunc_none { L with } A 0 (.func (.func g) #[] #[]) w) ?_
     rintro e' w' ⟨rfl, rfl⟩
     have hme : (([] : List α).mergeSort fun x y => !(ltOf cf) y x) = [] := List.mergeSort_nil
     have hle : subO [some (.grow e 1 ((([] : List α).mergeSort fun x y => !(ltOf cf) y x).map fun x => D.v (enc x)) (fun i => D.v (enc ((([] : List α).mergeSort fun x y => !(ltOf cf) y x).getD i default)))), some (.hold (.gs 0) hv0)] [some (.grow e 1 (([] : List α).map fun x => D.v (enc x)) rd), some (.hold (.gs 0) hv0)] :=
      ⟨.grow (by rw [hme]) (by intro i hi; rw [hme] at hi; simp at hi), .refl _, trivial⟩
     obtain ⟨m1, m2, m3⟩ := zie m hle rfl
     have hπ : π.length = 2 := m.len
     refine ⟨_, .tp [], _, _, rfl, ⟨rfl, rfl⟩, m1, .tp .nil, m3 (.refl _ _ _) (by simp [hπ])⟩
end Ab
namespace Ab
open Go Go.Shelf Go.RowKit Go.Lib Go.Sort Go.Proofs
variable [Draws]
abbrev FV := { v : Value // v.oneCell' = true }
instance : Inhabited FV := ⟨⟨.nilIface, rfl⟩⟩
def encF (x : FV) : Value := x.1
theorem ziu {v : Value} : flat v = true ↔ v.oneCell' = true := by cases v <;> simp [flat, Value.oneCell']
theorem zfk (x : FV) : flat (encF x) = true := ziu.2 x.2
theorem zek {w : World} {ok : Nat → Prop} : ∀ {us : List Value}, (∀ v ∈ us, flat v = true) → ∃ l : List FV, us = l.map encF
 | [], _ => ⟨[], rfl⟩
 | v :: r, h => by
  obtain ⟨l, hl⟩ := zek (w := w) (ok := ok) (us := r) fun x hx => h x (List.mem_cons_of_mem _ hx)
  subst hl
  exact ⟨⟨v, ziu.1 (h v List.mem_cons_self)⟩ :: l, rfl⟩
theorem zid {X : Nat → Prop} {π : List Value} {objs : List (Option AObj)} {w : World} {i b : Nat} {o o' : AObj} {h : Value} (m : Mem X π objs w) (ho : nth objs i = some (some o)) (hp : nth π i = some h) (hb : blk h = some b) (hrel : RelO w (okOf X π (zi objs i (some o'))) π o' h) :
  Tr X π objs w none π (zi objs i (some o')) w :=
 z97 m ho hp hb rfl rfl ⟨rfl, zv (Nat.le_refl _)⟩ rfl (fun _ _ => rfl) hrel
theorem zak {w w' : World} {ok ok' : Nat → Prop} {π π' : List Value} {q : Option Nat} (hk : ∀ a v, RelV w ok π a v → RelV w' ok' π' (keepQ q a) v) : ∀ {xs : List D} {us : List Value}, RelE w ok 1 xs us → RelE w' ok' 1 xs us
 | _, _, .nil => .nil
 | _, _, .cons (x := x) (us := us) h hl t => by
  refine .cons ?_ hl (zak hk t)
  obtain ⟨u, rfl⟩ : ∃ u, us = [u] := by
   match us, hl with
   | [u], _ => exact ⟨u, rfl⟩
  have hone : ∀ {y : D}, RelD w ok y u → RelD w' ok' y u := fun {y} hy => by
   have := hk (.d y) u (.d hy)
   cases q <;> (simp only [keepQ, AV.drop] at this; cases this with | d h => exact h)
  generalize hc : x.cells = cs at h
  cases h with
  | cons h hf t' =>
   cases t'
   exact .cons (hone h) hf .nil
theorem zq4 {w : World} {ok ok' : Nat → Prop} (h : ∀ c, ok c → ok' c) {s : Nat} {xs : List D} {us : List Value} (hE : RelE w ok s xs us) : RelE w ok' s xs us := hE.mono fun b o u h1 h2 => ⟨h b h1, h2⟩
theorem zql {w : World} {ok ok' : Nat → Prop} {π π' : List Value} {e : TypeId} {l : List FV} {rd0 : Nat → D} {A : Option Addr} {n c : Nat} (h : RelO w ok π (.grow e 1 (l.map fun x => D.v (encF x)) rd0) (.slice A n (c + 1)))
  {xs : List D} {rd : Nat → D} (hl : xs.length = l.length) (hE : RelE w ok' 1 xs (l.map encF)) (hrd : ∀ k, k < xs.length → xs[k]? = some (rd k)) : RelO w ok' π' (.grow e 1 xs rd) (.slice A n (c + 1)) := by
 have hlen : (l.map fun x => D.v (encF x)).length = l.length := by simp
 generalize hys : (l.map fun x => D.v (encF x)) = ys at h hlen
 cases h with
 | grow hb hz he hu hc hm ho hr =>
  subst hys
  have := z6h he
  subst this
  have := RelO.grow (π := π') (e := e) (s := 1) (rd := rd) hb hz hE hu (by rw [hl, ← hlen]; exact hc) hm ho hrd
  rw [hl, ← hlen] at this
  exact this
theorem zkf {P : Program} [Globals P] {g : FuncId} {zr : FV}
  (hsh : ∀ (b o cap i j : Nat) (d : Array FV) (w : World), Holds encF w b o d → d.size ≤ cap → cap ≤ 9223372036854775807 → i ≤ j → j ≤ d.size →
   Calls P g #[.slice (some ⟨b, o, none⟩) d.size cap, .int .i64 i, .int .i64 j] w fun e w' => e = .returned (.slice (some ⟨b, o, none⟩) (d.size - (j - i)) cap) ∧ ∃ q, w' = putRow encF (Sort.ahead w q) b o (d.toList.take i ++ d.toList.drop j ++ List.replicate (j - i) zr).toArray)
  (hen : ∀ args w, (callFunc g args).run P w = .ok (.enter g args) w) {e : TypeId} {xs : List D} {rd rd' : Nat → D} {i : Nat} (hi : i < xs.length) (hrd : ∀ k, k < (xs.take i ++ xs.drop (i + 1)).length → (xs.take i ++ xs.drop (i + 1))[k]? = some (rd' k)) :
  ACall P g [.gs 0, .d (.v (.int .i64 (i : Int))), .d (.v (.int .i64 ((i + 1 : Nat) : Int)))] [some (.grow e 1 xs rd)] (fun r o => r = .gs 0 ∧ o = [some (.grow e 1 (xs.take i ++ xs.drop (i + 1)) rd')]) := by
 intro X π w vs hgk m hv
 refine .inl ⟨hen _ _, ?_⟩
 cases hv with
 | cons hv ht =>
 cases ht with
 | cons hv1 ht =>
 cases ht with
 | cons hv2 ht =>
 cases ht
 cases hv1 with | d hv1 => cases hv1 with | v _ =>
 cases hv2 with | d hv2 => cases hv2 with | v _ =>
 obtain ⟨h, hp, hrel⟩ := m.obj 0 _ rfl
 have hlenπ := m.len
 obtain ⟨h0, rfl⟩ : ∃ h0, π = [h0] := by
  cases π with
  | nil => cases hlenπ
  | cons a r => cases r with
   | nil => exact ⟨a, rfl⟩
   | cons _ _ => simp at hlenπ
 cases hp
 cases hv with
 | gs hh =>
 cases hh
 have hrel0 := hrel
 cases hrel with
 | gnil => simp at hi
 | grow hb hz he hu hc hmx ho hr =>
  rename_i b o c us vs fz
  obtain ⟨l, rfl⟩ := zek (w := w) (ok := fun _ => True) he.flat
  have hlen : l.length = xs.length := by have := he.length; simpa using this
  -- told as raw values
  have hraw : RelO w (okOf X [.slice (some ⟨b, o, none⟩) xs.length (c + 1)] (zi [some (.grow e 1 xs rd)] 0 (some (.grow e 1 (l.map fun x => D.v (encF x)) (fun i => D.v (encF (l.getD i default))))))) [.slice (some ⟨b, o, none⟩) xs.length (c + 1)]
    (.grow e 1 (l.map fun x => D.v (encF x)) (fun i => D.v (encF (l.getD i default)))) (.slice (some ⟨b, o, none⟩) xs.length (c + 1)) := by
   have := RelO.grow (w := w) (ok := okOf X [.slice (some ⟨b, o, none⟩) xs.length (c + 1)] (zi [some (.grow e 1 xs rd)] 0 (some (.grow e 1 (l.map fun x => D.v (encF x)) (fun i => D.v (encF (l.getD i default))))))) (π := [.slice (some ⟨b, o, none⟩) xs.length (c + 1)]) (e := e) (s := 1) (b := b) (o := o) (c := c)
    (xs := l.map fun x => D.v (encF x)) (us := l.map encF) (vs := vs) (rd := fun i => D.v (encF (l.getD i default))) (fz := fz) hb hz (za1 zfk _) hu (by simpa [hlen] using hc) hmx ho (by
     intro k hk
     have hk' : k < l.length := by simpa using hk
     simp [hk', List.getD_eq_getElem?_getD])
   rw [List.length_map, hlen] at this
   exact this
  have t1 := zid m rfl rfl (b := b) rfl hraw
  have hm2 := t1.mem
  obtain ⟨q1, q2, q3, q4, q5⟩ := z86 hraw
  have hml : maxLen = 9223372036854775807 := rfl
  have hcall := hsh b o (c + 1) i (i + 1) l.toArray w q1 (by simp; omega) (by omega) (by omega) (by simp; omega)
  simp only [List.size_toArray] at hcall
  rw [hlen] at hcall
  refine Calls.mono hcall ?_
  rintro e' w' ⟨rfl, q, rfl⟩
  have hLl : (l.take i ++ l.drop (i + 1) ++ List.replicate (i + 1 - i) zr).length = l.length := by simp; omega
  have hk1 : xs.length - (i + 1 - i) = (l.take i ++ l.drop (i + 1)).length := by simp; omega
  rw [hk1]
  have t2 := zll (q := q) (os := #[]) (k := (l.take i ++ l.drop (i + 1)).length) (L := l.take i ++ l.drop (i + 1) ++ List.replicate (i + 1 - i) zr) (rd' := fun k => D.v (encF ((l.take i ++ l.drop (i + 1)).getD k default))) (enc := encF) zfk hm2 hLl (by simp) (by
   intro k hk
   rw [List.take_left' rfl]
   simp only [List.getElem?_map]
   rw [List.getElem?_eq_getElem hk, List.getD_eq_getElem?_getD, List.getElem?_eq_getElem hk]
   rfl)
  rw [List.take_left' rfl] at t2
  unfold sortWorld at t2
  rw [grow_empty] at t2
  obtain ⟨h2, hp2, hrel2⟩ := t2.mem.obj 0 _ rfl
  cases hp2
  -- told as data again
  have hE2 := (he.take i).append (he.drop (i + 1))
  rw [Nat.mul_one, Nat.mul_one, ← List.map_take, ← List.map_drop, ← List.map_append] at hE2
  have hE3 : RelE _ (okOf X _ _) 1 (xs.take i ++ xs.drop (i + 1)) ((l.take i ++ l.drop (i + 1)).map encF) := zak t2.keep (zak t1.keep hE2)
  have hlx : (xs.take i ++ xs.drop (i + 1)).length = (l.take i ++ l.drop (i + 1)).length := by simp; omega
  generalize hgl : (l.take i ++ l.drop (i + 1)) = l2 at *
  generalize hgx : (xs.take i ++ xs.drop (i + 1)) = x2 at *
  have hrel3 := zql (ok' := okOf X [.slice (some ⟨b, o, none⟩) l2.length (c + 1)] (zi [some (.grow e 1 (l2.map fun x => D.v (encF x)) (fun k => D.v (encF (l2.getD k default))))] 0 (some (.grow e 1 x2 rd')))) (π' := [.slice (some ⟨b, o, none⟩) l2.length (c + 1)]) (rd := rd') hrel2 hlx (zq4 (fun c => (z9m rfl c).2) hE3) hrd
  have t3 := zid t2.mem rfl rfl (b := b) rfl hrel3
  exact ⟨_, .gs 0, _, _, rfl, ⟨rfl, rfl⟩, t3.mem, .gs rfl, (t1.hist.trans t2.hist).trans t3.hist⟩
end Ab
namespace Ab
open Go
variable [Draws]
def dpreK (T : Tab) (n : Nat) (ops : Array Oper) : Nat → List Oper → Prop → Env → List (Option AObj) → Option (Prop × List Oper × Env)
 | 0, l, nd, env, _ => some (nd, l, env)
 | _ + 1, [], _, _, _ => none
 | k + 1, o :: r, nd, env, objs =>
  match z72 o r (o.looksAt ops) && z4i o r with
  | false => none
  | true => match wantE ops (restr env (o.looksAt ops)) o with
   | .yes => match pstep T o (restr env (o.looksAt ops)) objs with
    | .ok a => match putE n o.dst a env with | some e => dpreK T n ops k r nd e objs | none => none
    | .iff c a => match putE n o.dst a env with | some e => dpreK T n ops k r (c ∧ nd) e objs | none => none
    | .no => none
   | _ => none
section
variable {P : Program} [Globals P] {T : Tab} {f : FuncId} {fn : Func} {n m : Nat} {C : Cx} {R : AV → List (Option AObj) → Prop} {env env0 env' envF : Env} {objs objs' : List (Option AObj)} {ops : Array Oper} {K : Env → Prop} {X : Nat → Prop}
theorem z7l (hT : TabOk P T) : ∀ (k : Nat) (l : List Oper) (nd : Prop) (env : Env) {nd' : Prop} {l' : List Oper} {env' : Env}, dpreK T n ops k l nd env objs = some (nd', l', env') → nd' → DSat P n X objs ops K l' env' → nd ∧ DSat P n X objs ops K l env
 | 0, l, nd, env, nd', l', env', h, hn, hd => by
  simp only [dpreK, Option.some.injEq, Prod.mk.injEq] at h
  obtain ⟨rfl, rfl, rfl⟩ := h
  exact ⟨hn, hd⟩
 | k + 1, [], _, _, _, _, _, h, _, _ => by simp [dpreK] at h
 | k + 1, o :: r, nd, env, nd', l', env', h, hn, hd => by
  simp only [dpreK] at h
  cases hf : z72 o r (o.looksAt ops) && z4i o r with
  | false => rw [hf] at h; cases h
  | true =>
  rw [hf] at h
  simp only at h
  simp only [Bool.and_eq_true] at hf
  obtain ⟨hf1, hf2⟩ := hf
  cases hw : wantE ops (restr env (o.looksAt ops)) o with
  | yes =>
   rw [hw] at h
   simp only at h
   have quiet : ∀ {a : AV} {e : Env} {c : Prop}, c → (pstep T o (restr env (o.looksAt ops)) objs = .ok a ∨ pstep T o (restr env (o.looksAt ops)) objs = .iff c a) → putE n o.dst a env = some e → DSat P n X objs ops K r e → DSat P n X objs ops K (o :: r) env := by
    intro a e c hc hp hput hr
    refine ds_op hf1 hf2 hput hw (fun π w tmps hm he => ?_) hr
    have hdo := z5f (ds := []) hT hm he o
    rcases hp with hp | hp
    ·rw [hp] at hdo
     obtain ⟨v, d1, d2⟩ := hdo
     exact ⟨v, w, d2 w (.refl w), .refl w, d1⟩
    ·rw [hp] at hdo
     obtain ⟨v, d1, d2⟩ := hdo hc
     exact ⟨v, w, d2 w (.refl w), .refl w, d1⟩
   cases hp : pstep T o (restr env (o.looksAt ops)) objs with
   | ok a =>
    rw [hp] at h
    simp only at h
    cases hput : putE n o.dst a env with
    | none => rw [hput] at h; cases h
    | some e =>
     rw [hput] at h
     obtain ⟨r1, r2⟩ := z7l hT k r nd e h hn hd
     exact ⟨r1, quiet trivial (.inl hp) hput r2⟩
   | iff c a =>
    rw [hp] at h
    simp only at h
    cases hput : putE n o.dst a env with
    | none => rw [hput] at h; cases h
    | some e =>
     rw [hput] at h
     obtain ⟨r1, r2⟩ := z7l hT k r (c ∧ nd) e h hn hd
     exact ⟨r1.2, quiet r1.1 (.inr hp) hput r2⟩
   | no => rw [hp] at h; cases h
  | no => rw [hw] at h; cases h
  | ask t b => rw [hw] at h; cases h
  | dunno => rw [hw] at h; cases h
theorem z4p (k : Nat) {l l' : List Oper} {nd' : Prop} (hT : TabOk P T) (h : dpreK T n ops k l True env objs = some (nd', l', env')) (hn : nd') (hd : DSat P n X objs ops K l' env') : DSat P n X objs ops K l env :=
 (z7l hT k l True env h hn hd).2
theorem zqs {o : Oper} {r : List Oper} {e2 : Env} {x : Operand} {ty : TypeId} {e : TypeId} {j : Nat} {bs : List UInt8} (hop : o.op = .call { callee := .builtin .unsafeSliceData, args := #[x], argTypes := #[ty] }) (hfree : z72 o r (o.looksAt ops) = true) (halone : z4i o r = true) (hw : wantE ops (restr env (o.looksAt ops)) o = .yes)
  (hx : opnd (restr env (o.looksAt ops)) x = some (.gs j)) (hobj : nth objs j = some (some (gL e 1 eU8 0 bs))) (hne : bs ≠ []) (hput : putE n o.dst (.ge j 1 0 0) env = some e2) (h : DSat P n X objs ops K r e2) : DSat P n X objs ops K (o :: r) env := by
 refine ds_op hfree halone hput hw (fun π w tmps m he => ?_) h
 have hv := zk (ds := []) he hx
 obtain ⟨hd, hpj, hrel⟩ := m.obj j _ hobj
 revert hv
 generalize hax : Act.eval ⟨tmps, []⟩ x = vx
 intro hv
 cases hv with
 | gs hh =>
  rename_i n' c' A
  rw [hpj] at hh
  cases hh
  have hrel' : RelO w (okOf X π objs) π (.grow e 1 (bs.map eU8) (fun i => eU8 (bs.getD i 0))) (.slice A n' c') := hrel
  generalize hys : bs.map eU8 = ys at hrel'
  cases hrel' with
  | gnil => exact absurd (List.map_eq_nil_iff.1 hys) hne
  | grow hb hz hE hu hcl hm hol hr =>
   rename_i b off c us vs fz
   refine ⟨.pointer (some ⟨b, off, none⟩), w, ?_, .refl w, ?_⟩
   ·have hrun := Go.Lib.run_unsafeSliceData_row (P := P) (w := w) #[ty] o.type ⟨b, off, none⟩ ys.length (c + 1) (by omega)
    unfold execOp
    simp only [hop]
    simp [resolve, invoke, builtin, hax, hrun]
   ·have := RelV.ge (w := w) (ok := okOf X π objs) (π := π) (s := 1) (j := 0) (off := 0) hpj
    simpa using this
theorem zkd {o : Oper} {r : List Oper} {e2 : Env} {x : Operand} {ty pe : TypeId} (hop : o.op = .call { callee := .builtin .unsafeSliceData, args := #[x], argTypes := #[ty] }) (hp : P.underlying o.type = some (.pointer pe)) (hfree : z72 o r (o.looksAt ops) = true) (halone : z4i o r = true) (hw : wantE ops (restr env (o.looksAt ops)) o = .yes)
  (hx : opnd (restr env (o.looksAt ops)) x = some (.d (.v (.slice none 0 0)))) (hput : putE n o.dst (.d (.v (.pointer none))) env = some e2) (h : DSat P n X objs ops K r e2) : DSat P n X objs ops K (o :: r) env := by
 refine ds_op hfree halone hput hw (fun π w tmps m he => ?_) h
 have hv := zk (ds := []) he hx
 revert hv
 generalize hax : Act.eval ⟨tmps, []⟩ x = vx
 intro hv
 cases hv with
 | d hv => cases hv with
  | v _ =>
   refine ⟨.pointer none, w, ?_, .refl w, .d (.v rfl)⟩
   have hrun := Go.Lib.run_unsafeSliceData_nil (P := P) (w := w) #[ty] o.type 0 0
   unfold execOp
   simp only [hop]
   simp [resolve, invoke, builtin, hax, hrun]
theorem zgi {i : Nat} {r : List Nat} {k : List Item} {o : Oper} {e2 : Env} {x y : Operand} {pt it : TypeId} (ho : ops[i]? = some o) (hw : wantE ops env o = .yes) (hop : o.op = .call { callee := .builtin .unsafeString, args := #[x, y], argTypes := #[pt, it] })
  (hx : opnd env x = some (.d (.v (.pointer none)))) (hy : opnd env y = some (vI .i64 0)) (hput : putE n o.dst (vS .empty) env = some e2) (h : ASat P f n C (.inRegion ops r :: k) e2 objs R) : ASat P f n C (.inRegion ops (i :: r) :: k) env objs R := by
 refine z2e (vS .empty) ho hw (fun X π w tmps m he => ?_) hput h
 have hax := z4u (P := P) he hx
 have hay := z4u (P := P) he hy
 have hrun := Go.Lib.run_unsafeString_none (P := P) (w := w) pt it o.type none
 refine ⟨.string .empty, ?_, .d (.v rfl)⟩
 unfold execOp
 simp only [hop]
 simp [resolve, invoke, builtin, hax, hay, hrun]
end
end Ab
namespace Ab
open Go
variable [Draws]
section
variable {P : Program} [Globals P] {T : Tab} {f : FuncId} {fn : Func} {n : Nat} {C : Cx} {R : AV → List (Option AObj) → Prop} {todo k : List Item} {env env' : Env} {objs : List (Option AObj)} {nd : Prop} {ops : Array Oper}
theorem zeg (e : TypeId) (s : Nat) (rd : Nat → D) (kk : ASat P f n C todo env (objs ++ [some (.grow e s [] rd)]) R) : ASat P f n C todo env objs R := by
 intro π w tmps hn hm hh he
 have htr : Tr C.X π objs w none (π ++ [.slice none 0 0]) (objs ++ [some (.grow e s [] rd)]) w := z2m hm rfl rfl ⟨rfl, zv (Nat.le_refl _)⟩ (Nat.le_refl _) (fun _ _ => rfl) _ _ (by intro b e; cases e) .gnil
 exact kk _ w tmps hn htr.mem (z1u hh htr) (z3u he htr)
theorem zjk (i q j : Nat) {e e' : TypeId} {cs : List AV} {s : Nat} {rd : Nat → D} (hij : i ≠ j) (ho : nth objs i = some (some (.cells e cs))) (hc : nth (AV.drops j cs) q = some (.d (.v (.slice none 0 0)))) (hj : nth objs j = some (some (.grow e' s [] rd)))
  (kk : ASat P f n C todo (zbh j env) (zi (zi (dropO j objs) j (some (.grow e' s [] rd))) i (some (.cells e (zi (AV.drops j cs) q (.gs j))))) R) : ASat P f n C todo env objs R := by
 intro π w tmps hn hm hh he
 obtain ⟨h, hp, hrel⟩ := hm.obj j _ hj
 have hsl : isSl h = true := by cases hrel <;> rfl
 have htr : Tr C.X π objs w (some j) (zi π j (.slice none 0 0)) (zi (dropO j objs) j (some (.grow e' s [] rd))) w :=
  z49 hm hj hp hsl rfl rfl ⟨rfl, zv (Nat.le_refl _)⟩ (Nat.le_refl _) (fun _ _ _ => rfl) (by intro b e; cases e) .gnil
 have hm1 := htr.mem
 have hdrop : ∀ (l : List (Option AObj)) (i : Nat), nth l i = some (some (.cells e cs)) → nth (dropO j l) i = some (some (.cells e (AV.drops j cs))) := by
  intro l
  induction l with
  | nil => intro i h; simp [nth] at h
  | cons a r ih =>
   intro i h
   cases i with
   | zero =>
    simp only [nth, Option.some.injEq] at h
    subst h
    rfl
   | succ i =>
    have := ih i (by simpa [nth] using h)
    cases a <;> simpa [dropO, nth] using this
 have ho1 : nth (zi (dropO j objs) j (some (.grow e' s [] rd))) i = some (some (.cells e (AV.drops j cs))) := by
  rw [z3y hij]
  exact hdrop objs i ho
 obtain ⟨h', h5, h6⟩ := hm1.obj i _ ho1
 cases h6 with
 | cells hb hcs hf =>
  rename_i b vs
  obtain ⟨v, hv1, hv2⟩ := hcs.get hc
  have hv3 : v = .slice none 0 0 := by cases hv2 with | d h => cases h; rfl
  subst hv3
  have htr2 := z97 (o' := .cells e (zi (AV.drops j cs) q (.gs j))) hm1 ho1 h5 (b := b) rfl rfl rfl ⟨rfl, zv (Nat.le_refl _)⟩ rfl (fun _ _ => rfl) ?_
  ·exact kk _ w tmps hn htr2.mem (z1u (z1u hh htr) htr2) (z3u (z3u he htr) htr2)
  ·have hrel := hcs.set q (x := .gs j) (v := .slice none 0 0) (.gs (z1e hp))
   have hvs : vs.set q (.slice none 0 0) = vs := by
    have := z5z (l := vs) (i := q) (x := .slice none 0 0) (by rw [z1n]; exact hv1)
    rwa [z1p] at this
   rw [hvs] at hrel
   exact .cells hb (hrel.mono (fun c off u h1 h2 => ⟨(z9m ho1 c).2 h1, h2⟩) (fun _ _ h => h)) hf
theorem zjm {i : Nat} {r : List Nat} {o : Oper} {e2 : Env} {xo yo : Operand} {t t2 e : TypeId} {inf : TypeInfo} (ho : ops[i]? = some o) (hw : wantE ops env o = .yes) (hop : o.op = .call { callee := .builtin .append, args := #[xo, yo], argTypes := #[t, t2] })
  (hx : opnd env xo = some (.d (.v (.slice none 0 0)))) (hy : opnd env yo = some (.d (.v (.string ⟨#[]⟩)))) (ht : P.underlying t = some (.slice e)) (ht2 : P.underlying t2 = some .string) (hi : P.info? e = some inf) (hput : putE n o.dst (.d (.v (.slice none 0 0))) env = some e2)
  (h : ASat P f n C (.inRegion ops r :: k) e2 objs R) : ASat P f n C (.inRegion ops (i :: r) :: k) env objs R := by
 refine z2e (.d (.v (.slice none 0 0))) ho hw (fun X π w tmps m he => ?_) hput h
 have hax := z4u (P := P) he hx
 have hay := z4u (P := P) he hy
 have hrun := z2o (P := P) (w := w) (w' := w) (t := t) (t2 := t2) (ty := o.type) (rest := []) ht (.inr ht2) hi (A := none) (n := 0) (c := 0) (m := 0) (x := .string ⟨#[]⟩) (us := []) (fun w' => by simp [Builtin.lenOf]; rfl) (by omega) (by simp [Builtin.firstCells]) (by simp)
 refine ⟨.slice none 0 0, ?_, .d (.v rfl)⟩
 unfold execOp
 simp only [hop]
 have hrun' : (Builtin.append_ #[t, t2] o.type #[.slice none 0 0, .string ⟨#[]⟩]).run P w = .ok (.slice none 0 0) w := hrun
 simp [resolve, invoke, builtin, hax, hay, hrun']
end
end Ab
namespace Go.Proofs.YtkemmijjpclckaaGreatDoor
open Go Ab
variable [Draws]
theorem zci (x : Int) : ACall Tryz.prog 227 [vI .i64 x] [] (fun r o => r = vB false) := by
 refine z8 Tryz.func227 rfl rfl (Nat.le_of_ble_eq_true rfl) fun C hC hCl hDs hGk => ?_
 refine z7 tabOk Tryz.func227 rfl trivial ?_
 show vB _ = vB _
 simp
def cmpI (a b : Int) : Int := if a < b then -1 else if b < a then 1 else 0
theorem z9i (a b : Int) : ACall Tryz.prog 217 [vI .i64 a, vI .i64 b] [] (fun r o => r = vI .i64 (cmpI a b)) := by
 refine z8 Tryz.func217 rfl rfl (Nat.le_of_ble_eq_true rfl) fun C hC hCl hDs hGk => ?_
 refine ze tabOk Tryz.func217 rfl trivial (zci a) (.refl _) rfl ⟨_, rfl⟩ (by rintro r o rfl; rfl) fun r o hr => ?_
 subst hr
 refine ze tabOk Tryz.func217 rfl trivial (zci b) (.refl _) rfl ⟨_, rfl⟩ (by rintro r o rfl; rfl) fun r o hr => ?_
 subst hr
 refine z6 tabOk Tryz.func217 rfl trivial (fun h => by cases h) (fun _ => ?_)
 refine z6 tabOk Tryz.func217 rfl trivial (fun h => by cases h) (fun _ => ?_)
 refine z6 tabOk Tryz.func217 rfl trivial (fun h => ?_) (fun h => ?_)
 ·refine z7 tabOk Tryz.func217 rfl trivial ?_
  show vI .i64 _ = vI .i64 _
  simp at h
  simp [cmpI, h]
 ·simp only [decide_eq_false_iff_not] at h
  refine z6 tabOk Tryz.func217 rfl trivial (fun h2 => ?_) (fun h2 => ?_) <;> simp only [decide_eq_true_eq, decide_eq_false_iff_not] at h2
  ·refine z7 tabOk Tryz.func217 rfl trivial ?_
   show vI .i64 _ = vI .i64 _
   rw [cmpI, if_neg h, if_pos (by omega)]
  ·refine z7 tabOk Tryz.func217 rfl trivial ?_
   show vI .i64 _ = vI .i64 _
   rw [cmpI, if_neg h, if_neg (by omega)]
theorem zqy (a b : Int) : ACall Tryz.prog 216 [.d (.sl 1 [.v (.int .i64 a), .v (.int .i64 b)] (litRd [.v (.int .i64 a), .v (.int .i64 b)]))] [] (fun r o => r = vI .i64 (if a = 0 then b else a)) := by
 refine z8 Tryz.func216 rfl rfl (Nat.le_of_ble_eq_true rfl) fun C hC hCl hDs hGk => ?_
 refine za tabOk Tryz.func216 rfl trivial (z3f ?_)
 refine z6 tabOk Tryz.func216 rfl trivial (fun h => ?_) (fun h => by simp at h)
 refine z6 tabOk Tryz.func216 rfl (by simp) (fun h => ?_) (fun h => ?_)
 ·have h : a ≠ 0 := by simpa using h
  refine z7 tabOk Tryz.func216 rfl trivial ?_
  show vI .i64 a = vI .i64 _
  rw [if_neg h]
 ·have h : a = 0 := by simpa using h
  refine za tabOk Tryz.func216 rfl trivial (z1q ?_)
  refine z6 tabOk Tryz.func216 rfl trivial (fun h2 => ?_) (fun h2 => by simp [zb] at h2)
  refine z6 tabOk Tryz.func216 rfl (by simp [zb]) (fun h2 => ?_) (fun h2 => ?_)
  ·refine z7 tabOk Tryz.func216 rfl trivial ?_
   show vI .i64 b = vI .i64 _
   rw [if_pos h]
  ·have h2 : b = 0 := by simpa using h2
   refine za tabOk Tryz.func216 rfl trivial (z1q ?_)
   refine z6 tabOk Tryz.func216 rfl trivial (fun h3 => by simp [zb] at h3) (fun h3 => ?_)
   refine z7 tabOk Tryz.func216 rfl trivial ?_
   show vI .i64 0 = vI .i64 _
   rw [if_pos h, h2]
def byI (a b : Int) : Int := if cmpI (max a (-a)) (max b (-b)) = 0 then cmpI a b else cmpI (max a (-a)) (max b (-b))
theorem zqt (a b : Int) (ha : -1000000 ≤ a ∧ a ≤ 1000000) (hb : -1000000 ≤ b ∧ b ≤ 1000000) : ACall Tryz.prog 212 [vI .i64 a, vI .i64 b] [] (fun r o => r = vI .i64 (byI a b)) := by
 refine z8 Tryz.func212 rfl rfl (Nat.le_of_ble_eq_true rfl) fun C hC hCl hDs hGk => ?_
 refine ze tabOk Tryz.func212 rfl trivial (z9i (max a (-a)) (max b (-b))) ?_ rfl ⟨_, rfl⟩ (by rintro r o rfl; rfl) fun r o hr => ?_
 ·exact ⟨.of (by show vI .i64 (max a (IntKind.i64.wrap (0 - a))) = _; rw [zb (by omega) (by omega), Int.zero_sub]), .of (by show vI .i64 (max b (IntKind.i64.wrap (0 - b))) = _; rw [zb (by omega) (by omega), Int.zero_sub]), trivial⟩
 subst hr
 refine ze tabOk Tryz.func212 rfl trivial (z9i a b) (.refl _) rfl ⟨_, rfl⟩ (by rintro r o rfl; rfl) fun r o hr => ?_
 subst hr
 refine ze tabOk Tryz.func212 rfl trivial (zqy _ _) (.refl _) rfl ⟨_, rfl⟩ (by rintro r o rfl; rfl) fun r o hr => ?_
 subst hr
 refine z7 tabOk Tryz.func212 rfl trivial ?_
 rfl
end Go.Proofs.YtkemmijjpclckaaGreatDoor
namespace Go.Proofs.YtkemmijjpclckaaGreatDoor
open Go Ab
structure Wk where
 forced : List Int
 queue : List Int
 clash : Bool
@[reducible] def gIs (l : List Int) : AObj := gL 3 1 eI 0 l
@[reducible] def wkO (s : Wk) : List (Option AObj) := [some (.cells 265 [.gs 1, .gs 2, vB s.clash]), some (gIs s.forced), some (gIs s.queue)]
def va (l : Int) : Nat := (max l (-l)).toNat
def z1c (s : Wk) (l : Int) : Wk :=
 if s.forced.getD (va l) 0 = l then s
 else if s.forced.getD (va l) 0 = 0 then ⟨s.forced.set (va l) l, s.queue ++ [l], s.clash⟩
 else ⟨s.forced, s.queue, true⟩
theorem zco (s : Wk) (l : Int) (hl : va l < s.forced.length) (hs : -1000000 ≤ l ∧ l ≤ 1000000) (hq : s.queue.length ≤ 1000000) : ACall Tryz.prog 202 [.ptr 0 0, vI .i64 l] (wkO s) (fun r o => r = .tp [] ∧ o = wkO (z1c s l)) := by
 refine z8 Tryz.func202 rfl rfl (Nat.le_of_ble_eq_true rfl) fun C hC hCl hDs hGk => ?_
 have e1 : IntKind.i64.wrap (0 - l) = -l := by rw [zb (by omega) (by omega), Int.zero_sub]
 have e2 : max l (-l) = (va l : Int) := by unfold va; omega
 refine z6 tabOk Tryz.func202 rfl (by simp only [e1, e2, Int.toNat_natCast, List.length_map]; simp; omega) (fun h => ?_) (fun h => ?_)
 ·rw [e1, e2] at h
  simp only [Int.toNat_natCast, beq_iff_eq] at h
  refine zp tabOk Tryz.func202 rfl trivial hC hCl (.refl _) (o2 := wkO (z1c s l)) ?_ rfl rfl (Nat.le_refl _) ⟨rfl, rfl⟩
  rw [z1c, if_pos h]
  exact ⟨.refl _, .refl _, .refl _, trivial⟩
 ·rw [e1, e2] at h
  simp only [Int.toNat_natCast, beq_eq_false_iff_ne] at h
  refine z6 tabOk Tryz.func202 rfl trivial (fun h2 => ?_) (fun h2 => ?_)
  ·rw [e1, e2] at h2
   simp only [Int.toNat_natCast, beq_iff_eq] at h2
   refine zp tabOk Tryz.func202 rfl ?_ hC hCl (.refl _) (o2 := wkO (z1c s l)) ?_ rfl rfl (Nat.le_refl _) ⟨rfl, rfl⟩
   ·simp only [andP, e1, e2, Int.toNat_natCast, List.length_map, List.length_cons, List.length_nil]
    have : s.queue.length + (0 + 1) ≤ 2000000 := by omega
    refine ⟨by show (s.queue.length + (0 + 1)) * 8 ≤ _; omega, hl, ⟨by omega, by omega⟩, trivial⟩
   ·rw [z1c, if_neg h, if_pos h2]
    refine ⟨.refl _, .gL ?_, .gL ?_, trivial⟩
    ·rw [e1, e2, Int.toNat_natCast, List.map_set]
     rfl
    ·rw [List.map_append]
     rfl
  ·rw [e1, e2] at h2
   simp only [Int.toNat_natCast, beq_eq_false_iff_ne] at h2
   refine zp tabOk Tryz.func202 rfl trivial hC hCl (.refl _) (o2 := wkO (z1c s l)) ?_ rfl rfl (Nat.le_refl _) ⟨rfl, rfl⟩
   rw [z1c, if_neg h, if_neg h2]
   exact ⟨.refl _, .refl _, .refl _, trivial⟩
def scanW (forced : List Int) : Int → List Int → Option Int
 | only, [] => some only
 | only, l :: r => if forced.getD (va l) 0 = l then none else if forced.getD (va l) 0 = -l then scanW forced only r else if only ≠ 0 ∧ only ≠ l then none else scanW forced l r
def lookW (s : Wk) (c : List Int) : Wk :=
 match scanW s.forced 0 c with
 | none => s
 | some only => if only = 0 then ⟨s.forced, s.queue, true⟩ else z1c s only
theorem z5p (forced : List Int) : ∀ (c : List Int) (only x : Int), scanW forced only c = some x → x = only ∨ x ∈ c
 | [], only, x, h => by simp only [scanW, Option.some.injEq] at h; exact .inl h.symm
 | l :: r, only, x, h => by
  simp only [scanW] at h
  split at h
  ·cases h
  ·split at h
   ·rcases z5p forced r only x h with h | h
    ·exact .inl h
    ·exact .inr (List.mem_cons_of_mem _ h)
   ·split at h
    ·cases h
    ·rcases z5p forced r l x h with h | h
     ·exact .inr (h ▸ List.mem_cons_self)
     ·exact .inr (List.mem_cons_of_mem _ h)
theorem zez (s : Wk) (c : List Int) (hc : ∀ l ∈ c, va l < s.forced.length ∧ -1000000 ≤ l ∧ l ≤ 1000000) (hq : s.queue.length ≤ 1000000) : ACall Tryz.prog 203 [.ptr 0 0, .d (eIs c)] (wkO s) (fun r o => r = .tp [] ∧ o = wkO (lookW s c)) := by
 refine z8 Tryz.func203 rfl rfl (Nat.le_of_ble_eq_true rfl) fun C hC hCl hDs hGk => ?_
 refine z4b (t := 1) rfl fun hlen => ?_
 rw [List.length_map] at hlen
 refine za tabOk Tryz.func203 rfl trivial ?_
 refine zj (α := Nat × Int) (fun a => [(0, .ptr 0 0), (1, .d (eIs c)), (7, .d (eIs c)), (8, vI .i64 c.length), (9, vI .i64 a.1), (4, vI .i64 a.2)]) (fun _ => wkO s) (fun a => a.1 ≤ c.length ∧ scanW s.forced 0 c = scanW s.forced a.2 (c.drop a.1)) (fun a => c.length - a.1) (0, 0) ⟨Nat.zero_le _, rfl⟩ ?_ ?_
 ·refine fun h => zg h hC hCl ?_ ⟨.refl _, .refl _, .refl _, trivial⟩ rfl rfl (Nat.le_refl _)
  exact ⟨⟨_, rfl, .refl _⟩, ⟨_, rfl, .refl _⟩, ⟨_, rfl, .refl _⟩, ⟨_, rfl, .of (by rw [List.length_map])⟩, ⟨_, rfl, .refl _⟩, ⟨_, rfl, .refl _⟩, trivial⟩
 ·rintro ⟨i, only⟩ ⟨hi, hcs⟩ ih
  simp only at hi hcs ⊢
  refine z6 tabOk Tryz.func203 rfl trivial (fun hb => ?_) (fun hb => ?_) <;> simp only [decide_eq_true_eq, decide_eq_false_iff_not] at hb
  ·have hlt : i < c.length := by omega
   obtain ⟨b1, b2, b3⟩ := hc _ (List.getElem_mem hlt)
   rw [List.drop_eq_getElem_cons hlt, scanW] at hcs
   have hget : c.getD i 0 = c[i] := by simp [hlt]
   generalize hx : c[i] = x at *
   have e1 : IntKind.i64.wrap (0 - x) = -x := by rw [zb (by omega) (by omega), Int.zero_sub]
   have e2 : max x (-x) = (va x : Int) := by unfold va; omega
   refine z6 tabOk Tryz.func203 rfl ?_ (fun h => ?_) (fun h => ?_)
   ·simp only [Int.toNat_natCast, List.length_map, hget, e1, e2]
    exact ⟨b1, ⟨by omega, by omega⟩, ⟨by omega, by omega⟩, trivial⟩
   ·simp only [Int.toNat_natCast, hget, e1, e2, beq_iff_eq] at h
    rw [if_pos h] at hcs
    refine zp tabOk Tryz.func203 rfl trivial hC hCl (.refl _) (o2 := wkO (lookW s c)) ?_ rfl rfl (Nat.le_refl _) ⟨rfl, rfl⟩
    rw [lookW, hcs]
    exact ⟨.refl _, .refl _, .refl _, trivial⟩
   ·simp only [Int.toNat_natCast, hget, e1, e2, beq_eq_false_iff_ne] at h
    rw [if_neg h] at hcs
    have next : ∀ o : Int, scanW s.forced 0 c = scanW s.forced o (c.drop (i + 1)) → ASat Tryz.prog 203 Tryz.f203.ntmps C _ _ _ _ := fun o ho => ih (i + 1, o) ⟨by omega, ho⟩ (by omega)
    have e3 : IntKind.i64.wrap ((i : Int) + 1) = ((i + 1 : Nat) : Int) := zb (by omega) (by omega)
    refine z6 tabOk Tryz.func203 rfl trivial (fun h2 => ?_) (fun h2 => ?_)
    ·simp only [Int.toNat_natCast, hget, e1, e2, beq_iff_eq] at h2
     rw [if_pos h2] at hcs
     refine za tabOk Tryz.func203 rfl trivial ?_
     refine zg (next only hcs) hC hCl ?_ ⟨.refl _, .refl _, .refl _, trivial⟩ rfl rfl (Nat.le_refl _)
     exact ⟨⟨_, rfl, .refl _⟩, ⟨_, rfl, .refl _⟩, ⟨_, rfl, .refl _⟩, ⟨_, rfl, .refl _⟩, ⟨_, rfl, .of (by rw [e3])⟩, ⟨_, rfl, .refl _⟩, trivial⟩
    ·simp only [Int.toNat_natCast, hget, e1, e2, beq_eq_false_iff_ne] at h2
     rw [if_neg h2] at hcs
     refine z6 tabOk Tryz.func203 rfl trivial (fun h3 => ?_) (fun h3 => ?_)
     ·have h3 : only ≠ 0 := by simpa using h3
      refine z6 tabOk Tryz.func203 rfl trivial (fun h4 => ?_) (fun h4 => ?_)
      ·have h4 : only ≠ x := by rw [← hget]; simpa using h4
       rw [if_pos ⟨h3, h4⟩] at hcs
       refine zp tabOk Tryz.func203 rfl trivial hC hCl (.refl _) (o2 := wkO (lookW s c)) ?_ rfl rfl (Nat.le_refl _) ⟨rfl, rfl⟩
       rw [lookW, hcs]
       exact ⟨.refl _, .refl _, .refl _, trivial⟩
      ·have h4 : only = x := by rw [← hget]; simpa using h4
       rw [if_neg (by simp [h4])] at hcs
       refine za tabOk Tryz.func203 rfl trivial ?_
       refine zg (next x hcs) hC hCl ?_ ⟨.refl _, .refl _, .refl _, trivial⟩ rfl rfl (Nat.le_refl _)
       exact ⟨⟨_, rfl, .refl _⟩, ⟨_, rfl, .refl _⟩, ⟨_, rfl, .refl _⟩, ⟨_, rfl, .refl _⟩, ⟨_, rfl, .of (by rw [e3])⟩, ⟨_, rfl, .of (by rw [← hget]; rfl)⟩, trivial⟩
     ·have h3 : only = 0 := by simpa using h3
      rw [if_neg (by simp [h3])] at hcs
      refine z6 tabOk Tryz.func203 rfl trivial (fun h4 => by cases h4) (fun _ => ?_)
      refine za tabOk Tryz.func203 rfl trivial ?_
      refine zg (next x hcs) hC hCl ?_ ⟨.refl _, .refl _, .refl _, trivial⟩ rfl rfl (Nat.le_refl _)
      exact ⟨⟨_, rfl, .refl _⟩, ⟨_, rfl, .refl _⟩, ⟨_, rfl, .refl _⟩, ⟨_, rfl, .refl _⟩, ⟨_, rfl, .of (by rw [e3])⟩, ⟨_, rfl, .of (by rw [← hget]; rfl)⟩, trivial⟩
  ·obtain rfl : i = c.length := by omega
   rw [List.drop_length, scanW] at hcs
   refine z6 tabOk Tryz.func203 rfl trivial (fun h => ?_) (fun h => ?_)
   ·have h : only = 0 := by simpa using h
    refine zp tabOk Tryz.func203 rfl trivial hC hCl (.refl _) (o2 := wkO (lookW s c)) ?_ rfl rfl (Nat.le_refl _) ⟨rfl, rfl⟩
    rw [lookW, hcs]
    simp only [h, if_true]
    exact ⟨.refl _, .refl _, .refl _, trivial⟩
   ·have h : only ≠ 0 := by simpa using h
    obtain ⟨b1, b2⟩ : va only < s.forced.length ∧ -1000000 ≤ only ∧ only ≤ 1000000 := by
     rcases z5p s.forced c 0 only hcs with e | e
     ·exact absurd e h
     ·exact hc only e
    refine zm [0, 1, 2] tabOk Tryz.func203 rfl trivial (zco s only b1 b2 hq) ⟨⟨_, rfl, .refl _⟩, ⟨_, rfl, .refl _⟩, ⟨_, rfl, .refl _⟩, trivial⟩ (.refl _) rfl rfl rfl ⟨_, rfl⟩ ?_
    rintro r o ⟨rfl, rfl⟩
    refine zp tabOk Tryz.func203 rfl trivial hC hCl (.refl _) (o2 := wkO (lookW s c)) ?_ rfl rfl (Nat.le_refl _) ⟨rfl, rfl⟩
    rw [lookW, hcs]
    simp only [if_neg h]
    exact ⟨.refl _, .refl _, .refl _, trivial⟩
@[reducible] def eIss (l : List (List Int)) : D := eL 1 eIs [] l
def gtot : List (Int × List Int) → Nat
 | [] => 0
 | (_, l) :: r => l.length + gtot r
theorem zfc (k i : Int) : ∀ G, gtot (gadd k i G) = gtot G + 1
 | [] => by simp [gadd, gtot]
 | (k', l) :: r => by
  simp only [gadd]
  split
  ·simp [gtot]; omega
  ·simp [gtot, zfc k i r]; omega
theorem zh3 (k : Int) : ∀ G, (gget k G).length ≤ gtot G
 | [] => by simp [gget]
 | (k', l) :: r => by
  simp only [gget, gtot]
  split
  ·omega
  ·have := zh3 k r; omega
def z5j (i : Int) (c : List Int) (G : List (Int × List Int)) : List (Int × List Int) := c.foldl (fun G x => gadd (-x) i G) G
def z2d : List (List Int) → Nat → List (Int × List Int) → List (Int × List Int)
 | [], _, G => G
 | c :: r, i, G => z2d r (i + 1) (z5j i c G)
def lits (l : List (List Int)) : Nat := (l.map List.length).sum
def litOk (n x : Int) : Prop := x ≠ 0 ∧ -n ≤ x ∧ x ≤ n
@[reducible] def gO (f0 : List Int) (G : List (Int × List Int)) : List (Option AObj) := some (gIs f0) :: some (.cells 265 [.gs 0, .d (.v (.slice none 0 0)), vB false]) :: some (.map (esOf 3 G)) :: z18 3 G
theorem zb7 (f0 : List Int) (G : List (Int × List Int)) : refsO (gO f0 G).length (gO f0 G) = true := by
 have h : (gO f0 G).length = G.length + 3 := by simp [gO, z8i]
 rw [h]
 have b1 : Nat.blt 0 (G.length + 3) = true := by rw [Nat.blt_eq]; omega
 simp only [gO, refsO, gL, z5x, refsBs, refsB, b1, zfm 3 (G.length + 3) G (by omega), za5]
theorem za7 {x y : AObj} (h : OLe y x) : ∀ l : List (Option AObj), subO (l ++ [some x]) (l ++ [some y])
 | [] => ⟨h, trivial⟩
 | none :: r => za7 h r
 | some o :: r => ⟨.refl o, za7 h r⟩
@[reducible] def stO (s : Wk) (G : List (Int × List Int)) : List (Option AObj) := [some (gIs s.forced), some (.cells 265 [.gs 0, .gs 3, vB s.clash]), some (.map (esD G)), some (gIs s.queue)]
theorem z4k (s : Wk) (G : List (Int × List Int)) : refsO (stO s G).length (stO s G) = true := by
 simp only [stO, refsO, gL, z5x, refsBs, refsB, zdw]; rfl
structure WkV (n : Int) (s : Wk) : Prop where
 len : s.forced.length = (n + 1).toNat
 sz : s.queue.length + s.forced.count 0 ≤ (n + 1).toNat
theorem va_lt {n x : Int} (h : litOk n x) : va x < (n + 1).toNat := by
 obtain ⟨h0, h1, h2⟩ := h
 unfold va
 omega
theorem z90 : ∀ (l : List Int) (v : Nat) (x : Int), v < l.length → l.getD v 0 = 0 → x ≠ 0 → (l.set v x).count 0 + 1 = l.count 0
 | [], v, x, h, _, _ => by simp at h
 | y :: r, 0, x, h, h0, hx => by
  have : y = 0 := by simpa using h0
  subst this
  simp [hx]
 | y :: r, v + 1, x, h, h0, hx => by
  have := z90 r v x (by simpa using h) (by simpa using h0) hx
  simp only [List.set_cons_succ, List.count_cons]
  omega
theorem z6u {n x : Int} {s : Wk} (h : litOk n x) (v : WkV n s) : WkV n (z1c s x) := by
 unfold z1c
 split
 ·exact v
 ·split
  ·rename_i h1 h2
   refine ⟨by simp [v.len], ?_⟩
   have := z90 s.forced (va x) x (by rw [v.len]; exact va_lt h) h2 h.1
   have := v.sz
   simp only [List.length_append, List.length_cons, List.length_nil]
   omega
  ·exact ⟨v.len, v.sz⟩
theorem z8r {n : Int} {s : Wk} {c : List Int} (h : ∀ x ∈ c, litOk n x) (v : WkV n s) : WkV n (lookW s c) := by
 unfold lookW
 split
 ·exact v
 ·rename_i only ho
  split
  ·exact ⟨v.len, v.sz⟩
  ·rename_i hne
   rcases z5p s.forced c 0 only ho with e | e
   ·exact absurd e hne
   ·exact z6u (h only e) v
def muW (s : Wk) : Nat := s.queue.length + s.forced.count 0
theorem zn1 {n x : Int} {s : Wk} (h : litOk n x) (v : WkV n s) : muW (z1c s x) = muW s := by
 unfold z1c muW
 split
 ·rfl
 ·split
  ·rename_i h1 h2
   have := z90 s.forced (va x) x (by rw [v.len]; exact va_lt h) h2 h.1
   simp only [List.length_append, List.length_cons, List.length_nil]
   omega
  ·rfl
theorem zov {n : Int} {s : Wk} {c : List Int} (h : ∀ x ∈ c, litOk n x) (v : WkV n s) : muW (lookW s c) = muW s := by
 unfold lookW
 split
 ·rfl
 ·rename_i only ho
  split
  ·rfl
  ·rename_i hne
   rcases z5p s.forced c 0 only ho with e | e
   ·exact absurd e hne
   ·exact zn1 (h only e) v
def zmk (l : List (List Int)) (s : Wk) (i : Int) : Wk := lookW s (l.getD i.toNat [])
def popW (l : List (List Int)) (G : List (Int × List Int)) (s : Wk) (x : Int) (q : List Int) : Wk := (gget x G).foldl (zmk l) ⟨s.forced, q, s.clash⟩
inductive Star (l : List (List Int)) (G : List (Int × List Int)) (s : Wk) : Wk → Prop
 |refl : Star l G s s
 |step {t : Wk} {x : Int} {q : List Int} (h : Star l G s t) (hc : t.clash = false) (hq : t.queue = x :: q) : Star l G s (popW l G t x q)
def z58 (n : Int) (l : List (List Int)) (a : List Int) : Wk := l.foldl lookW (a.foldl z1c ⟨List.replicate (n + 1).toNat 0, [], false⟩)
def z2h (s : Wk) : AV := if s.clash = true then .tp [.d (.v (.slice none 0 0)), vB true] else .tp [.d (eIs (s.forced.filter (· ≠ 0))), vB false]
def z6z (n : Int) (l : List (List Int)) (a : List Int) (s : Wk) : Prop := Star l (z2d l 0 []) (z58 n l a) s ∧ (s.queue = [] ∨ s.clash = true)
def DelOk : Prop := ∀ xs : List Int, xs ≠ [] → ACall Tryz.prog 204 [.gs 0, .d (.v (.func (.func 205) #[] #[]))] [some (gIs xs)] (fun r o => r = .gs 0 ∧ o = [some (gIs (xs.filter (· ≠ 0)))])
theorem zff (k k' i : Int) : ∀ G, gget k (gadd k' i G) = if k = k' then gget k G ++ [i] else gget k G
 | [] => by
  simp only [gadd, gget]
  by_cases e : k' = k
  ·simp [e]
  ·simp [e, Ne.symm e]
 | (q, l) :: r => by
  have ih := zff k k' i r
  simp only [gadd]
  by_cases e1 : q = k'
  ·subst e1
   by_cases e2 : q = k
   ·subst e2; simp [gget]
   ·simp [gget, e2, Ne.symm e2]
  ·simp only [if_neg e1, gget]
   by_cases e2 : q = k
   ·subst e2; simp [e1]
   ·simp [e2, ih]
theorem z9d (k : Int) (i : Int) : ∀ (c : List Int) G, gget k (z5j i c G) = gget k G ++ (c.filter (fun x => -x = k)).map (fun _ => i)
 | [], G => by simp [z5j]
 | x :: r, G => by
  have ih := z9d k i r (gadd (-x) i G)
  simp only [z5j, List.foldl_cons] at ih ⊢
  rw [ih, zff]
  by_cases e : -x = k
  ·simp [e]
  ·simp [e, Ne.symm e]
def idxs (k : Int) : Nat → List (List Int) → List Int
 | _, [] => []
 | i, c :: r => (c.filter (fun x => -x = k)).map (fun _ => (i : Int)) ++ idxs k (i + 1) r
theorem z4n (k : Int) : ∀ (l : List (List Int)) (i : Nat) G, gget k (z2d l i G) = gget k G ++ idxs k i l
 | [], i, G => by simp [z2d, idxs]
 | c :: r, i, G => by simp only [z2d, z4n k r (i + 1), z9d, idxs, List.append_assoc]
theorem z9v {k : Int} : ∀ {l : List (List Int)} {b : Nat} {i : Int}, i ∈ idxs k b l ↔ ∃ j : Nat, j < l.length ∧ i = ((b + j : Nat) : Int) ∧ -k ∈ l.getD j []
 | [], b, i => by simp [idxs]
 | c :: r, b, i => by
  simp only [idxs, List.mem_append, List.mem_map, List.mem_filter, decide_eq_true_eq, z9v (l := r)]
  constructor
  ·rintro (⟨x, ⟨h1, h2⟩, h3⟩ | ⟨j, h1, h2, h3⟩)
   ·refine ⟨0, by simp, by simp [h3], ?_⟩
    have : -k = x := by omega
    simpa [this] using h1
   ·exact ⟨j + 1, by simpa using h1, by rw [h2]; congr 1; omega, by simpa using h3⟩
  ·rintro ⟨j, h1, h2, h3⟩
   cases j with
   | zero => exact .inl ⟨-k, ⟨by simpa using h3, by omega⟩, by rw [h2]; simp⟩
   | succ j => exact .inr ⟨j, by simpa using h1, by rw [h2]; congr 1; omega, by simpa using h3⟩
theorem zfo (q : Nat → Bool) : ∀ G : List (Int × List Int), z8y q (esD G) = esD G
 | [] => rfl
 | (k, l) :: r => by simp [esD, z8y, AV.dropS, zfo q r]
theorem zbb (q : Nat) : ∀ G : List (Int × List Int), z4q q (esD G) = esD G
 | [] => rfl
 | (k, l) :: r => by simp [esD, z4q, AV.drop, zbb q r]
theorem OLe.esD (q : Nat → Bool) (G : List (Int × List Int)) : OLe (AObj.dropS q (.map (esD G))) (.map (Ab.esD G)) := .of (by show AObj.map (z8y q (Ab.esD G)) = _; rw [zfo])
theorem zbg (t : TK) (j : Nat) : ∀ es : List (Value × AV), keysB t (z4q j es) = keysB t es
 | [] => rfl
 | (k, x) :: r => by simp only [z4q, keysB, zbg t j r]
theorem zkr (n : Int) (l : List (List Int)) (a : List Int) (hn : 0 ≤ n ∧ n ≤ 100000) (hl : ∀ c ∈ l, ∀ x ∈ c, litOk n x) (ha : ∀ x ∈ a, litOk n x) (hb : lits l ≤ 1000000) (hdel : DelOk) :
  ACall Tryz.prog 201 [vI .i64 n, .d (eIss l), .d (eIs a)] [] (fun r o => ∃ s, z6z n l a s ∧ WkV n s ∧ r = z2h s) := by
 refine z8 Tryz.func201 rfl rfl (Nat.le_of_ble_eq_true rfl) fun C hC hCl hDs hGk => ?_
 refine z4b (t := 1) rfl fun hlen => ?_
 rw [List.length_map] at hlen
 refine z4b (t := 2) rfl fun halen => ?_
 rw [List.length_map] at halen
 have w1 : IntKind.i64.wrap (n + 1) = n + 1 := zb (by omega) (by omega)
 refine za tabOk Tryz.func201 rfl ?_ ?_
 ·refine ⟨?_, trivial⟩
  rw [w1]
  refine ⟨by omega, Int.le_refl _, ?_⟩
  show (n + 1) * (8 : Int) ≤ _
  omega
 have f0 : (List.replicate (n + 1).toNat (0 : Int)).map eI = List.replicate (n + 1).toNat (eI 0) := by simp
 refine zj (α := Nat × List (Int × List Int)) (fun s => [(0, vI .i64 n), (1, .d (eIss l)), (2, .d (eIs a)), (8, .ptr 1 0), (9, .mp 2), (27, .d (eIss l)), (28, vI .i64 l.length), (29, vI .i64 s.1)]) (fun s => gO (List.replicate (n + 1).toNat 0) s.2)
  (fun s => s.1 ≤ l.length ∧ z2d (l.drop s.1) s.1 s.2 = z2d l 0 [] ∧ gtot s.2 + lits (l.drop s.1) ≤ 1000000) (fun s => l.length - s.1) (0, []) ⟨Nat.zero_le _, rfl, by simpa [gtot] using hb⟩ ?_ ?_
 ·refine fun h => zg h hC hCl ?_ ?_ rfl rfl (Nat.zero_le _)
  ·exact ⟨⟨_, rfl, .refl _⟩, ⟨_, rfl, .refl _⟩, ⟨_, rfl, .refl _⟩, ⟨_, rfl, .refl _⟩, ⟨_, rfl, .refl _⟩, ⟨_, rfl, .refl _⟩, ⟨_, rfl, .of (by rw [List.length_map])⟩, ⟨_, rfl, .refl _⟩, trivial⟩
  ·refine ⟨.gL ?_, .refl _, .refl _, trivial⟩
   rw [f0, w1]
   rfl
 ·rintro ⟨i, G⟩ ⟨hi, hG, ht⟩ ih
  simp only at hi hG ht ⊢
  refine z6 tabOk Tryz.func201 rfl trivial (fun hb => ?_) (fun hb => ?_) <;> simp only [decide_eq_true_eq, decide_eq_false_iff_not] at hb
  ·have hlt : i < l.length := by omega
   have hget : l.getD i [] = l[i] := by simp [hlt]
   rw [List.drop_eq_getElem_cons hlt, z2d] at hG
   rw [List.drop_eq_getElem_cons hlt, lits, List.map_cons, List.sum_cons] at ht
   have hlc := hl _ (List.getElem_mem hlt)
   generalize hc : l[i] = c at *
   refine za tabOk Tryz.func201 rfl ?_ ?_
   ·simp only [Int.toNat_natCast, List.length_map]; exact ⟨⟨by omega, by omega⟩, trivial⟩
   refine zj (α := Nat × List (Int × List Int)) (fun s => [(0, vI .i64 n), (1, .d (eIss l)), (2, .d (eIs a)), (8, .ptr 1 0), (9, .mp 2), (27, .d (eIss l)), (28, vI .i64 l.length), (29, vI .i64 i), (10, vI .i64 i), (34, .d (eIs c)), (35, vI .i64 c.length), (36, vI .i64 s.1)]) (fun s => gO (List.replicate (n + 1).toNat 0) s.2)
    (fun s => s.1 ≤ c.length ∧ z5j i (c.drop s.1) s.2 = z5j i c G ∧ gtot s.2 + (c.length - s.1) + lits (l.drop (i + 1)) ≤ 1000000) (fun s => c.length - s.1) (0, G) ⟨Nat.zero_le _, rfl, by simpa [lits, Nat.add_assoc] using ht⟩ ?_ ?_
   ·refine fun h => zg h hC hCl ?_ (z4a _) rfl (zb7 _ _) (Nat.zero_le _)
    have e1 : eIs (l.getD i []) = eIs c := by rw [hget]
    exact ⟨⟨_, rfl, .refl _⟩, ⟨_, rfl, .refl _⟩, ⟨_, rfl, .refl _⟩, ⟨_, rfl, .refl _⟩, ⟨_, rfl, .refl _⟩, ⟨_, rfl, .refl _⟩, ⟨_, rfl, .refl _⟩, ⟨_, rfl, .refl _⟩, ⟨_, rfl, .refl _⟩, ⟨_, rfl, .of (by rw [← e1]; rfl)⟩, ⟨_, rfl, .of (by rw [List.length_map, ← hget]; rfl)⟩, ⟨_, rfl, .refl _⟩, trivial⟩
   ·rintro ⟨k, H⟩ ⟨hk, hH, htH⟩ ihk
    simp only at hk hH htH ⊢
    refine z6 tabOk Tryz.func201 rfl trivial (fun hb2 => ?_) (fun hb2 => ?_) <;> simp only [decide_eq_true_eq, decide_eq_false_iff_not] at hb2
    ·have hltk : k < c.length := by omega
     have hgetk : c.getD k 0 = c[k] := by simp [hltk]
     rw [List.drop_eq_getElem_cons hltk, z5j, List.foldl_cons] at hH
     have hx := hlc _ (List.getElem_mem hltk)
     generalize hxx : c[k] = x at *
     obtain ⟨x0, x1, x2⟩ := hx
     have w2 : IntKind.i64.wrap (0 - x) = -x := by rw [zb (by omega) (by omega), Int.zero_sub]
     refine z3w tabOk Tryz.func201 rfl ?_ ?_
     ·simp only [Int.toNat_natCast, List.length_map]; exact ⟨⟨by omega, by omega⟩, trivial⟩
     refine zi2 (t := 45) (b := vI .i64 (-x)) rfl (.of (by show vI .i64 (IntKind.i64.wrap (0 - c.getD k 0)) = _; rw [hgetk, w2])) ?_
     refine zi2 (t := 42) (b := vI .i64 (-x)) rfl (.of (by show vI .i64 (IntKind.i64.wrap (0 - c.getD k 0)) = _; rw [hgetk, w2])) ?_
     have hgt := zh3 (-x) H
     have next : ASat Tryz.prog 201 Tryz.f201.ntmps C _ _ _ _ := ihk (k + 1, gadd (-x) i H) ⟨by omega, hH, by rw [zfc]; omega⟩ (by omega)
     cases hp : gpos (-x) H with
     | none =>
      have hfind := zba (-x) 3 H
      rw [hp] at hfind
      refine zc7 (a := none) tabOk rfl rfl rfl rfl rfl rfl rfl rfl rfl rfl rfl (z6a 3 H) hfind rfl ?_
      refine z3w tabOk Tryz.func201 rfl ?_ ?_
      ·exact ⟨by show 1 * 8 ≤ 140737488355328; omega, trivial⟩
      refine zc4 tabOk rfl rfl rfl rfl rfl rfl rfl rfl rfl rfl rfl rfl (z6a 3 H) (z9e 3 H _ hp) ?_
      refine za tabOk Tryz.func201 rfl trivial ?_
      have e3 : IntKind.i64.wrap ((k : Int) + 1) = ((k + 1 : Nat) : Int) := zb (by omega) (by omega)
      refine zg next hC hCl ?_ ?_ rfl (zb7 _ _) (Nat.zero_le _)
      ·exact ⟨⟨_, rfl, .refl _⟩, ⟨_, rfl, .refl _⟩, ⟨_, rfl, .refl _⟩, ⟨_, rfl, .refl _⟩, ⟨_, rfl, .refl _⟩, ⟨_, rfl, .refl _⟩, ⟨_, rfl, .refl _⟩, ⟨_, rfl, .refl _⟩, ⟨_, rfl, .refl _⟩, ⟨_, rfl, .refl _⟩, ⟨_, rfl, .refl _⟩, ⟨_, rfl, .of (by rw [e3])⟩, trivial⟩
      ·rw [zfd hp]
       simp only [gO]
       rw [zc1, zix]
       refine ⟨.refl _, .refl _, .of ?_, ?_⟩
       ·show AObj.map (esOf 3 H ++ [(.int .i64 (-x), .gs ((z18 3 H).length + 1 + 1 + 1))]) = _
        rw [z8i]
       ·exact za7 (.gL rfl) _
     | some p =>
      have hfind := zba (-x) 3 H
      rw [hp] at hfind
      refine zc7 (a := some (.gs (p + 3))) tabOk rfl rfl rfl rfl rfl rfl rfl rfl rfl rfl rfl (z6a 3 H) hfind rfl ?_
      refine zh 2 tabOk Tryz.func201 rfl trivial ?_
      have hobj : objAt (gO (List.replicate (n + 1).toNat 0) H) (p + 3) = some (gL 3 1 eI 0 (gget (-x) H)) := by
       show (match nth (z18 3 H) p with | some (some o) => some o | _ => none) = _
       rw [zc0, zio hp]
       rfl
      have hap := zkc (T := tab) (t := 24) (t2 := 24) (x := .d (.sl 1 [.v (.int .i64 i)] (litRd [.v (.int .i64 i)]))) rfl rfl rfl rfl rfl rfl rfl hobj rfl
      refine zld _ tabOk rfl rfl hap ?_ rfl ?_
      ·show ((List.map eI (gget (-x) H)).length + 1) * 8 ≤ 140737488355328
       rw [List.length_map]
       omega
      refine zc4 tabOk rfl rfl rfl rfl rfl rfl rfl rfl rfl rfl rfl rfl (by rw [zbg]; exact z6a 3 H) (ziv (i := i) 3 hp) ?_
      refine za tabOk Tryz.func201 rfl trivial ?_
      have e3 : IntKind.i64.wrap ((k : Int) + 1) = ((k + 1 : Nat) : Int) := zb (by omega) (by omega)
      refine zg next hC hCl ?_ ?_ rfl (zb7 _ _) (Nat.zero_le _)
      ·exact ⟨⟨_, rfl, .refl _⟩, ⟨_, rfl, .refl _⟩, ⟨_, rfl, .refl _⟩, ⟨_, rfl, .refl _⟩, ⟨_, rfl, .refl _⟩, ⟨_, rfl, .refl _⟩, ⟨_, rfl, .refl _⟩, ⟨_, rfl, .refl _⟩, ⟨_, rfl, .refl _⟩, ⟨_, rfl, .refl _⟩, ⟨_, rfl, .refl _⟩, ⟨_, rfl, .of (by rw [e3])⟩, trivial⟩
      ·refine ⟨.refl _, .refl _, .refl _, ?_⟩
       show subO (z18 3 (gadd (-x) i H)) (zi (dropO (p + 3) (z18 3 H)) p _)
       rw [za6, ziq hp, ← zbz]
       exact zd1 (.gL (by rw [List.map_append]; rfl)) _ _
    ·obtain rfl : k = c.length := by omega
     rw [List.drop_length] at hH
     have hH : H = z5j i c G := hH
     subst hH
     refine za tabOk Tryz.func201 rfl trivial ?_
     have e3 : IntKind.i64.wrap ((i : Int) + 1) = ((i + 1 : Nat) : Int) := zb (by omega) (by omega)
     refine zg (ih (i + 1, z5j i c G) ⟨by omega, hG, by rw [Nat.sub_self, Nat.add_zero] at htH; exact htH⟩ (by omega)) hC hCl ?_ (z4a _) rfl (zb7 _ _) (Nat.zero_le _)
     exact ⟨⟨_, rfl, .refl _⟩, ⟨_, rfl, .refl _⟩, ⟨_, rfl, .refl _⟩, ⟨_, rfl, .refl _⟩, ⟨_, rfl, .refl _⟩, ⟨_, rfl, .refl _⟩, ⟨_, rfl, .refl _⟩, ⟨_, rfl, .of (by rw [e3])⟩, trivial⟩
  ·obtain rfl : i = l.length := by omega
   rw [List.drop_length] at hG
   have hG : G = z2d l 0 [] := hG
   refine za tabOk Tryz.func201 rfl trivial ?_
   refine zhs (env' := [(0, vI .i64 n), (1, .d (eIss l)), (2, .d (eIs a)), (8, .ptr 1 0), (9, .mp 2), (52, .d (eIs a)), (53, vI .i64 a.length), (54, vI .i64 0)]) (objs' := gO (List.replicate (n + 1).toNat 0) G) ?_ (z4a _) rfl (zb7 _ _) (by rw [hC]; exact Nat.zero_le _) hCl ?_
   ·exact ⟨⟨_, rfl, .refl _⟩, ⟨_, rfl, .refl _⟩, ⟨_, rfl, .refl _⟩, ⟨_, rfl, .refl _⟩, ⟨_, rfl, .refl _⟩, ⟨_, rfl, .refl _⟩, ⟨_, rfl, .of (by rw [List.length_map])⟩, ⟨_, rfl, .refl _⟩, trivial⟩
   refine zef (fun _ _ => rfl) (fun _ _ => rfl) (fun _ _ => rfl) ?_
   refine zhs (env' := [(0, vI .i64 n), (1, .d (eIss l)), (2, .d (eIs a)), (8, .ptr 1 0), (9, .mp 2), (52, .d (eIs a)), (53, vI .i64 a.length), (54, vI .i64 0)]) (objs' := [some (gIs (List.replicate (n + 1).toNat 0)), some (.cells 265 [.gs 0, .d (.v (.slice none 0 0)), vB false]), some (.map (esD G))]) ?_ ⟨.refl _, .refl _, .refl _, trivial⟩ rfl ?_ (by rw [hC]; exact Nat.zero_le _) hCl ?_
   ·exact ⟨⟨_, rfl, .refl _⟩, ⟨_, rfl, .refl _⟩, ⟨_, rfl, .refl _⟩, ⟨_, rfl, .refl _⟩, ⟨_, rfl, .refl _⟩, ⟨_, rfl, .refl _⟩, ⟨_, rfl, .refl _⟩, ⟨_, rfl, .refl _⟩, trivial⟩
   ·simp only [refsO, gL, z5x, refsBs, refsB, zdw]; rfl
   refine z5d (e' := 3) (s := 1) 1 1 (fun i => eI (([] : List Int).getD i 0)) rfl rfl ?_
   have v0 : WkV n ⟨List.replicate (n + 1).toNat 0, [], false⟩ := ⟨by simp, by simp⟩
   generalize hs0 : (⟨List.replicate (n + 1).toNat 0, [], false⟩ : Wk) = s0 at v0
   refine zj (α := Nat × Wk) (fun s => [(0, vI .i64 n), (1, .d (eIss l)), (2, .d (eIs a)), (8, .ptr 1 0), (9, .mp 2), (52, .d (eIs a)), (53, vI .i64 a.length), (54, vI .i64 s.1)]) (fun s => stO s.2 G)
    (fun s => s.1 ≤ a.length ∧ (a.drop s.1).foldl z1c s.2 = a.foldl z1c s0 ∧ WkV n s.2) (fun s => a.length - s.1) (0, s0) ⟨Nat.zero_le _, rfl, v0⟩ ?_ ?_
   ·refine fun h => zg h hC hCl ?_ ?_ rfl (z4k _ _) (Nat.zero_le _)
    ·exact ⟨⟨_, rfl, .refl _⟩, ⟨_, rfl, .refl _⟩, ⟨_, rfl, .refl _⟩, ⟨_, rfl, .refl _⟩, ⟨_, rfl, .refl _⟩, ⟨_, rfl, .refl _⟩, ⟨_, rfl, .refl _⟩, ⟨_, rfl, .refl _⟩, trivial⟩
    ·rw [← hs0]
     exact ⟨.refl _, .refl _, .refl _, .refl _, trivial⟩
   ·rintro ⟨j, s⟩ ⟨hj, hs, hv⟩ ihj
    simp only at hj hs hv ⊢
    have hql : s.queue.length ≤ 1000000 := by have := hv.sz; omega
    refine z6 tabOk Tryz.func201 rfl trivial (fun hb => ?_) (fun hb => ?_) <;> simp only [decide_eq_true_eq, decide_eq_false_iff_not] at hb
    ·have hlt : j < a.length := by omega
     have hget : a.getD j 0 = a[j] := by simp [hlt]
     rw [List.drop_eq_getElem_cons hlt, List.foldl_cons] at hs
     have hx := ha _ (List.getElem_mem hlt)
     generalize hxx : a[j] = x at *
     refine zm [1, 0, 3] tabOk Tryz.func201 rfl ?_ (zco s x (by rw [hv.len]; exact va_lt hx) (by obtain ⟨x0, x1, x2⟩ := hx; omega) hql) ⟨⟨_, rfl, .refl _⟩, ⟨_, rfl, .refl _⟩, ⟨_, rfl, .refl _⟩, trivial⟩ ⟨.refl _, .of (by show vI .i64 (a.getD j 0) = vI .i64 x; rw [hget]), trivial⟩ rfl rfl rfl ⟨_, rfl⟩ ?_
     ·simp only [Int.toNat_natCast, List.length_map]; exact ⟨⟨by omega, by omega⟩, trivial⟩
     rintro r o ⟨rfl, rfl⟩
     refine za tabOk Tryz.func201 rfl trivial ?_
     have e3 : IntKind.i64.wrap ((j : Int) + 1) = ((j + 1 : Nat) : Int) := zb (by omega) (by omega)
     refine zg (ihj (j + 1, z1c s x) ⟨by omega, hs, z6u hx hv⟩ (by omega)) hC hCl ?_ ?_ rfl (z4k _ _) (Nat.zero_le _)
     ·exact ⟨⟨_, rfl, .refl _⟩, ⟨_, rfl, .refl _⟩, ⟨_, rfl, .refl _⟩, ⟨_, rfl, .refl _⟩, ⟨_, rfl, .refl _⟩, ⟨_, rfl, .refl _⟩, ⟨_, rfl, .refl _⟩, ⟨_, rfl, .of (by rw [e3])⟩, trivial⟩
     ·exact ⟨.refl _, .refl _, OLe.esD _ _, .refl _, trivial⟩
    ·obtain rfl : j = a.length := by omega
     rw [List.drop_length, List.foldl_nil] at hs
     refine za tabOk Tryz.func201 rfl trivial ?_
     refine zj (α := Nat × Wk) (fun s => [(0, vI .i64 n), (1, .d (eIss l)), (8, .ptr 1 0), (9, .mp 2), (62, .d (eIss l)), (63, vI .i64 l.length), (64, vI .i64 s.1)]) (fun s => stO s.2 G)
      (fun t => t.1 ≤ l.length ∧ (l.drop t.1).foldl lookW t.2 = l.foldl lookW s ∧ WkV n t.2) (fun s => l.length - s.1) (0, s) ⟨Nat.zero_le _, rfl, hv⟩ ?_ ?_
     ·refine fun h => zg h hC hCl ?_ ⟨.refl _, .refl _, .refl _, .refl _, trivial⟩ rfl (z4k _ _) (Nat.zero_le _)
      exact ⟨⟨_, rfl, .refl _⟩, ⟨_, rfl, .refl _⟩, ⟨_, rfl, .refl _⟩, ⟨_, rfl, .refl _⟩, ⟨_, rfl, .refl _⟩, ⟨_, rfl, .of (by rw [List.length_map])⟩, ⟨_, rfl, .refl _⟩, trivial⟩
     rintro ⟨j, t⟩ ⟨hj, ht, htv⟩ ihj
     simp only at hj ht htv ⊢
     have hql : t.queue.length ≤ 1000000 := by have := htv.sz; omega
     refine z6 tabOk Tryz.func201 rfl trivial (fun hb => ?_) (fun hb => ?_) <;> simp only [decide_eq_true_eq, decide_eq_false_iff_not] at hb
     ·have hlt : j < l.length := by omega
      have hget : l.getD j [] = l[j] := by simp [hlt]
      rw [List.drop_eq_getElem_cons hlt, List.foldl_cons] at ht
      have hx := hl _ (List.getElem_mem hlt)
      generalize hxx : l[j] = c at *
      refine zm [1, 0, 3] tabOk Tryz.func201 rfl ?_ (zez t c (fun x hm => ⟨by rw [htv.len]; exact va_lt (hx x hm), by obtain ⟨x0, x1, x2⟩ := hx x hm; omega⟩) hql) ⟨⟨_, rfl, .refl _⟩, ⟨_, rfl, .refl _⟩, ⟨_, rfl, .refl _⟩, trivial⟩ ⟨.refl _, .of (by show AV.d (eIs (l.getD j [])) = AV.d (eIs c); rw [hget]), trivial⟩ rfl rfl rfl ⟨_, rfl⟩ ?_
      ·simp only [Int.toNat_natCast, List.length_map]; exact ⟨⟨by omega, by omega⟩, trivial⟩
      rintro r o ⟨rfl, rfl⟩
      refine za tabOk Tryz.func201 rfl trivial ?_
      have e3 : IntKind.i64.wrap ((j : Int) + 1) = ((j + 1 : Nat) : Int) := zb (by omega) (by omega)
      refine zg (ihj (j + 1, lookW t c) ⟨by omega, ht, z8r hx htv⟩ (by omega)) hC hCl ?_ ⟨.refl _, .refl _, OLe.esD _ _, .refl _, trivial⟩ rfl (z4k _ _) (Nat.zero_le _)
      exact ⟨⟨_, rfl, .refl _⟩, ⟨_, rfl, .refl _⟩, ⟨_, rfl, .refl _⟩, ⟨_, rfl, .refl _⟩, ⟨_, rfl, .refl _⟩, ⟨_, rfl, .refl _⟩, ⟨_, rfl, .of (by rw [e3])⟩, trivial⟩
     obtain rfl : j = l.length := by omega
     rw [List.drop_length, List.foldl_nil] at ht
     have hfirst : t = z58 n l a := by rw [ht, hs, ← hs0]; rfl
     refine za tabOk Tryz.func201 rfl trivial ?_
     refine zj (α := Wk) (fun s => [(0, vI .i64 n), (1, .d (eIss l)), (8, .ptr 1 0), (9, .mp 2)]) (fun s => stO s G)
      (fun u => Star l G (z58 n l a) u ∧ WkV n u) (fun u => u.queue.length + u.forced.count 0) t ⟨hfirst ▸ .refl, htv⟩ ?_ ?_
     ·refine fun h => zg h hC hCl ?_ ⟨.refl _, .refl _, .refl _, .refl _, trivial⟩ rfl (z4k _ _) (Nat.zero_le _)
      exact ⟨⟨_, rfl, .refl _⟩, ⟨_, rfl, .refl _⟩, ⟨_, rfl, .refl _⟩, ⟨_, rfl, .refl _⟩, trivial⟩
     rintro u ⟨hstar, huv⟩ ihu
     refine z6 tabOk Tryz.func201 rfl trivial (fun hb => ?_) (fun hb => ?_)
     ·have hpos : 0 < u.queue.length := by simpa using hb
      refine z6 tabOk Tryz.func201 rfl trivial (fun hb2 => ?_) (fun hb2 => ?_)
      ·have hclash : u.clash = false := by simpa using hb2
       obtain ⟨uf, uq, uc⟩ := u
       cases uq with
       | nil => simp at hpos
       | cons x q =>
       simp only at hclash huv hstar ihu ⊢
       refine z3w tabOk Tryz.func201 rfl ?_ ?_
       ·simp only [andP, List.map_cons, List.length_cons, List.length_map]
        exact ⟨by omega, by show 0 < _; omega, ⟨by omega, by omega⟩, trivial⟩
       have hfind := ziz x G
       refine zgj (b := .d (eIs (gget x G))) tabOk rfl rfl rfl rfl rfl rfl rfl rfl rfl (es := esD G) ?_ rfl (ziy G) hfind ?_ rfl ?_
       ·show some (some (AObj.map (z4q 3 (esD G)))) = _
        rw [zbb]
       ·cases hp : gpos x G with
        | none => rw [zfe hp]; exact .nil
        | some p => exact .refl _
       refine za tabOk Tryz.func201 rfl trivial ?_
       have hidx : ∀ i ∈ gget x G, 0 ≤ i ∧ i < l.length := by
        intro i hi
        rw [hG, z4n, gget, List.nil_append] at hi
        obtain ⟨j, h1, h2, _⟩ := z9v.1 hi
        omega
       have hv1 : WkV n ⟨uf, q, uc⟩ := ⟨huv.len, by have := huv.sz; simp only [List.length_cons] at this ⊢; omega⟩
       have hglen : (gget x G).length ≤ 1000000 := by have := zh3 x G; omega
       refine zj (α := Nat × Wk) (fun s => [(0, vI .i64 n), (1, .d (eIss l)), (8, .ptr 1 0), (9, .mp 2), (101, .d (eIs (gget x G))), (102, vI .i64 (gget x G).length), (103, vI .i64 s.1)]) (fun s => stO s.2 G)
        (fun t => t.1 ≤ (gget x G).length ∧ ((gget x G).drop t.1).foldl (zmk l) t.2 = popW l G ⟨uf, x :: q, uc⟩ x q ∧ WkV n t.2 ∧ muW t.2 = muW ⟨uf, q, uc⟩) (fun s => (gget x G).length - s.1) (0, ⟨uf, q, uc⟩) ⟨Nat.zero_le _, rfl, hv1, rfl⟩ ?_ ?_
       ·refine fun h => zg h hC hCl ?_ ?_ rfl (z4k _ _) (Nat.zero_le _)
        ·exact ⟨⟨_, rfl, .refl _⟩, ⟨_, rfl, .refl _⟩, ⟨_, rfl, .refl _⟩, ⟨_, rfl, .refl _⟩, ⟨_, rfl, .refl _⟩, ⟨_, rfl, .of (by rw [List.length_map])⟩, ⟨_, rfl, .refl _⟩, trivial⟩
        ·refine ⟨.refl _, .refl _, .of ?_, .gL ?_, trivial⟩
         ·show AObj.map (z4q 3 (esD G)) = _
          rw [zbb]
         ·simp only [List.map_cons, List.length_cons, List.length_map, Int.toNat_one, List.drop_one, List.tail_cons]
          exact List.take_of_length_le (by simp)
       rintro ⟨j, t⟩ ⟨hj, ht, htv, htm⟩ ihj
       simp only at hj ht htv htm ⊢
       have hql : t.queue.length ≤ 1000000 := by have := htv.sz; omega
       refine z6 tabOk Tryz.func201 rfl trivial (fun hb => ?_) (fun hb => ?_) <;> simp only [decide_eq_true_eq, decide_eq_false_iff_not] at hb
       ·have hlt : j < (gget x G).length := by omega
        have hget : (gget x G).getD j 0 = (gget x G)[j] := by simp [hlt]
        rw [List.drop_eq_getElem_cons hlt, List.foldl_cons] at ht
        have hid := hidx _ (List.getElem_mem hlt)
        generalize hxx : (gget x G)[j] = i at *
        have hlc : ∀ y ∈ l.getD i.toNat [], litOk n y := by
         have hlt : i.toNat < l.length := by omega
         have : l.getD i.toNat [] = l[i.toNat] := by simp [hlt]
         rw [this]
         exact hl _ (List.getElem_mem hlt)
        refine zm [1, 0, 3] tabOk Tryz.func201 rfl ?_ (zez t (l.getD i.toNat []) (fun y hm => ⟨by rw [htv.len]; exact va_lt (hlc y hm), by obtain ⟨x0, x1, x2⟩ := hlc y hm; omega⟩) hql) ⟨⟨_, rfl, .refl _⟩, ⟨_, rfl, .refl _⟩, ⟨_, rfl, .refl _⟩, trivial⟩ ⟨.refl _, .of (by show AV.d (eIs (l.getD ((gget x G).getD j 0).toNat [])) = AV.d (eIs (l.getD i.toNat [])); rw [hget]), trivial⟩ rfl rfl rfl ⟨_, rfl⟩ ?_
        ·simp only [Int.toNat_natCast, hget, List.length_map]
         exact ⟨⟨hid.1, hid.2⟩, ⟨by omega, by omega⟩, trivial⟩
        rintro r o ⟨rfl, rfl⟩
        refine za tabOk Tryz.func201 rfl trivial ?_
        have e3 : IntKind.i64.wrap ((j : Int) + 1) = ((j + 1 : Nat) : Int) := zb (by omega) (by omega)
        refine zg (ihj (j + 1, lookW t (l.getD i.toNat [])) ⟨by omega, ht, z8r hlc htv, (zov hlc htv).trans htm⟩ (by omega)) hC hCl ?_ ⟨.refl _, .refl _, OLe.esD _ _, .refl _, trivial⟩ rfl (z4k _ _) (Nat.zero_le _)
        exact ⟨⟨_, rfl, .refl _⟩, ⟨_, rfl, .refl _⟩, ⟨_, rfl, .refl _⟩, ⟨_, rfl, .refl _⟩, ⟨_, rfl, .refl _⟩, ⟨_, rfl, .refl _⟩, ⟨_, rfl, .of (by rw [e3])⟩, trivial⟩
       ·obtain rfl : j = (gget x G).length := by omega
        rw [List.drop_length, List.foldl_nil] at ht
        refine za tabOk Tryz.func201 rfl trivial ?_
        refine zg (ihu t ⟨?_, htv⟩ ?_) hC hCl ?_ ⟨.refl _, .refl _, .refl _, .refl _, trivial⟩ rfl (z4k _ _) (Nat.zero_le _)
        ·rw [ht]
         exact .step hstar hclash rfl
        ·have htm2 : t.queue.length + t.forced.count 0 = q.length + uf.count 0 := htm
         show t.queue.length + t.forced.count 0 < (q.length + 1) + uf.count 0
         omega
        ·exact ⟨⟨_, rfl, .refl _⟩, ⟨_, rfl, .refl _⟩, ⟨_, rfl, .refl _⟩, ⟨_, rfl, .refl _⟩, trivial⟩
      ·have hstar' := hG ▸ hstar
       have hc2 : u.clash = true := by simpa using hb2
       refine z6 tabOk Tryz.func201 rfl trivial (fun hc => ?_) (fun hc => ?_)
       ·refine z7 tabOk Tryz.func201 rfl trivial ⟨u, ⟨hstar', .inr hc2⟩, huv, ?_⟩
        show AV.tp [_, _] = z2h u
        rw [z2h, if_pos hc]
       ·refine zm [0] tabOk Tryz.func201 rfl trivial (hdel u.forced (by intro e; have := huv.len; rw [e] at this; simp at this; omega)) ⟨⟨_, rfl, .refl _⟩, trivial⟩ (.refl _) rfl rfl rfl ⟨_, rfl⟩ ?_
        rintro r o ⟨rfl, rfl⟩
        refine zy 0 rfl ?_
        refine z7 tabOk Tryz.func201 rfl trivial ⟨u, ⟨hstar', .inr hc2⟩, huv, ?_⟩
        rw [z2h, if_neg (by rw [hc]; decide)]
        rfl
     ·have hstar' := hG ▸ hstar
      have hq : u.queue = [] := by
       have : ¬ 0 < u.queue.length := by simpa using hb
       exact List.length_eq_zero_iff.1 (by omega)
      refine z6 tabOk Tryz.func201 rfl trivial (fun h4 => by cases h4) (fun _ => ?_)
      refine z6 tabOk Tryz.func201 rfl trivial (fun hc => ?_) (fun hc => ?_)
      ·refine z7 tabOk Tryz.func201 rfl trivial ⟨u, ⟨hstar', .inl hq⟩, huv, ?_⟩
       show AV.tp [_, _] = z2h u
       rw [z2h, if_pos hc]
      ·refine zm [0] tabOk Tryz.func201 rfl trivial (hdel u.forced (by intro e; have := huv.len; rw [e] at this; simp at this; omega)) ⟨⟨_, rfl, .refl _⟩, trivial⟩ (.refl _) rfl rfl rfl ⟨_, rfl⟩ ?_
       rintro r o ⟨rfl, rfl⟩
       refine zy 0 rfl ?_
       refine z7 tabOk Tryz.func201 rfl trivial ⟨u, ⟨hstar', .inl hq⟩, huv, ?_⟩
       rw [z2h, if_neg (by rw [hc]; decide)]
       rfl
end Go.Proofs.YtkemmijjpclckaaGreatDoor
