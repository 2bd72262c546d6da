/- append. -/
import Derived.Test.YtdnpkeahgpbkoaaAb17
set_option linter.unusedSimpArgs false
set_option linter.unusedVariables false
namespace Ab
open Go

/-- The elements that are appended. -/
def elemsOf (objs : List (Option AObj)) (s : Nat) (x : AV) : Option (List D × (Nat → D)) :=
  match x with
  | .d (.sl s' ys rd) => match Nat.beq s' s with | true => some (ys, rd) | false => none
  | .d (.v (.slice none 0 0)) => some ([], fun _ => .v undef)
  | .e0 _ => some ([], fun _ => .v undef)
  | .gs k => match objAt objs k with
    | some (.grow _ s' ys rd) => match Nat.beq s' s with | true => some (ys, rd) | false => none
    | _ => none
  | _ => none

theorem run_loadRow {P : Program} {w : World} {b o : Nat} {us : List Value} (hm : ∀ j, j < us.length → w.cell? ⟨b, o + j, none⟩ = us[j]?) : (loadCells ⟨b, o, none⟩ us.length).run P w = .ok us.toArray w := by
  have := run_loadCellsFrom (P := P) (w := w) (b := b) (o := o) us 0 #[] (fun j hj => by simpa using hm j hj)
  simpa [loadCells] using this

theorem elems_rel {P : Program} {X : Nat → Prop} {π : List Value} {objs : List (Option AObj)} {w : World} (m : Mem X π objs w) {s : Nat} {x : AV} {ys : List D} {rd : Nat → D} {v : Value} (h : elemsOf objs s x = some (ys, rd)) (hx : RelV w (okOf X π objs) π x v) :
    ∃ A c us, v = .slice A ys.length c ∧ RelE w (okOf X π objs) s ys us ∧ (∀ w', Ext w w' → (Builtin.firstCells s ys.length v).run P w' = .ok us.toArray w') ∧ (∀ i, i < ys.length → ys[i]? = some (rd i)) := by
  unfold elemsOf at h
  split at h
  · split at h
    · rename_i s' _ _ _ hs
      have hs' : s' = s := by simpa using hs
      subst hs'
      cases h
      cases hx with
      | d hx => cases hx with
        | nil hb =>
          rename_i c A
          refine ⟨A, c, [], rfl, .nil, fun w' _ => ?_, fun i hi => by simp at hi⟩
          cases A <;> simp [Builtin.firstCells, loadCells, loadCellsFrom]
        | sl he hm hc hb hr =>
          rename_i b o c us
          refine ⟨_, _, us, rfl, he, fun w' hw => ?_, hr⟩
          have hl := he.length
          have := run_loadRow (P := P) (w := w') (b := b) (o := o) (us := us) (fun j hj => by
            have := (hm j hj).2
            rw [List.getElem?_eq_getElem hj] at this ⊢
            exact hw.cell this)
          rw [hl] at this
          simpa [Builtin.firstCells] using this
    · cases h
  · cases h
    cases hx with | d hx => cases hx with | v _ =>
    exact ⟨_, _, [], rfl, .nil, fun w' _ => by simp [Builtin.firstCells], fun i hi => by simp at hi⟩
  · cases h
    cases hx
    rename_i A
    refine ⟨A, 0, [], rfl, .nil, fun w' _ => ?_, fun i hi => by simp at hi⟩
    cases A <;> simp [Builtin.firstCells, loadCells, loadCellsFrom]
  · split at h
    · rename_i k e s' ys' rd' ho
      split at h
      · rename_i hs
        have hs' : s' = s := by simpa using hs
        subst hs'
        cases h
        obtain ⟨hd, hp, hrel⟩ := m.obj _ _ (objAt_eq ho)
        cases hx with
        | gs hh =>
          rw [hh] at hp
          cases hp
          cases hrel with
          | gnil =>
            rename_i A
            refine ⟨A, 0, [], rfl, .nil, fun w' _ => ?_, fun i hi => by simp at hi⟩
            cases A <;> simp [Builtin.firstCells, loadCells, loadCellsFrom]
          | grow hb hz he hu hc2 hm2 ho2 hr2 =>
            rename_i b o c us vs fz
            refine ⟨_, _, us, rfl, he, fun w' hw => ?_, hr2⟩
            have hl := he.length
            have := run_loadRow (P := P) (w := w') (b := b) (o := o) (us := us) (fun j hj => by
              have h1 := (cell_of_heap (i := o + j) hb).trans (hu j hj)
              rw [List.getElem?_eq_getElem hj] at h1 ⊢
              exact hw.cell h1)
            rw [hl] at this
            simpa [Builtin.firstCells] using this
      · cases h
    · cases h
  · cases h

theorem zeroCells_length (z : Array Value) (n : Nat) : (Builtin.zeroCells z n).size = n * z.size := by simp [Builtin.zeroCells]

/-- The machine at 'append', a slice behind it that fits. -/
theorem run_append_in {P : Program} {w w' : World} {t t2 ty e : TypeId} {rest : List TypeId} {i : TypeInfo} (ht : P.underlying t = some (.slice e)) (ht2 : ∃ e2, P.underlying t2 = some (.slice e2)) (hi : P.info? e = some i)
    {A : Option Addr} {n c m : Nat} {A2 : Option Addr} {c2 : Nat} {us : List Value} (hfit : n + m ≤ c)
    (h2 : (Builtin.firstCells i.size m (.slice A2 m c2)).run P w = .ok us.toArray w)
    (hs : (match A with | some a => storeCells (a.add (n * i.size)) us | none => pure ()).run P w = .ok () w') :
    (Builtin.append_ ⟨t :: t2 :: rest⟩ ty #[.slice A n c, .slice A2 m c2]).run P w = .ok (.slice A (n + m) c) w' := by
  obtain ⟨e2, ht2⟩ := ht2
  simp [Builtin.append_, hfit, h2, run_underlying ht, run_underlying ht2, run_sizeOf hi, Builtin.lenOf]
  cases A with
  | none =>
    simp only [Sem.run_pure] at hs
    cases hs
    rfl
  | some a =>
    simp only at hs
    simp [hs]

theorem run_append_grow {P : Program} {w : World} {t t2 ty e : TypeId} {rest : List TypeId} {i : TypeInfo} (ht : P.underlying t = some (.slice e)) (ht2 : ∃ e2, P.underlying t2 = some (.slice e2)) (hi : P.info? e = some i)
    {z : Value} (hz : i.zero = some z)
    {A : Option Addr} {n c m : Nat} {A2 : Option Addr} {c2 : Nat} {us1 us : List Value} (hfit : ¬ n + m ≤ c) (hb : (n + m) * i.bytes ≤ 140737488355328) (hm : n + m ≤ maxLen) (hb0 : i.bytes ≠ 0)
    (h1 : ∀ w', Ext w w' → (Builtin.firstCells i.size n (.slice A n c)).run P w' = .ok us1.toArray w')
    (h2 : ∀ w', Ext w w' → (Builtin.firstCells i.size m (.slice A2 m c2)).run P w' = .ok us.toArray w') :
    ∃ (cap : Nat) (w1 : World), n + m ≤ cap ∧ cap ≤ maxLen ∧ w1.heap = w.heap ∧ w1.os = w.os ∧ w1.tape = w.tape ∧ (w1.output = w.output ∧ w.drawn ≤ w1.drawn) ∧
      (Builtin.append_ ⟨t :: t2 :: rest⟩ ty #[.slice A n c, .slice A2 m c2]).run P w = .ok (.slice (some ⟨w.heap.size, 0, none⟩) (n + m) cap) (w1.alloc (.cells (us1 ++ us ++ (Builtin.zeroCells z.cells (cap - (n + m))).toList).toArray e)) := by
  obtain ⟨e2, ht2⟩ := ht2
  have hg := growslice_fits (need := n + m) (old := c) (bytes := i.bytes) (by omega) hb
  have hml : maxLen = 9223372036854775807 := rfl
  refine ⟨(n + m) + w.tape w.drawn (.appendCap (n + m) c e) % (2 ^ 63 - (n + m)), { w with drawn := w.drawn + 1 }, by omega, ?_, rfl, rfl, rfl, ⟨rfl, Nat.le_succ _⟩, ?_⟩
  · have : w.tape w.drawn (.appendCap (n + m) c e) % (2 ^ 63 - (n + m)) < 2 ^ 63 - (n + m) := Nat.mod_lt _ (by omega)
    omega
  · have hask : ∀ (b : Nat) (w' : World), (askRoom b).run P w' = .ok () w' := by
      intro b w'
      unfold askRoom
      split <;> rfl
    have e1 := h1 w.drew (fun _ _ => rfl)
    have e2' := h2 w.drew (fun _ _ => rfl)
    have hng : ¬ (281474976710656 < Builtin.nextslicecap (n + m) c * i.bytes) := by omega
    simp [Builtin.append_, hfit, run_underlying ht, run_underlying ht2, run_sizeOf hi, Builtin.lenOf, run_typeInfo _ hi, hb0, hng, choose, Sem.run, Question.forced, Question.cut, hask, e1, e2', zeroValue, hz, run_newRow]
    have ha : ∀ (a b : List Value) (x : Array Value), a.toArray ++ (b.toArray ++ x) = (a ++ (b ++ x.toList)).toArray := by
      intro a b x
      apply Array.ext'
      simp
    rw [ha]

theorem zeroCells_len (z : Array Value) (n : Nat) : (Builtin.zeroCells z n).size = n * z.size := by simp [Builtin.zeroCells]

def catRd (n : Nat) (rd rd2 : Nat → D) (j : Nat) : D := match Nat.blt j n with | true => rd j | false => rd2 (j - n)
theorem catRd_ok {xs ys : List D} {rd rd2 : Nat → D} (h1 : ∀ i, i < xs.length → xs[i]? = some (rd i)) (h2 : ∀ i, i < ys.length → ys[i]? = some (rd2 i)) : ∀ i, i < (xs ++ ys).length → (xs ++ ys)[i]? = some (catRd xs.length rd rd2 i) := by
  intro i hi
  unfold catRd
  by_cases h : i < xs.length
  · have e : Nat.blt i xs.length = true := by simpa [Nat.blt_eq] using h
    rw [e, List.getElem?_append_left h]
    exact h1 i h
  · have e : Nat.blt i xs.length = false := by
      rw [Bool.eq_false_iff]
      intro e'
      exact h (by simpa [Nat.blt_eq] using e')
    rw [e, List.getElem?_append_right (by omega)]
    rw [List.length_append] at hi
    exact h2 _ (by omega)

/-- append(s, x...). -/
def eAppend (T : Tab) (t t2 : TypeId) (objs : List (Option AObj)) (s x : AV) : Option EOut :=
  match tlook T t with
  | none => none
  | some r => match r.kd with
    | .slice e => match tlook T e with
      | none => none
      | some re => match tlook T t2 with
        | none => none
        | some r2 => match r2.kd with
          | .slice _ => match elemsOf objs re.size x with
            | none => none
            | some (ys, rd2) => match Nat.beq re.bytes 0 with
              | true => none
              | false => match s with
                | .d (.v (.slice none 0 0)) => some ⟨some (ys.length * re.bytes ≤ 140737488355328), false, .gs objs.length, none, objs ++ [some (.grow e re.size ys rd2)]⟩
                | .e0 _ => some ⟨some (ys.length * re.bytes ≤ 140737488355328), false, .gs objs.length, none, objs ++ [some (.grow e re.size ys rd2)]⟩
                | .gs i => match objAt objs i with
                  | some (.grow e' s' xs rd) => match Nat.beq s' re.size with
                    | true => match Nat.beq e' e with
                      | true => some ⟨some ((xs.length + ys.length) * re.bytes ≤ 140737488355328), false, .gs i, some i, setNth (dropO i objs) i (some (.grow e' s' (xs ++ ys) (catRd xs.length rd rd2)))⟩
                      | false => none
                    | false => none
                  | _ => none
                | _ => none
          | _ => none
    | _ => none

end Ab
