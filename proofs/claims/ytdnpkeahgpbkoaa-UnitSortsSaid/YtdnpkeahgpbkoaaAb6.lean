/- Operations that only read: memory, parts, cuts. -/
import Derived.Test.YtdnpkeahgpbkoaaAb5
namespace Ab
open Go

theorem addr_add (b o n : Nat) : (⟨b, o, none⟩ : Addr).add n = ⟨b, o + n, none⟩ := by
  unfold Addr.add
  split
  · simp_all
  · rfl

theorem run_load_cell {P : Program} {w : World} {a : Addr} {v : Value} (h : w.cell? a = some v) : (load a).run P w = .ok v w := by
  simp [load, Sem.run, h]

theorem run_loadCellsFrom {P : Program} {w : World} {b o : Nat} : ∀ (us : List Value) (i : Nat) (acc : Array Value), (∀ j, j < us.length → w.cell? ⟨b, o + i + j, none⟩ = us[j]?) →
    (loadCellsFrom ⟨b, o, none⟩ i us.length acc).run P w = .ok (acc ++ us.toArray) w
  | [], i, acc, _ => by simp [loadCellsFrom]
  | u :: us, i, acc, h => by
    have h0 := h 0 (by simp)
    simp only [Nat.add_zero, List.getElem?_cons_zero] at h0
    have ih := run_loadCellsFrom (P := P) (w := w) (b := b) (o := o) us (i + 1) (acc.push u) (fun j hj => by
      have := h (j + 1) (by simpa using hj)
      rw [show o + (i + 1) + j = o + i + (j + 1) by omega]
      simpa using this)
    simp only [List.length_cons, loadCellsFrom, Sem.run_bind, addr_add, run_load_cell h0, Result.andThen_ok, ih]
    simp

theorem run_loadVar {P : Program} {w : World} {t : TypeId} {r : TRow} (hr : RowOk P t r) {b o : Nat} {us : List Value} (hm : ∀ j, j < us.length → w.cell? ⟨b, o + j, none⟩ = us[j]?)
    (hl : r.isAgg = true → us.length = r.size) (h1 : r.isAgg = false → us.length = 1) :
    (loadVar t ⟨b, o, none⟩).run P w = .ok (if r.isAgg = true then .agg us.toArray else us.headD (.tuple #[])) w := by
  simp only [loadVar, Sem.run_bind, hr.agg, Result.andThen_ok]
  cases h : r.isAgg
  · have := h1 h
    obtain ⟨u, rfl⟩ : ∃ u, us = [u] := List.length_eq_one_iff.1 this
    have h0 := hm 0 (by simp)
    simp only [Nat.add_zero, List.getElem?_cons_zero] at h0
    simp [run_load_cell h0]
  · have h0 := hl h
    have := run_loadCellsFrom (P := P) (w := w) (b := b) (o := o) us 0 #[] (fun j hj => by simpa using hm j hj)
    simp only [if_true, Sem.run_bind, hr.sizeOf, Result.andThen_ok, loadCells, ← h0, this]
    simp

def allD : List AV → Option (List D)
  | [] => some []
  | x :: r => match x with
    | .d y => match allD r with
      | some ys => some (y :: ys)
      | none => none
    | _ => none
theorem allD_eq : ∀ {l : List AV} {ds : List D}, allD l = some ds → l = ds.map .d
  | [], ds, h => by simp [allD] at h; subst h; rfl
  | x :: r, ds, h => by
    simp only [allD] at h
    split at h
    · split at h
      · rename_i ys hy
        cases h
        simp [allD_eq hy]
      · cases h
    · cases h
def mkAg (cs : List AV) : AV := match allD cs with | some ds => .d (.ag ds) | none => .ag cs

theorem RelVs.toL {w : World} {ok : Nat → Prop} {π : List Value} : ∀ {ds : List D} {vs : List Value}, RelVs w ok π (ds.map .d) vs → (∀ v ∈ vs, flat v = true) → RelL w ok ds vs
  | [], _, h, _ => by cases h; exact .nil
  | d :: ds, _, h, hf => by
    cases h with
    | cons h t =>
      cases h with
      | d h => exact .cons h (hf _ (by simp)) (t.toL (fun v hv => hf v (by simp [hv])))
theorem mkAg_rel {w : World} {ok : Nat → Prop} {π : List Value} {cs : List AV} {vs : List Value} (h : RelVs w ok π cs vs) (hf : ∀ v ∈ vs, flat v = true) : RelV w ok π (mkAg cs) (.agg vs.toArray) := by
  unfold mkAg
  split
  · rename_i ds hd
    have := allD_eq hd
    subst this
    exact .d (.ag (h.toL hf))
  · exact .ag h hf

def takeN {α : Type} : Nat → List α → Option (List α)
  | 0, _ => some []
  | _ + 1, [] => none
  | n + 1, x :: r => match takeN n r with | some l => some (x :: l) | none => none
theorem takeN_eq {α : Type} : ∀ {n : Nat} {l r : List α}, takeN n l = some r → r = l.take n ∧ r.length = n
  | 0, l, r, h => by simp [takeN] at h; subst h; simp
  | n + 1, [], r, h => by simp [takeN] at h
  | n + 1, x :: l, r, h => by
    simp only [takeN] at h
    split at h
    · rename_i l' hl
      cases h
      have := takeN_eq hl
      exact ⟨by rw [List.take_succ_cons, ← this.1], by rw [List.length_cons, this.2]⟩
    · cases h
def dropN {α : Type} : Nat → List α → List α
  | 0, l => l
  | _ + 1, [] => []
  | n + 1, _ :: r => dropN n r
theorem dropN_eq {α : Type} : ∀ (n : Nat) (l : List α), dropN n l = l.drop n
  | 0, l => by simp [dropN]
  | n + 1, [] => by simp [dropN]
  | n + 1, x :: l => by simp [dropN, dropN_eq n l]

/-- A value of a type of so many cells (struct or not) out of cells. -/
def cut1 (agg : Bool) (size off : Nat) (cs : List AV) : PR :=
  match agg with
  | true => match takeN size (dropN off cs) with | some us => .ok (mkAg us) | none => .no
  | false => match nth cs off with | some a => .ok a | none => .no

def objAt (objs : List (Option AObj)) (i : Nat) : Option AObj := match nth objs i with | some (some o) => some o | _ => none
theorem objAt_eq {objs : List (Option AObj)} {i : Nat} {o : AObj} (h : objAt objs i = some o) : nth objs i = some (some o) := by
  unfold objAt at h
  split at h
  · cases h; assumption
  · cases h

def pLoad (T : Tab) (t : TypeId) (objs : List (Option AObj)) (a : AV) : PR :=
  match tlook T t with
  | none => .no
  | some r => match a with
    | .ptr i off => match objAt objs i with
      | some (.cells _ cs) => cut1 r.isAgg r.size off cs
      | _ => .no
    | .ro cs => cut1 r.isAgg r.size 0 (cs.map .d)
    | .ge i s j off => match objAt objs i with
      | some (.grow _ s' xs rd) => match Nat.beq s s' with
        | true => match cut1 r.isAgg r.size off ((rd j).cells.map .d) with
          | .ok v => .iff (j < xs.length) v
          | _ => .no
        | false => .no
      | _ => .no
    | _ => .no

theorem cut1_ok {P : Program} {w : World} {ok : Nat → Prop} {π : List Value} {t : TypeId} {r : TRow} (hr : RowOk P t r) {b o off : Nat} {cs : List AV} {us : List Value} (h : RelVs w ok π cs us) (hf : ∀ v ∈ us, flat v = true)
    (hm : ∀ j, j < us.length → w.cell? ⟨b, o + j, none⟩ = us[j]?) {a : AV} (hc : cut1 r.isAgg r.size off cs = .ok a) : Yields P w ok π a (loadVar t ⟨b, o + off, none⟩) := by
  unfold cut1 at hc
  split at hc
  · rename_i ha
    split at hc
    · rename_i vs hv
      cases hc
      obtain ⟨e1, e2⟩ := takeN_eq hv
      rw [dropN_eq] at e1
      have hus := h.length
      have hlen : ((us.drop off).take r.size).length = r.size := by
        have h1 : ((cs.drop off).take r.size).length = r.size := by rw [← e1]; exact e2
        rw [List.length_take, List.length_drop] at h1 ⊢
        omega
      refine ⟨.agg ((us.drop off).take r.size).toArray, ?_, fun w' hw => ?_⟩
      · rw [e1]
        exact mkAg_rel ((h.drop_ off).take r.size) (fun v hv => hf v (List.mem_of_mem_drop (List.mem_of_mem_take hv)))
      · have := run_loadVar (P := P) (w := w') hr (b := b) (o := o + off) (us := (us.drop off).take r.size) (fun j hj => by
          rw [hlen] at hj
          have hj' : off + j < us.length := by
            rw [List.length_take, List.length_drop] at hlen
            omega
          have h1 := hm (off + j) hj'
          rw [List.getElem?_eq_getElem hj'] at h1
          rw [Nat.add_assoc, hw.cell h1, List.getElem?_take, if_pos hj, List.getElem?_drop, List.getElem?_eq_getElem hj']) (fun _ => hlen) (fun e => by rw [ha] at e; cases e)
        simpa [ha] using this
    · cases hc
  · rename_i ha
    split at hc
    · rename_i x hx
      cases hc
      obtain ⟨v, hv, hrel⟩ := h.get hx
      refine ⟨v, hrel, fun w' hw => ?_⟩
      have hj : off < us.length := (List.getElem?_eq_some_iff.1 hv).1
      have h1 := hm off hj
      rw [hv] at h1
      have := run_loadVar (P := P) (w := w') hr (b := b) (o := o + off) (us := [v]) (fun j hj => by
        obtain rfl : j = 0 := by simpa using hj
        simpa using hw.cell h1) (fun e => by rw [ha] at e; cases e) (fun _ => rfl)
      simpa [ha] using this
    · cases hc

theorem cell_of_heap {w : World} {b i : Nat} {vs : List Value} {e : TypeId} {fz : Nat × Nat} (h : w.heap[b]? = some (.cells vs.toArray e fz)) : w.cell? ⟨b, i, none⟩ = vs[i]? := by
  simp [World.cell?, h]

theorem pLoad_ok {P : Program} {T : Tab} (hT : TabOk P T) {X : Nat → Prop} {π : List Value} {objs : List (Option AObj)} {w : World} (m : Mem X π objs w) {t : TypeId} {a : AV} {v : Value}
    (ha : RelV w (okOf X π objs) π a v) : PRok P w (okOf X π objs) π (pLoad T t objs a) (Instr.loadAt t v) := by
  unfold pLoad
  split
  · trivial
  · rename_i r hr
    have hrow := tab_row hT hr
    split
    · rename_i i off
      split
      · rename_i e cs ho
        obtain ⟨h, hp, hrel⟩ := m.obj _ _ (objAt_eq ho)
        cases ha with
        | ptr hh =>
          rw [hh] at hp
          cases hp
          cases hrel with
          | cells hb hvs hf =>
            cases hcut : cut1 r.isAgg r.size off cs with
            | ok a =>
              have := cut1_ok hrow hvs hf (o := 0) (fun j hj => by rw [cell_of_heap hb]; simp) hcut
              simpa [Instr.loadAt, Instr.sureAddr, PRok] using this
            | iff c a => exact absurd hcut (by unfold cut1; split <;> split <;> simp)
            | no => trivial
      · trivial
    · rename_i cs
      cases ha with
      | ro hl hm =>
        cases hcut : cut1 r.isAgg r.size 0 (cs.map .d) with
        | ok a =>
          have := cut1_ok hrow (hl.toVs (π := π)) hl.flat (fun j hj => (hm j hj).2) hcut
          simpa [Instr.loadAt, Instr.sureAddr, PRok] using this
        | iff c a => exact absurd hcut (by unfold cut1; split <;> split <;> simp)
        | no => trivial
    · rename_i i s j off
      split
      · rename_i e s' xs rd ho
        split
        · rename_i hs
          have hs' : s = s' := by simpa using hs
          subst hs'
          split
          · rename_i a hcut
            intro hj
            obtain ⟨h, hp, hrel⟩ := m.obj _ _ (objAt_eq ho)
            cases ha with
            | ge hh =>
              rw [hh] at hp
              cases hp
              cases hrel with
              | gnil => exact absurd hj (by simp)
              | grow hb hz he hu hc hm2 ho2 hr2 =>
                rename_i us vs fz
                have hx := hr2 j hj
                rw [List.getElem?_eq_getElem hj] at hx
                have hx : xs[j] = rd j := by simpa using hx
                have hcell := he.get hj
                rw [hx] at hcell
                have hlen := he.length
                have := cut1_ok (off := off) hrow (hcell.toVs (π := π)) hcell.flat (b := _) (o := _ + j * s) (fun q hq => by
                  rw [List.length_take, List.length_drop] at hq
                  have h1 := hu (j * s + q) (by omega)
                  rw [cell_of_heap hb, Nat.add_assoc, h1, List.getElem?_take, if_pos (by omega), List.getElem?_drop]) hcut
                simpa [Instr.loadAt, Instr.sureAddr] using this
          · trivial
        · trivial
      · trivial
    · trivial

end Ab
