/- Conversions, tuples, interfaces, functions, structs that are built. -/
import Derived.Test.YtdnpkeahgpbkoaaAb9
namespace Ab
open Go

def numD : D → Int
  | .v (.int .u8 n) => n
  | _ => 0
theorem byteD_num {x : D} (h : isByteD x = true) : byteD x = UInt8.ofNat (numD x).toNat := by
  cases x <;> try (simp [isByteD] at h; done)
  rename_i v
  cases v <;> try (simp [isByteD] at h; done)
  rename_i k n
  cases k <;> first | rfl | (simp [isByteD] at h; done)

theorem RelE.nums {w : World} {ok : Nat → Prop} : ∀ {xs : List D} {us : List Value}, RelE w ok 1 xs us → (∀ x ∈ xs, isByteD x = true) → us = (xs.map numD).map (Value.int .u8)
  | _, _, .nil, _ => rfl
  | _, _, .cons (x := x) (us := us) h hl t, hb => by
    have ih := t.nums (fun x hx => hb x (by simp [hx]))
    have hx := hb x (by simp)
    cases x <;> try (simp [isByteD] at hx; done)
    rename_i v
    cases v <;> try (simp [isByteD] at hx; done)
    rename_i k n
    cases k <;> try (simp [isByteD] at hx; done)
    cases h with
    | cons hd _ t' =>
      cases t'
      cases hd
      rw [ih]
      rfl

theorem run_bytesStr {P : Program} {b o c : Nat} {xs : List D} {us : List Value} {w : World} {ok : Nat → Prop} (he : RelE w ok 1 xs us) (hb : ∀ x ∈ xs, isByteD x = true) {w' : World}
    (hm : ∀ i, i < us.length → w'.cell? ⟨b, o + i, none⟩ = us[i]?) : (Conv.bytesToString (.slice (some ⟨b, o, none⟩) xs.length c)).run P w' = .ok (.string (strD xs)) w' := by
  have h1 := he.nums hb
  have hl := he.length
  have hload : (loadCells ⟨b, o, none⟩ xs.length).run P w' = .ok ((xs.map numD).map (Value.int .u8)).toArray w' := by
    have := run_loadCellsFrom (P := P) (w := w') (b := b) (o := o) us 0 #[] (fun j hj => by simpa using hm j hj)
    rw [hl, Nat.mul_one] at this
    rw [← h1]
    simpa [loadCells] using this
  rw [run_bytesToString w' _ xs.length c _ hload, foldl_push_bytes]
  have e : (xs.map numD).map (fun n => UInt8.ofNat n.toNat) = xs.map byteD := by
    rw [List.map_map]
    exact List.map_congr_left (fun x hx => (byteD_num (hb x hx)).symm)
  rw [e]
  simp [strD, ByteArray.empty, ByteArray.emptyWithCapacity]
  rfl

theorem pConv_ok {P : Program} {T : Tab} (hT : TabOk P T) {X : Nat → Prop} {π : List Value} {objs : List (Option AObj)} {w : World} (m : Mem X π objs w) {src dst : TypeId} {x : AV} {v : Value}
    (hx : RelV w (okOf X π objs) π x v) : PRok P w (okOf X π objs) π (pConv T src dst objs x) (convert src dst v) := by
  unfold pConv
  split
  · trivial
  · rename_i rs hrs
    obtain ⟨ds, hds⟩ := some_type hT hrs
    split
    · trivial
    · rename_i rd hrd
      split
      · cases hx with | d hx => cases hx with | v _ =>
        split
        · rename_i k hk
          have hd := int_type hT hrd hk
          exact yields_val rfl (fun w' => by simp [convert, run_underlying hds, run_underlying hd, Conv.intToInt])
        · trivial
      · cases hx with | d hx => cases hx with | v _ =>
        split
        · rename_i hk
          have hd := str_type hT hrd hk
          exact yields_val rfl (fun w' => by simp [convert, run_underlying hds, run_underlying hd])
        · trivial
      · rename_i s xs rdr
        split
        · rename_i e hke
          have hs := slice_elem hT hrs hke
          split
          · trivial
          · rename_i re hre
            split
            · rename_i hk8
              have he := int_type hT hre hk8
              split
              · rename_i hkd
                have hd := str_type hT hrd hkd
                split
                · rename_i hs1
                  have hs1' : s = 1 := by simpa using hs1
                  subst hs1'
                  intro hb
                  cases hx with
                  | d hx => cases hx with
                    | nil _ =>
                      rename_i c A _
                      refine yields_val rfl (fun w' => ?_)
                      cases A with
                      | none =>
                        rw [run_convert_bytes_string w' src dst e _ 0 c hs he hd]
                        simp [Conv.bytesToString, strD, ByteArray.empty, ByteArray.emptyWithCapacity]
                        rfl
                      | some a =>
                        rw [run_convert_bytes_string w' src dst e _ 0 c hs he hd]
                        rw [run_bytesToString w' a 0 c [] (by simp [loadCells, loadCellsFrom])]
                        simp [strD, ByteArray.empty, ByteArray.emptyWithCapacity]
                        rfl
                    | sl hE hm hcap hmax hr =>
                      rename_i b o c us
                      refine ⟨_, .d (.v rfl), fun w' hw => ?_⟩
                      rw [run_convert_bytes_string w' src dst e _ xs.length c hs he hd]
                      exact run_bytesStr hE hb (fun i hi => by
                        have := (hm i hi).2
                        rw [List.getElem?_eq_getElem hi] at this ⊢
                        exact hw.cell this)
                · trivial
              · trivial
            · trivial
        · trivial
      · rename_i k
        split
        · rename_i e0 s xs rdr ho
          split
          · rename_i e hke
            have hs := slice_elem hT hrs hke
            split
            · trivial
            · rename_i re hre
              split
              · rename_i hk8
                have he := int_type hT hre hk8
                split
                · rename_i hkd
                  have hd := str_type hT hrd hkd
                  split
                  · rename_i hs1
                    have hs1' : s = 1 := by simpa using hs1
                    subst hs1'
                    intro hb
                    obtain ⟨h, hp, hrel⟩ := m.obj _ _ (objAt_eq ho)
                    cases hx with
                    | gs hh =>
                      rw [hh] at hp
                      cases hp
                      cases hrel with
                      | gnil =>
                        rename_i A
                        refine yields_val rfl (fun w' => ?_)
                        cases A with
                        | none =>
                          rw [run_convert_bytes_string w' src dst e _ 0 0 hs he hd]
                          simp [Conv.bytesToString, strD, ByteArray.empty, ByteArray.emptyWithCapacity]
                          rfl
                        | some a =>
                          rw [run_convert_bytes_string w' src dst e _ 0 0 hs he hd]
                          rw [run_bytesToString w' a 0 0 [] (by simp [loadCells, loadCellsFrom])]
                          simp [strD, ByteArray.empty, ByteArray.emptyWithCapacity]
                          rfl
                      | grow hb2 hz hE hu hc2 hm2 ho2 hr2 =>
                        rename_i b o c us vs fz
                        refine ⟨_, .d (.v rfl), fun w' hw => ?_⟩
                        rw [run_convert_bytes_string w' src dst e _ xs.length _ hs he hd]
                        exact run_bytesStr hE hb (fun i hi => by
                          have h1 := hu i hi
                          have h2 := (cell_of_heap (i := o + i) hb2).trans h1
                          rw [List.getElem?_eq_getElem hi] at h2 ⊢
                          exact hw.cell h2)
                  · trivial
                · trivial
              · trivial
          · trivial
        · trivial
      · trivial

def pExtract (i : Nat) (x : AV) : PR :=
  match x with
  | .tp cs => match nth cs i with
    | some a => .ok a
    | none => .no
  | _ => .no
theorem pExtract_ok {P : Program} {w : World} {ok : Nat → Prop} {π : List Value} {i : Nat} {x : AV} {v : Value} (hx : RelV w ok π x v) : PRok P w ok π (pExtract i x) (Instr.extract v i) := by
  unfold pExtract
  split
  · rename_i cs
    split
    · rename_i a ha
      cases hx with
      | tp h =>
        obtain ⟨u, h1, h2⟩ := h.get ha
        exact ⟨u, h2, fun w' _ => by simp [Instr.extract, h1]⟩
    · trivial
  · trivial

def ifcOf (t : TypeId) (x : AV) : AV := match x with | .d y => .d (.ifc t y) | y => .ifc t y
def pIface (T : Tab) (t : TypeId) (x : AV) : PR :=
  match tlook T t with
  | none => .no
  | some r => match r.kd with
    | .iface _ => .no
    | .other => .no
    | _ => .ok (ifcOf t x)
theorem pIface_ok {P : Program} {T : Tab} (hT : TabOk P T) {w : World} {ok : Nat → Prop} {π : List Value} {t : TypeId} {x : AV} {v : Value} (hx : RelV w ok π x v) : PRok P w ok π (pIface T t x) (Instr.makeInterface t v) := by
  unfold pIface
  split
  · trivial
  · rename_i r hr
    obtain ⟨i, d, hi, hd, _, _, _, hkd⟩ := (tab_row hT hr).ex
    split
    · trivial
    · trivial
    · rename_i h1 h2
      have hrun : ∀ w', (Instr.makeInterface t v).run P w' = .ok (.iface t v) w' := by
        intro w'
        cases d <;> simp [Instr.makeInterface, run_underlying hd]
        rename_i ms
        cases hk : r.kd <;> simp [hk, kdOk] at hkd
        exact h1 _ hk
      refine ⟨_, ?_, fun w' _ => hrun w'⟩
      unfold ifcOf
      split
      · cases hx with | d hx => exact .d (.ifc hx)
      · exact .ifc hx

def pNil (x : AV) : PR :=
  match x with
  | .ptr i o => .ok (.ptr i o)
  | .ro cs => .ok (.ro cs)
  | .ge i s j o => .ok (.ge i s j o)
  | .fn (.func f) cs => .ok (.fn (.func f) cs)
  | .d (.v (.func (.func f) a b)) => .ok (.d (.v (.func (.func f) a b)))
  | .ifc t y => .ok (.ifc t y)
  | .d (.ifc t y) => .ok (.d (.ifc t y))
  | _ => .no

/-- Cells with some replaced. -/
def putAt : List AV → Nat → List AV → Option (List AV)
  | cs, _, [] => some cs
  | cs, off, u :: us => match nth cs off with
    | none => none
    | some _ => putAt (setNth cs off u) (off + 1) us
def lenIs {α : Type} : List α → Nat → Bool
  | [], 0 => true
  | _ :: r, n + 1 => lenIs r n
  | _, _ => false
theorem lenIs_eq {α : Type} : ∀ {l : List α} {n : Nat}, lenIs l n = true → l.length = n
  | [], 0, _ => rfl
  | _ :: r, n + 1, h => by simp only [lenIs] at h; simp [lenIs_eq h]
  | [], n + 1, h => by simp [lenIs] at h
  | _ :: _, 0, h => by simp [lenIs] at h
def bFill (fs : List Fld) : List AV → List (Nat × AV) → Option (List AV)
  | cs, [] => some cs
  | cs, (i, a) :: r => match nth fs i with
    | none => none
    | some fl => match a.cells with
      | [] => none
      | u :: us => match lenIs (u :: us) fl.size with
        | true => match putAt cs fl.off (u :: us) with
          | some cs' => bFill fs cs' r
          | none => none
        | false => none
/-- A value whose cells are known (no tuple, nothing that is gone). -/
def solid : AV → Bool
  | .dead => false
  | .tp _ => false
  | .und => false
  | .orc _ => false
  | _ => true
def allSolid : List (Nat × AV) → Bool
  | [] => true
  | (_, a) :: r => match solid a with | true => allSolid r | false => false
def pBuild (T : Tab) (t : TypeId) (parts : List (Nat × AV)) : PR :=
  match tlook T t with
  | none => .no
  | some r => match r.kd with
    | .struct fs => match allSolid parts with
      | true => match bFill fs (r.zero.map fun v => .d (.v v)) parts with
        | some cs => .ok (mkAg cs)
        | none => .no
      | false => .no
    | _ => .no

theorem cells_rel {w : World} {ok : Nat → Prop} {π : List Value} {a : AV} {v : Value} (h : RelV w ok π a v) (hs : solid a = true) : RelVs w ok π a.cells v.cells.toList ∧ ∀ u ∈ v.cells.toList, flat u = true := by
  cases h with
  | d h =>
    cases h with
    | v hf =>
      have e : v.cells.toList = [v] := by cases v <;> first | rfl | (simp [flat] at hf)
      rw [e]
      exact ⟨.cons (.d (.v hf)) .nil, by simpa using hf⟩
    | nil hb => exact ⟨.cons (.d (.nil hb)) .nil, by simp [Value.cells, flat]⟩
    | sl a1 a2 a3 a4 a5 => exact ⟨.cons (.d (.sl a1 a2 a3 a4 a5)) .nil, by simp [Value.cells, flat]⟩
    | ag h => exact ⟨by simpa [AV.cells, Value.cells] using h.toVs, by simpa [Value.cells] using h.flat⟩
    | ifc h => exact ⟨.cons (.d (.ifc h)) .nil, by simp [Value.cells, flat]⟩
  | ro h hm => exact ⟨.cons (.ro h hm) .nil, by simp [Value.cells, flat]⟩
  | ptr h => exact ⟨.cons (.ptr h) .nil, by simp [Value.cells, flat]⟩
  | gs h => exact ⟨.cons (.gs h) .nil, by simp [Value.cells, flat]⟩
  | ge h => exact ⟨.cons (.ge h) .nil, by simp [Value.cells, flat]⟩
  | mp h => exact ⟨.cons (.mp h) .nil, by simp [Value.cells, flat]⟩
  | e0 => exact ⟨.cons .e0 .nil, by simp [Value.cells, flat]⟩
  | lit => exact ⟨.cons .lit .nil, by simp [Value.cells, flat]⟩
  | und => simp [solid] at hs
  | orc => simp [solid] at hs
  | ag h hf => exact ⟨by simpa [AV.cells, Value.cells] using h, by simpa [Value.cells] using hf⟩
  | tp h => simp [solid] at hs
  | fn h => exact ⟨.cons (.fn h) .nil, by simp [Value.cells, flat]⟩
  | ifc h => exact ⟨.cons (.ifc h) .nil, by simp [Value.cells, flat]⟩
  | dead => simp [solid] at hs

end Ab
