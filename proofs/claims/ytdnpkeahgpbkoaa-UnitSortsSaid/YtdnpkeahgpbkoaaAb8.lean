/- Operations that only read: strings, cuts, lengths, conversions, structs that are built; all of them together ('pstep'). -/
import Derived.Test.YtdnpkeahgpbkoaaAb7
namespace Ab
open Go

def bt (s : ByteArray) (i : Nat) : Int := ((s.data.toList.getD i 0).toNat : Int)

def pIndex (T : Tab) (t : TypeId) (x ix : AV) : PR :=
  match tlook T t with
  | none => .no
  | some r => match r.kd with
    | .str => match x with
      | .d (.v (.string s)) => match ix with
        | .d (.v (.int _ i)) => .iff (0 ≤ i ∧ i < s.size) (vI .u8 (bt s i.toNat))
        | _ => .no
      | _ => .no
    | _ => .no

theorem str_type {P : Program} {T : Tab} (hT : TabOk P T) {t : TypeId} {r : TRow} (hr : tlook T t = some r) (hk : r.kd = .str) : P.underlying t = some .string := by
  obtain ⟨i, d, hi, hd, _, _, _, hkd⟩ := (tab_row hT hr).ex
  rw [hk] at hkd
  cases d <;> first | exact hd | (exact absurd hkd (by simp [kdOk]))

theorem str_get (s : ByteArray) (i : Nat) (h : i < s.size) : s[i]? = some (s.data.toList.getD i 0) := by
  have h' : i < s.data.size := h
  have : s[i]? = some s[i] := by simp [h]
  rw [this]
  have e : s.data.toList.getD i 0 = s.data[i]'h' := by
    rw [List.getD_eq_getElem?_getD, List.getElem?_eq_getElem (by simpa using h')]
    simp
  rw [e]
  rfl

theorem pIndex_ok {P : Program} {T : Tab} (hT : TabOk P T) {w : World} {ok : Nat → Prop} {π : List Value} {t : TypeId} {x ix : AV} {v vi : Value} (hx : RelV w ok π x v) (hi : RelV w ok π ix vi) :
    PRok P w ok π (pIndex T t x ix) (Instr.index t v vi) := by
  unfold pIndex
  split
  · trivial
  · rename_i r hr
    split
    · rename_i hk
      have hu := str_type hT hr hk
      split
      · rename_i s
        cases hx with | d hx => cases hx with | v _ =>
        split
        · rename_i k i
          cases hi with | d hi => cases hi with | v _ =>
          intro hc
          refine yields_val rfl (fun w' => ?_)
          have h1 : i.toNat < s.size := by omega
          simp [Instr.index, asIntOf, run_underlying hu, hc.1, str_get s i.toNat h1, bt]
        · trivial
      · trivial
    · trivial

/-- The bounds of a cut, where given. -/
def bndOf (dflt : Int) : Option AV → Option Int
  | none => some dflt
  | some (.d (.v (.int _ i))) => some i
  | _ => none

def isNoneO {α : Type} : Option α → Bool
  | none => true
  | some _ => false
def isZero : Option AV → Bool
  | some (.d (.v (.int _ 0))) => true
  | _ => false

def pSlice (T : Tab) (t : TypeId) (x : AV) (lo hi mx : Option AV) : PR :=
  match tlook T t with
  | none => .no
  | some r => match r.kd with
    | .str => match mx with
      | some _ => .no
      | none => match x with
        | .d (.v (.string s)) => match bndOf 0 lo with
          | none => .no
          | some l => match bndOf (s.size : Int) hi with
            | none => .no
            | some h => .iff (0 ≤ l ∧ l ≤ h ∧ h ≤ s.size) (vS (s.extract l.toNat h.toNat))
        | _ => .no
    | .slice e => match mx with
      | some _ => .no
      | none => match tlook T e with
        | none => .no
        | some re => match x with
          | .d (.sl s xs rd) => match Nat.beq re.size s with
            | true => match bndOf 0 lo with
              | none => .no
              | some l => match bndOf (xs.length : Int) hi with
                | none => .no
                | some h => .iff (0 ≤ l ∧ l ≤ h ∧ h ≤ xs.length) (.d (.sl s ((xs.drop l.toNat).take (h - l).toNat) (fun j => rd (l.toNat + j))))
            | false => .no
          | _ => .no
    | _ => .no

theorem run_bounds {P : Program} {w : World} {b : Bool} {len cap : Nat} {lo hi : Option AV} {vl vh : Option Value} {ok : Nat → Prop} {π : List Value}
    (hl : ∀ a, lo = some a → ∃ v, vl = some v ∧ RelV w ok π a v) (hl0 : lo = none → vl = none) (hh : ∀ a, hi = some a → ∃ v, vh = some v ∧ RelV w ok π a v) (hh0 : hi = none → vh = none)
    {l h : Int} (el : bndOf 0 lo = some l) (eh : bndOf (len : Int) hi = some h) (h0 : 0 ≤ l) (h1 : l ≤ h) (h2 : h ≤ len) (h3 : len ≤ cap) (w' : World) :
    (Instr.sliceBounds b len cap vl vh none).run P w' = .ok (l.toNat, h.toNat, cap) w' := by
  have e1 : ∃ h' : Nat, h = h' := ⟨h.toNat, by omega⟩
  obtain ⟨h', rfl⟩ := e1
  have e2 : ∃ l' : Nat, l = l' := ⟨l.toNat, by omega⟩
  obtain ⟨l', rfl⟩ := e2
  have hhv : vh = none ∧ h' = len ∨ ∃ k, vh = some (.int k (h' : Int)) := by
    cases hi with
    | none =>
      left
      simp only [bndOf, Option.some.injEq] at eh
      exact ⟨hh0 rfl, by omega⟩
    | some a =>
      right
      obtain ⟨v, hv, hr⟩ := hh a rfl
      unfold bndOf at eh
      split at eh
      · simp_all
      · rename_i k i heq
        cases heq
        cases hr with | d hr => cases hr with | v _ =>
        cases eh
        exact ⟨_, hv⟩
      · cases eh
  have hlv : vl = none ∧ l' = 0 ∨ ∃ k, vl = some (.int k (l' : Int)) := by
    cases lo with
    | none =>
      left
      simp only [bndOf, Option.some.injEq] at el
      exact ⟨hl0 rfl, by omega⟩
    | some a =>
      right
      obtain ⟨v, hv, hr⟩ := hl a rfl
      unfold bndOf at el
      split at el
      · simp_all
      · rename_i k i heq
        cases heq
        cases hr with | d hr => cases hr with | v _ =>
        cases el
        exact ⟨_, hv⟩
      · cases el
  have c1 : h' ≤ cap := by omega
  have c2 : l' ≤ h' := by omega
  rcases hhv with ⟨rfl, rfl⟩ | ⟨k, rfl⟩ <;> rcases hlv with ⟨rfl, rfl⟩ | ⟨k', rfl⟩ <;>
    simp [Instr.sliceBounds, Instr.sliceBound, asIntOf, c1, c2]

theorem optRel {w : World} {ok : Nat → Prop} {π : List Value} {lo : Option AV} {vl : Option Value} (h : match lo, vl with | none, none => True | some a, some v => RelV w ok π a v | _, _ => False) :
    (∀ a, lo = some a → ∃ v, vl = some v ∧ RelV w ok π a v) ∧ (lo = none → vl = none) := by
  cases lo <;> cases vl <;> simp_all

def OptRel (w : World) (ok : Nat → Prop) (π : List Value) (lo : Option AV) (vl : Option Value) : Prop :=
  match lo, vl with
  | none, none => True
  | some a, some v => RelV w ok π a v
  | _, _ => False

theorem pSlice_ok {P : Program} {T : Tab} (hT : TabOk P T) {w : World} {ok : Nat → Prop} {π : List Value} {t : TypeId} {x : AV} {lo hi mx : Option AV} {v : Value} {vl vh vm : Option Value}
    (hx : RelV w ok π x v) (hl : OptRel w ok π lo vl) (hh : OptRel w ok π hi vh) (hm : OptRel w ok π mx vm) : PRok P w ok π (pSlice T t x lo hi mx) (Instr.sliceAt t v vl vh vm) := by
  obtain ⟨hl1, hl2⟩ := optRel hl
  obtain ⟨hh1, hh2⟩ := optRel hh
  obtain ⟨_, hm2⟩ := optRel hm
  unfold pSlice
  split
  · trivial
  · rename_i r hr
    split
    · rename_i hk
      have hu := str_type hT hr hk
      split
      · trivial
      · have hmn := hm2 rfl
        subst hmn
        split
        · rename_i s
          cases hx with | d hx => cases hx with | v _ =>
          split
          · trivial
          · rename_i l el
            split
            · trivial
            · rename_i h eh
              intro hc
              refine yields_val rfl (fun w' => ?_)
              have hb := run_bounds (P := P) (b := false) (cap := s.size) hl1 hl2 hh1 hh2 el eh hc.1 hc.2.1 hc.2.2 (Nat.le_refl _) w'
              simp [Instr.sliceAt, run_underlying hu, Instr.slice, hb]
        · trivial
    · rename_i e hk
      have hu := slice_elem hT hr hk
      split
      · trivial
      · have hmn := hm2 rfl
        subst hmn
        split
        · trivial
        · rename_i re hre
          have hsz := (tab_row hT hre).sizeOf
          split
          · rename_i s xs rd
            split
            · rename_i hs
              have hs' : re.size = s := by simpa using hs
              split
              · trivial
              · rename_i l el
                split
                · trivial
                · rename_i h eh
                  intro hc
                  obtain ⟨h', rfl⟩ : ∃ h' : Nat, h = h' := ⟨h.toNat, by omega⟩
                  obtain ⟨l', rfl⟩ : ∃ l' : Nat, l = l' := ⟨l.toNat, by omega⟩
                  have hd : ((h' : Int) - (l' : Int)).toNat = h' - l' := by omega
                  simp only [hd, Int.toNat_natCast]
                  cases hx with
                  | d hx => cases hx with
                    | nil hb =>
                      rename_i c A
                      have hb1 := fun w' => run_bounds (P := P) (b := true) (len := 0) (cap := c) hl1 hl2 hh1 hh2 el (by simpa using eh) hc.1 hc.2.1 (by simpa using hc.2.2) (Nat.zero_le _) w'
                      have hz : h' = 0 ∧ l' = 0 := by
                        have h1 := hc.2.2
                        have h2 := hc.2.1
                        simp at h1
                        omega
                      obtain ⟨rfl, rfl⟩ := hz
                      have hrun : ∀ w', (Instr.sliceAt t (.slice A 0 c) vl vh none).run P w' = .ok (.slice (if c = 0 then A else A.map (·.add (0 * re.size))) 0 c) w' := by
                        intro w'
                        have := hb1 w'
                        simp only [Int.toNat_natCast] at this
                        simp [Instr.sliceAt, run_underlying hu, Instr.slice, this, hsz]
                      refine ⟨_, ?_, fun w' _ => hrun w'⟩
                      simp only [List.drop_nil, List.take_nil]
                      exact .d (.nil hb)
                    | sl he hm2 hcap hmax hrd =>
                      rename_i b o c us
                      have hb1 := fun w' => run_bounds (P := P) (b := true) (cap := c) hl1 hl2 hh1 hh2 el eh hc.1 hc.2.1 hc.2.2 hcap w'
                      have hle : l' ≤ h' := by omega
                      have hle2 : h' ≤ xs.length := by omega
                      have hlen := he.length
                      have hrun : ∀ w', (Instr.sliceAt t (.slice (some ⟨b, o, none⟩) xs.length c) vl vh none).run P w' = .ok (.slice (if c = l' then some ⟨b, o, none⟩ else some ⟨b, o + l' * s, none⟩) (h' - l') (c - l')) w' := by
                        intro w'
                        have := hb1 w'
                        simp only [Int.toNat_natCast] at this
                        simp [Instr.sliceAt, run_underlying hu, Instr.slice, this, hsz, hs', addr_add]
                      have hlt : ((xs.drop l').take (h' - l')).length = h' - l' := by
                        rw [List.length_take, List.length_drop]; omega
                      refine ⟨_, ?_, fun w' _ => hrun w'⟩
                      by_cases hcl : c = l'
                      · have e0 : (xs.drop l').take (h' - l') = [] := by
                          apply List.eq_nil_of_length_eq_zero
                          rw [hlt]; omega
                        rw [e0, if_pos hcl, show h' - l' = 0 by omega]
                        exact .d (.nil (by omega))
                      · rw [if_neg hcl]
                        have := RelD.sl (c := c - l') (b := b) (o := o + l' * s) (rd := fun j => rd (l' + j)) ((he.drop l').take (h' - l')) (fun q hq => ?_) (by rw [hlt]; omega) (by omega) (fun q hq => ?_)
                        · rw [hlt] at this
                          exact .d this
                        · rw [List.length_take, List.length_drop] at hq
                          have h1 := hm2 (l' * s + q) (by omega)
                          rw [Nat.add_assoc, List.getElem?_take, if_pos (by omega), List.getElem?_drop]
                          exact h1
                        · rw [hlt] at hq
                          rw [List.getElem?_take, if_pos hq, List.getElem?_drop]
                          exact hrd _ (by omega)
            · trivial
          · trivial
    · trivial

end Ab
