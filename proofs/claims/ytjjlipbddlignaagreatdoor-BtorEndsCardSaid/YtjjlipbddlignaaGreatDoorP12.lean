/- A part of the proof: N2, Ab53, Ab55, Ab56. -/
import Derived.Test.YtjjlipbddlignaaGreatDoorP11
import Derived.Lib.DecodeN
set_option linter.unusedVariables false
set_option linter.unusedSimpArgs false
namespace Go.Proofs.YtjjlipbddlignaaGreatDoor
open Go Ab Go.Lib
set_option maxRecDepth 100000
set_option linter.unusedVariables false
set_option linter.unusedSimpArgs false

/-! ### Names -/
def bA (l : List UInt8) (i : Nat) : Nat := (l.getD i 0).toNat
def decL (l : List UInt8) : Nat × Nat := decodeN l.length (bA l 0) (bA l 1) (bA l 2) (bA l 3)
theorem get_list (l : List UInt8) (i : Nat) : (⟨l.toArray⟩ : ByteArray).get! i = l.getD i 0 := by
  show l.toArray[i]! = _
  by_cases h : i < l.length
  · simp [h]
  · simp [h, List.getD_eq_getElem?_getD]
    rfl
theorem bA_drop (l : List UInt8) (i k : Nat) : bA (l.drop i) k = bA l (i + k) := by
  unfold bA
  rw [List.getD_eq_getElem?_getD, List.getD_eq_getElem?_getD, List.getElem?_drop]
theorem decode_drop (l : List UInt8) (i : Nat) : Utf8.decode ⟨l.toArray⟩ i = decL (l.drop i) := by
  rw [decode_at, get_list, get_list, get_list, get_list, sizeBy]
  unfold decL
  rw [bA_drop, bA_drop, bA_drop, bA_drop, List.length_drop]
  rfl
theorem bA_lt (l : List UInt8) (i : Nat) : bA l i < 256 := UInt8.toNat_lt _
theorem decL_w (l : List UInt8) (h : l ≠ []) : 1 ≤ (decL l).2 ∧ (decL l).2 ≤ l.length := by
  have h1 : 1 ≤ l.length := by
    cases l with
    | nil => exact absurd rfl h
    | cons _ _ => simp
  unfold decL decodeN
  repeat' split
  all_goals (simp only; omega)
def nameN : Nat → List UInt8 → Option Nat
  | 0, _ => none
  | f + 1, l => if l = [] then some 0 else if (decL l).1 < 32 ∨ (decL l).1 = 127 ∨ decL l = (65533, 1) then none else (nameN f (l.drop (decL l).2)).map (· + 1)
theorem nameN_more : ∀ {f g : Nat} {l : List UInt8}, l.length < f → f ≤ g → nameN g l = nameN f l
  | 0, _, _, h, _ => by omega
  | f + 1, 0, _, _, h => by omega
  | f + 1, g + 1, l, h, hg => by
    rw [nameN, nameN]
    split
    · rfl
    · rename_i hl
      split
      · rfl
      · have := decL_w l hl
        rw [nameN_more (f := f) (g := g) (l := l.drop (decL l).2) (by rw [List.length_drop]; omega) (by omega)]
def nameOk (l : List UInt8) : Bool := match nameN (l.length + 1) l with
  | some k => decide (1 ≤ k ∧ k ≤ 40)
  | none => false
/-- A rune's bytes: the first one is itself, or the ones behind are no ASCII. -/
theorem decL_bytes (l : List UInt8) (h : l ≠ []) (hn : decL l ≠ (65533, 1)) : ((decL l).1 = bA l 0 ∧ (decL l).2 = 1 ∧ bA l 0 < 128) ∨ (128 ≤ (decL l).1 ∧ 192 ≤ bA l 0 ∧ ∀ k, k < (decL l).2 → 128 ≤ bA l k) := by
  have h0 := bA_lt l 0
  unfold decL decodeN at hn ⊢
  generalize h00 : bA l 0 = b0 at *
  generalize h1 : bA l 1 = b1 at *
  generalize h2 : bA l 2 = b2 at *
  generalize h3 : bA l 3 = b3 at *
  by_cases c0 : b0 < 128
  · rw [if_pos c0]
    exact .inl ⟨rfl, rfl, c0⟩
  rw [if_neg c0] at hn ⊢
  right
  by_cases c1 : b0 / 32 = 6 ∧ (1 < l.length ∧ b1 / 64 = 2)
  · rw [if_pos c1] at hn ⊢
    by_cases d1 : b0 % 32 * 64 + b1 % 64 ≥ 128
    · rw [if_pos d1]
      refine ⟨by simp only; omega, by omega, fun k hk => ?_⟩
      simp only at hk
      rcases k with _ | _ | _ | _ | k
      · rw [h00]; omega
      · rw [Nat.zero_add, h1]; omega
      · first | omega | (rw [show 0 + 1 + 1 = 2 from rfl, h2]; omega)
      · first | omega | (rw [show 0 + 1 + 1 + 1 = 3 from rfl, h3]; omega)
      · omega
    · rw [if_neg d1] at hn
      exact absurd rfl hn
  rw [if_neg c1] at hn ⊢
  by_cases c2 : b0 / 16 = 14 ∧ (1 < l.length ∧ b1 / 64 = 2) ∧ (2 < l.length ∧ b2 / 64 = 2)
  · rw [if_pos c2] at hn ⊢
    split at hn
    · rename_i d2
      rw [if_pos d2]
      refine ⟨by simp only; omega, by omega, fun k hk => ?_⟩
      simp only at hk
      rcases k with _ | _ | _ | _ | k
      · rw [h00]; omega
      · rw [Nat.zero_add, h1]; omega
      · first | omega | (rw [show 0 + 1 + 1 = 2 from rfl, h2]; omega)
      · first | omega | (rw [show 0 + 1 + 1 + 1 = 3 from rfl, h3]; omega)
      · omega
    · exact absurd rfl hn
  rw [if_neg c2] at hn ⊢
  split at hn
  · rename_i c3
    rw [if_pos c3]
    split at hn
    · rename_i d3
      rw [if_pos d3]
      refine ⟨by simp only; omega, by omega, fun k hk => ?_⟩
      simp only at hk
      rcases k with _ | _ | _ | _ | k
      · rw [h00]; omega
      · rw [Nat.zero_add, h1]; omega
      · first | omega | (rw [show 0 + 1 + 1 = 2 from rfl, h2]; omega)
      · first | omega | (rw [show 0 + 1 + 1 + 1 = 3 from rfl, h3]; omega)
      · omega
    · exact absurd rfl hn
  · exact absurd rfl hn
theorem nameN_no10 : ∀ {f : Nat} {l : List UInt8} {k : Nat}, nameN f l = some k → ∀ i, i < l.length → 32 ≤ bA l i
  | 0, _, _, h, _, _ => by simp [nameN] at h
  | f + 1, l, k, h, i, hi => by
    rw [nameN] at h
    split at h
    · rename_i hl
      rw [hl] at hi
      simp at hi
    · rename_i hl
      split at h
      · cases h
      · rename_i hq
        simp only [not_or] at hq
        obtain ⟨j, h1, h2⟩ := Option.map_eq_some_iff.1 h
        have hw := decL_w l hl
        rcases Nat.lt_or_ge i (decL l).2 with hlt | hge
        · rcases decL_bytes l hl hq.2.2 with ⟨e1, e2, e3⟩ | ⟨e1, e2, e3⟩
          · rw [e2] at hlt
            obtain rfl : i = 0 := by omega
            have := hq.1
            omega
          · have := e3 i hlt
            omega
        · have := nameN_no10 h1 (i - (decL l).2) (by rw [List.length_drop]; omega)
          rw [bA_drop] at this
          rw [show (decL l).2 + (i - (decL l).2) = i by omega] at this
          exact this
theorem nameOk_no10 {l : List UInt8} (h : nameOk l = true) : ∀ c ∈ l, c ≠ 10 := by
  unfold nameOk at h
  split at h
  · rename_i k hk
    intro c hc e
    obtain ⟨i, hi, rfl⟩ := List.getElem_of_mem hc
    have h1 := nameN_no10 hk i hi
    unfold bA at h1
    rw [List.getD_eq_getElem?_getD, List.getElem?_eq_getElem hi] at h1
    simp only [Option.getD_some] at h1
    rw [e] at h1
    have e10 : (10 : UInt8).toNat = 10 := rfl
    omega
  · cases h
theorem nameOk_ne {l : List UInt8} (h : nameOk l = true) : l ≠ [] := by
  rintro rfl
  simp [nameOk, nameN] at h
end Go.Proofs.YtjjlipbddlignaaGreatDoor
set_option linter.unusedSimpArgs false
set_option linter.unusedVariables false
set_option linter.unusedSectionVars false
namespace Ab
open Go
variable [Draws]

section
variable {P : Program} [Globals P] {T : Tab} {f : FuncId} {fn : Func} {n m : Nat} {C : Cx} {R : AV → List (Option AObj) → Prop} {todo todo' k : List Item} {env env0 env' envF E : Env} {objs objs' objs1 : List (Option AObj)} {nd : Prop} {ops : Array Oper} {l : List Oper} {K : Env → Prop} {X : Nat → Prop}

end
end Ab
set_option linter.unusedSimpArgs false
set_option linter.unusedVariables false
set_option linter.unusedSectionVars false
namespace Ab
open Go
variable [Draws]

mutual
theorem RelV.monoT {w w' : World} {ok ok' : Nat → Prop} {π π' : List Value} (hk : Keeps w ok w' ok') (hp : ∀ j h, nth π j = some h → h ≠ .tuple #[] → nth π' j = some h) {a : AV} {v : Value} : RelV w ok π a v → RelV w' ok' π' a v
  | .d h => .d (h.mono hk)
  | .ro h hm => .ro (h.mono hk) (keeps_run hk hm)
  | .ptr h => .ptr (hp _ _ h (by intro e; cases e))
  | .gs h => .gs (hp _ _ h (by intro e; cases e))
  | .ge h => .ge (hp _ _ h (by intro e; cases e))
  | .mp h => .mp (hp _ _ h (by intro e; cases e))
  | .e0 => .e0
  | .lit => .lit
  | .und => .und
  | .orc => .orc
  | .ag h hf => .ag (h.monoT hk hp) hf
  | .tp h => .tp (h.monoT hk hp)
  | .fn h => .fn (h.monoT hk hp)
  | .ifc h => .ifc (h.monoT hk hp)
  | .dead => .dead
theorem RelVs.monoT {w w' : World} {ok ok' : Nat → Prop} {π π' : List Value} (hk : Keeps w ok w' ok') (hp : ∀ j h, nth π j = some h → h ≠ .tuple #[] → nth π' j = some h) {a : List AV} {v : List Value} : RelVs w ok π a v → RelVs w' ok' π' a v
  | .nil => .nil
  | .cons h t => .cons (h.monoT hk hp) (t.monoT hk hp)
end
theorem RelEs.monoT {w w' : World} {ok ok' : Nat → Prop} {π π' : List Value} (hk : Keeps w ok w' ok') (hp : ∀ j h, nth π j = some h → h ≠ .tuple #[] → nth π' j = some h) : ∀ {a : List (Value × AV)} {v : List MapEntry}, RelEs w ok π a v → RelEs w' ok' π' a v
  | _, _, .nil => .nil
  | _, _, .cons h t => .cons (h.monoT hk hp) (t.monoT hk hp)
theorem RelO.monoT {w w' : World} {ok ok' : Nat → Prop} {π π' : List Value} (hk : Keeps w ok w' ok') (hp : ∀ j h, nth π j = some h → h ≠ .tuple #[] → nth π' j = some h) {o : AObj} {h : Value} (hh : ∀ b, blk h = some b → w'.heap[b]? = w.heap[b]?) : RelO w ok π o h → RelO w' ok' π' o h
  | .cells hb h hf => .cells ((hh _ rfl).trans hb) (h.monoT hk hp) hf
  | .gnil => .gnil
  | .grow hb hz h hu hc hm ho hr => .grow ((hh _ rfl).trans hb) hz (h.mono hk) hu hc hm ho hr
  | .map hb h => .map ((hh _ rfl).trans hb) (h.monoT hk hp)
  | .hold h => .hold (h.monoT hk hp)
  | .siter hb => .siter ((hh _ rfl).trans hb)

/-- A place that is kept for an object. -/
def HD : AObj := .hold (.d (.v .nilIface)) .nilIface
theorem relHD {w : World} {ok : Nat → Prop} {π : List Value} : RelO w ok π HD (.tuple #[]) := .hold (.d (.v rfl))
theorem handHD {w : World} {ok : Nat → Prop} {π : List Value} {h : Value} : RelO w ok π HD h → h = .tuple #[] := by
  intro h
  cases h
  rfl

theorem nth_setIf {α : Type} {l : List α} {i j : Nat} {x : α} : nth (setNth l i x) j = if i = j then (if j < l.length then some x else none) else nth l j := by
  rw [setNth_eq, nth_eq, nth_eq, List.getElem?_set]
  split
  · rename_i e
    subst e
    rfl
  · rfl

/-- A place is filled: the object lies in new memory, or in none. -/
theorem fill {X : Nat → Prop} {π : List Value} {objs : List (Option AObj)} {w w' : World} (m : Mem X π objs w) {p : Nat} (hp : nth objs p = some (some HD)) (hos : w'.os = w.os) (htape : w'.tape = w.tape) (hout : w'.output = w.output ∧ dr w ≤ dr w') (hsz : w.heap.size ≤ w'.heap.size) (hw : ∀ b, b < w.heap.size → w'.heap[b]? = w.heap[b]?)
    (h : Value) (o : AObj) (hh : ∀ b, blk h = some b → w.heap.size ≤ b) (hrel : RelO w' (okOf X (setNth π p h) (setNth objs p (some o))) (setNth π p h) o h) :
    Mem X (setNth π p h) (setNth objs p (some o)) w' ∧
      (∀ {π0 : List Value} {objs0 : List (Option AObj)} {w0 : World}, π0.length ≤ p → Hist π0 objs0 w0 π objs w → Hist π0 objs0 w0 (setNth π p h) (setNth objs p (some o)) w') ∧
      (∀ a v, RelV w (okOf X π objs) π a v → RelV w' (okOf X (setNth π p h) (setNth objs p (some o))) (setNth π p h) a v) := by
  have hpl := nth_lt hp
  have hml := m.len
  obtain ⟨h0, hp0, hr0⟩ := m.obj p _ hp
  obtain rfl := handHD hr0
  have hsame : ∀ {j : Nat} {x : Value}, nth (setNth π p h) j = some x → (j = p ∧ x = h) ∨ (j ≠ p ∧ nth π j = some x) := by
    intro j x hj
    rw [nth_setIf] at hj
    split at hj
    · rename_i e
      split at hj
      · cases hj; exact .inl ⟨e.symm, rfl⟩
      · cases hj
    · rename_i e
      exact .inr ⟨fun e2 => e e2.symm, hj⟩
  have hsameO : ∀ {j : Nat} {x : AObj}, nth (setNth objs p (some o)) j = some (some x) → (j = p ∧ x = o) ∨ (j ≠ p ∧ nth objs j = some (some x)) := by
    intro j x hj
    rw [nth_setIf] at hj
    split at hj
    · rename_i e
      split at hj
      · cases hj; exact .inl ⟨e.symm, rfl⟩
      · cases hj
    · rename_i e
      exact .inr ⟨fun e2 => e e2.symm, hj⟩
  have hok : ∀ b, b < w.heap.size → okOf X π objs b → okOf X (setNth π p h) (setNth objs p (some o)) b := by
    intro b hb hk
    refine ⟨hk.1, fun i o' h' h1 h2 => ?_⟩
    rcases hsame h2 with ⟨rfl, rfl⟩ | ⟨hne, h3⟩
    · intro hc
      have := hh _ hc
      omega
    · rcases hsameO h1 with ⟨rfl, _⟩ | ⟨_, h4⟩
      · exact absurd rfl hne
      · exact hk.2 i o' h' h4 h3
  have hk : Keeps w (okOf X π objs) w' (okOf X (setNth π p h) (setNth objs p (some o))) := by
    intro b off u h1 h2
    have hb := cell_lt h2
    refine ⟨hok b hb h1, ?_⟩
    unfold World.cell? at h2 ⊢
    rw [hw b hb]
    exact h2
  have hpp : ∀ j x, nth π j = some x → x ≠ .tuple #[] → nth (setNth π p h) j = some x := by
    intro j x hj hx
    rw [nth_setIf, if_neg ?_]
    · exact hj
    · rintro rfl
      rw [hp0] at hj
      cases hj
      exact hx rfl
  have hblk : ∀ {j : Nat} {x : AObj} {y : Value} {b : Nat}, nth objs j = some (some x) → nth π j = some y → blk y = some b → b < w.heap.size := fun h1 h2 h3 => m.lt h1 h2 h3
  refine ⟨⟨by rw [setNth_length, setNth_length]; exact hml, ?_, ?_, ?_, fun b hx => Nat.lt_of_lt_of_le (m.inX b hx) hsz⟩, ?_, fun a v h1 => h1.monoT hk hpp⟩
  · intro i o' ho
    rcases hsameO ho with ⟨rfl, rfl⟩ | ⟨hne, h1⟩
    · exact ⟨h, by rw [nth_setIf, if_pos rfl, if_pos (by omega)], hrel⟩
    · obtain ⟨k, h2, h3⟩ := m.obj i o' h1
      exact ⟨k, by rw [nth_setIf, if_neg (fun e => hne e.symm)]; exact h2, h3.monoT hk hpp (fun b e => hw b (h3.lt e))⟩
  · intro i j o1 o2 h1 h2 b hne ho1 ho2 hp1 hp2 hb1 hb2
    rcases hsameO ho1 with ⟨rfl, rfl⟩ | ⟨hi, e1⟩ <;> rcases hsameO ho2 with ⟨rfl, rfl⟩ | ⟨hj, e2⟩
    · exact hne rfl
    · rcases hsame hp1 with ⟨_, rfl⟩ | ⟨hc, _⟩
      · rcases hsame hp2 with ⟨rfl, _⟩ | ⟨_, h4⟩
        · exact hj rfl
        · have := hblk e2 h4 hb2
          have := hh _ hb1
          omega
      · exact hc rfl
    · rcases hsame hp2 with ⟨_, rfl⟩ | ⟨hc, _⟩
      · rcases hsame hp1 with ⟨rfl, _⟩ | ⟨_, h4⟩
        · exact hi rfl
        · have := hblk e1 h4 hb1
          have := hh _ hb2
          omega
      · exact hc rfl
    · rcases hsame hp1 with ⟨rfl, _⟩ | ⟨_, h3⟩
      · exact hi rfl
      · rcases hsame hp2 with ⟨rfl, _⟩ | ⟨_, h4⟩
        · exact hj rfl
        · exact m.dist i j o1 o2 h1 h2 b hne e1 e2 h3 h4 hb1 hb2
  · intro i o' h' b ho' hp' hb' hx
    rcases hsameO ho' with ⟨rfl, rfl⟩ | ⟨hi, e1⟩
    · rcases hsame hp' with ⟨_, rfl⟩ | ⟨hc, _⟩
      · have := hh _ hb'
        have := m.inX b hx
        omega
      · exact hc rfl
    · rcases hsame hp' with ⟨rfl, _⟩ | ⟨_, h4⟩
      · exact hi rfl
      · exact m.ext i o' h' b e1 h4 hb' hx
  · intro π0 objs0 w0 hle hst
    refine ⟨hos.trans hst.os, htape.trans hst.tape, ⟨hout.1.trans hst.output.1, Nat.le_trans hst.output.2 hout.2⟩, Nat.le_trans hst.size hsz, ?_, ?_, ?_⟩
    · intro b hb hn
      rw [hw b (Nat.lt_of_lt_of_le hb hst.size)]
      exact hst.heap b hb hn
    · intro i o' h' b ho' hp' hb'
      rcases hsameO ho' with ⟨rfl, rfl⟩ | ⟨hi, e1⟩
      · rcases hsame hp' with ⟨_, rfl⟩ | ⟨hc, _⟩
        · exact .inl (Nat.le_trans hst.size (hh _ hb'))
        · exact absurd rfl hc
      · rcases hsame hp' with ⟨rfl, _⟩ | ⟨_, h4⟩
        · exact absurd rfl hi
        · exact hst.own i o' h' b e1 h4 hb'
    · intro i x hi hs
      have h1 := nth_lt hi
      rw [nth_setIf, if_neg (by omega)]
      exact hst.hand i x hi hs

section
variable {P : Program} [Globals P] {T : Tab} {f : FuncId} {fn : Func} {n m : Nat} {C : Cx} {R : AV → List (Option AObj) → Prop} {todo todo' k : List Item} {env env0 env' envF : Env} {objs objs' : List (Option AObj)} {nd : Prop} {ops : Array Oper} {l : List Oper} {K : Env → Prop} {X : Nat → Prop}

structure StepH (C : Cx) (O : List Nat → List (Option AObj)) (L : List Nat) (j : Nat) (π : List Value) (w : World) (π' : List Value) (w2 : World) : Prop where
  mem : Mem C.X π' (O (j :: L)) w2
  hist : Hist C.π C.objs C.w π (O L) w → Hist C.π C.objs C.w π' (O (j :: L)) w2
  keep : ∀ a v, RelV w (okOf C.X π (O L)) π a v → RelV w2 (okOf C.X π' (O (j :: L))) π' a v
/-- What an operation does, whenever it is come to, whatever acted ahead of it. -/
def HeadH (P : Program) [Globals P] (n : Nat) (C : Cx) (O : List Nat → List (Option AObj)) (m : Nat) (ops : Array Oper) (envF : Env) (j : Nat) (o : Oper) : Prop :=
  ∀ L, (∀ q ∈ L, q < m) → j ∉ L → (∀ q, waitsB ops j q = true → q ∈ L) → (∀ q ∈ L, ∀ q', waitsB ops q q' = true → q' ∈ L) → ∀ π w tmps, tmps.size = n → Mem C.X π (O L) w → GOk P π (O L) w → (∀ t ∈ o.looksAt ops, ∀ a, look envF t = some a → RelV w (okOf C.X π (O L)) π a (tmps.getD t undef)) →
    (Region.wanted o (yielded ops tmps) = false ∧ ∃ π', StepH C O L j π w π' w ∧ PutOk n w (okOf C.X π' (O (j :: L))) π' envF o undef) ∨
    (Region.wanted o (yielded ops tmps) = true ∧
      ((∃ v w2 π', (execOp (Act.eval ⟨tmps, []⟩) o).run P w = .ok (.value v) w2 ∧ StepH C O L j π w π' w2 ∧ PutOk n w2 (okOf C.X π' (O (j :: L))) π' envF o v) ∨
       (∃ w2 π', (execOp (Act.eval ⟨tmps, []⟩) o).run P w = .ok .skip w2 ∧ StepH C O L j π w π' w2 ∧ PutOk n w2 (okOf C.X π' (O (j :: L))) π' envF o undef) ∨
       (∃ g args, (execOp (Act.eval ⟨tmps, []⟩) o).run P w = .ok (.enter g args) w ∧ Calls P g args w fun e w2 => ∃ v π', e = .returned v ∧ StepH C O L j π w π' w2 ∧ PutOk n w2 (okOf C.X π' (O (j :: L))) π' envF o v)))

/-- A head and a chain behind it; or all is the head. -/
def drawZ (ops : Array Oper) (m : Nat) : Bool := drawB ops m || (decide (m = ops.size) && backB ops && apartB ops m)
theorem drawn_soundH {O : List Nat → List (Option AObj)} {objsF : List (Option AObj)} (hmx : P.follows .mixedOrders = true) (hB : drawZ ops m = true) (hops : ∀ j o, j < m → ops[j]? = some o → HeadH P n C O m ops envF j o)
    (hO0 : O [] = objs) (hOF : ∀ L, (∀ i, i < m → i ∈ L) → O L = objsF)
    (henv : ∀ t, (∀ j, j < m → dstIs ops j t = false) → ∀ a, look envF t = some a → ∃ b, look env0 t = some b ∧ VLe b a)
    (hK : ASat P f n C (.inRegion ops (List.range' m (ops.size - m)) :: k) envF objsF R) {id : Nat} (hGk : GOk P C.π C.objs C.w := by with_reducible assumption) : ASat P f n C (.code (.region id ops true) :: k) env0 objs R := by
  obtain ⟨hms, hback, hsc, hap⟩ : m ≤ ops.size ∧ backB ops = true ∧ (m < ops.size → sinkTB ops m = true ∧ chainTB ops m = true) ∧ apartB ops m = true := by
    simp only [drawZ, drawB, Bool.or_eq_true, Bool.and_eq_true, decide_eq_true_eq] at hB
    rcases hB with ⟨⟨⟨⟨h1, h2⟩, h3⟩, h4⟩, h5⟩ | ⟨⟨h1, h2⟩, h5⟩
    · exact ⟨by omega, h2, fun _ => ⟨h3, h4⟩, h5⟩
    · exact ⟨by omega, h2, fun h => by omega, h5⟩
  have hap : ∀ j o, j < m → ops[j]? = some o → (∀ k, k < m → k ≠ j → ∀ d, o.dst = some d → dstIs ops k d = false) ∧ ∀ k, k < m → ∀ t ∈ o.looksAt ops, dstIs ops k t = true → waitsB ops j k = true := by
    intro j o hj ho
    have h1 := List.all_eq_true.1 hap j (List.mem_range.2 hj)
    rw [ho] at h1
    have h2 : ∀ k, k < m → ((decide (k = j) || dstFree ops o k) = true ∧ (o.looksAt ops).all (fun t => !dstIs ops k t || waitsB ops j k) = true) := fun k hk => by
      have := List.all_eq_true.1 h1 k (List.mem_range.2 hk)
      simpa only [Bool.and_eq_true] using this
    refine ⟨fun k hk hne d hd => ?_, fun k hk t ht hd => ?_⟩
    · have := (h2 k hk).1
      unfold dstFree at this
      rw [hd] at this
      simpa [hne] using this
    · have := List.all_eq_true.1 (h2 k hk).2 t ht
      simpa [hd] using this
  intro π w tmps0 hn hm hh he
  have hl1 : Later w { w with drawn := w.drawn + 1 } := ⟨rfl, rfl, ⟨rfl, dr_mono (Nat.le_succ _)⟩, Nat.le_refl _, fun _ _ => rfl⟩
  have htr1 := hl1.tr hm
  have key : ∀ (fuel t : Nat) (listed : Array Bool) (L : List Nat) (tmps : Array Value) (w' : World) (π : List Value), Lst ops m L listed → L.length + fuel = ops.size → Mem C.X π (O L) w' → Hist C.π C.objs C.w π (O L) w' → tmps.size = n →
      (∀ j ∈ L, ∀ o, ops[j]? = some o → ∀ d, o.dst = some d → ∃ b, look envF d = some b ∧ RelV w' (okOf C.X π (O L)) π b (tmps.getD d undef)) →
      (∀ t, (∀ j, j < m → dstIs ops j t = false) → ∀ a, look envF t = some a → RelV w' (okOf C.X π (O L)) π a (tmps.getD t undef)) →
      Sat P f C.ds (.inRegion ops (Region.linearise.go .any ops fuel t listed []) :: k) tmps w' (APost C R) := by
    have fin : ∀ (L : List Nat) (tmps : Array Value) (w' : World) (π : List Value), (∀ i, i < m → i ∈ L) → Mem C.X π (O L) w' → Hist C.π C.objs C.w π (O L) w' → tmps.size = n →
        (∀ j ∈ L, ∀ o, ops[j]? = some o → ∀ d, o.dst = some d → ∃ b, look envF d = some b ∧ RelV w' (okOf C.X π (O L)) π b (tmps.getD d undef)) →
        (∀ t, (∀ j, j < m → dstIs ops j t = false) → ∀ a, look envF t = some a → RelV w' (okOf C.X π (O L)) π a (tmps.getD t undef)) →
        Sat P f C.ds (.inRegion ops (List.range' m (ops.size - m)) :: k) tmps w' (APost C R) := by
      intro L tmps w' π hall hm hh hsz hdone hrest
      rw [hOF L hall] at hm hh hdone hrest
      refine hK π w' tmps hsz hm hh fun u a hu => ?_
      by_cases hd : ∃ j, j < m ∧ dstIs ops j u = true
      · obtain ⟨j, hj, hd⟩ := hd
        obtain ⟨o, ho, hdo⟩ := dstIs_iff.1 hd
        obtain ⟨b, hb, hr⟩ := hdone j (hall j hj) o ho u hdo
        rw [hu] at hb
        cases hb
        exact hr
      · have hd' : ∀ j, j < m → dstIs ops j u = false := fun j hj => by
          cases hx : dstIs ops j u with
          | false => rfl
          | true => exact absurd ⟨j, hj, hx⟩ hd
        exact hrest u hd' a hu
    intro fuel
    induction fuel with
    | zero =>
      intro t listed L tmps w' π hL hlen hm hh hsz hdone hrest
      have hLm := nodup_le hL.nd (b := List.range m) fun y hy => List.mem_range.2 (hL.lt y hy)
      rw [List.length_range] at hLm
      have hall : ∀ i, i < m → i ∈ L := fun i hi => by
        apply Classical.byContradiction
        intro hiL
        have := nodup_le (List.nodup_cons.2 ⟨hiL, hL.nd⟩) (b := List.range m) fun y hy => by
          rcases List.mem_cons.1 hy with rfl | hy
          · exact List.mem_range.2 hi
          · exact List.mem_range.2 (hL.lt y hy)
        rw [List.length_range, List.length_cons] at this
        omega
      have := fin L tmps w' π hall hm hh hsz hdone hrest
      rw [show ops.size - m = 0 by omega] at this
      simpa [Region.linearise.go] using this
    | succ fuel ih =>
      intro t listed L tmps w' π hL hlen hm hh hsz hdone hrest
      have hLm := nodup_le hL.nd (b := List.range m) fun y hy => List.mem_range.2 (hL.lt y hy)
      rw [List.length_range] at hLm
      by_cases hall : ∀ i, i < m → i ∈ L
      · have hml := nodup_le (List.nodup_range (n := m)) (b := L) fun y hy => hall y (List.mem_range.1 hy)
        rw [List.length_range] at hml
        have hfu : fuel + 1 = ops.size - m := by omega
        obtain ⟨hsink, hchain⟩ := hsc (by omega)
        rw [hfu]
        have hg := go_chain hback hchain (ops.size - m) t listed (.inl (by omega)) (by omega) hL.size (fun i hi => by
          rw [hL.mem i hi, show ops.size - (ops.size - m) = m by omega]
          exact ⟨fun h => hL.lt i h, fun h => hall i h⟩)
        rw [hg, show ops.size - (ops.size - m) = m by omega]
        exact fin L tmps w' π hall hm hh hsz hdone hrest
      · have hex : ∃ i, i ∈ Region.ready .any ops listed := by
          have hmin : ∀ q i, i ≤ q → i < m → i ∉ L → ∃ j, j < m ∧ j ∉ L ∧ ∀ j', j' < j → j' ∈ L := by
            intro q
            induction q with
            | zero => intro i hi hm hL; exact ⟨i, hm, hL, by omega⟩
            | succ q ihq =>
              intro i hi him hiL
              by_cases hx : ∃ j', j' < i ∧ j' ∉ L
              · obtain ⟨j', h1, h2⟩ := hx
                exact ihq j' (by omega) (by omega) h2
              · exact ⟨i, him, hiL, fun j' hj' => Decidable.byContradiction fun h2 => hx ⟨j', hj', h2⟩⟩
          obtain ⟨i, hi⟩ := Classical.not_forall.1 hall
          have hi1 : i < m := Classical.byContradiction fun h => hi fun h2 => absurd h2 h
          have hi2 : i ∉ L := fun h => hi fun _ => h
          obtain ⟨j, h1, h2, h3⟩ := hmin i i (Nat.le_refl _) hi1 hi2
          refine ⟨j, (ready_iff (by omega) hL).2 ⟨by omega, h2, ops[j], Array.getElem?_eq_getElem (by omega), fun e hee hb => ?_⟩⟩
          have hlt := backB_spec hback (Array.getElem?_eq_getElem (by omega : j < ops.size)) hee hb
          exact (hL.mem e.on (by omega)).2 (h3 e.on hlt)
        rw [go_succ]
        have hlen2 : 0 < (Region.ready .any ops listed).length := List.length_pos_of_mem hex.choose_spec
        have hmod : t % (Region.ready .any ops listed).length < (Region.ready .any ops listed).length := Nat.mod_lt _ hlen2
        rw [List.getElem?_eq_getElem hmod]
        simp only
        have hir : (Region.ready .any ops listed)[t % (Region.ready .any ops listed).length] ∈ Region.ready .any ops listed := List.getElem_mem hmod
        generalize (Region.ready .any ops listed)[t % (Region.ready .any ops listed).length] = i at hir
        have him : i < m := by
          apply Classical.byContradiction
          intro hge
          have hilt : i < ops.size := ((ready_iff (by omega) hL).1 hir).1
          obtain ⟨hsink, hchain⟩ := hsc (by omega)
          exact hall (all_listed (by omega) hsink hback hL (by omega) hchain hir).2
        obtain ⟨his, hiL, o, ho, hdeps⟩ := (ready_iff (by omega) hL).1 hir
        obtain ⟨ha1, ha2⟩ := hap i o him ho
        have hlooks : ∀ u ∈ o.looksAt ops, ∀ a, look envF u = some a → RelV w' (okOf C.X π (O L)) π a (tmps.getD u undef) := by
          intro u hu a hua
          by_cases hd : ∃ j, j < m ∧ dstIs ops j u = true
          · obtain ⟨j, hj, hd⟩ := hd
            have hw := ha2 j hj u hu hd
            obtain ⟨o2, ho2, e, hee, hb, heq⟩ := waitsB_spec hw
            rw [ho] at ho2
            cases ho2
            have hjL := listed_of hL (hdeps e hee hb)
            rw [heq] at hjL
            obtain ⟨oj, hoj, hdj⟩ := dstIs_iff.1 hd
            obtain ⟨b, hb2, hr⟩ := hdone j hjL oj hoj u hdj
            rw [hua] at hb2
            cases hb2
            exact hr
          · have hd' : ∀ j, j < m → dstIs ops j u = false := fun j hj => by
              cases hx : dstIs ops j u with
              | false => rfl
              | true => exact absurd ⟨j, hj, hx⟩ hd
            exact hrest u hd' a hua
        have hL' : Lst ops m (i :: L) (listed.setIfInBounds i true) := by
          refine ⟨by simpa using hL.size, fun j hj => ?_, List.nodup_cons.2 ⟨hiL, hL.nd⟩, fun j hj => ?_, fun j hj oj hoj e hee hb => ?_⟩
          · by_cases e : i = j
            · subst e
              rw [show (listed.setIfInBounds i true).getD i false = true by simp [hL.size, hj]]
              simp
            · rw [show (listed.setIfInBounds i true).getD j false = listed.getD j false by simp [Array.getElem?_setIfInBounds, e]]
              rw [hL.mem j hj, List.mem_cons]
              exact ⟨.inr, fun h => h.resolve_left fun h2 => e h2.symm⟩
          · rcases List.mem_cons.1 hj with rfl | hj
            · exact him
            · exact hL.lt j hj
          · rcases List.mem_cons.1 hj with rfl | hj
            · rw [ho] at hoj
              cases hoj
              exact List.mem_cons_of_mem _ (listed_of hL (hdeps e hee hb))
            · exact List.mem_cons_of_mem _ (hL.cl j hj oj hoj e hee hb)
        have hdeps2 : ∀ q, waitsB ops i q = true → q ∈ L := by
          intro q hq
          obtain ⟨o2, ho2, e, hee, hb, heq⟩ := waitsB_spec hq
          rw [ho] at ho2
          cases ho2
          rw [← heq]
          exact listed_of hL (hdeps e hee hb)
        have hcl2 : ∀ q ∈ L, ∀ q', waitsB ops q q' = true → q' ∈ L := by
          intro q hqL q' hq
          obtain ⟨o2, ho2, e, hee, hb, heq⟩ := waitsB_spec hq
          rw [← heq]
          exact hL.cl q hqL o2 ho2 e hee hb
        have next : ∀ (v : Value) (w2 : World) (π' : List Value), StepH C O L i π w' π' w2 → PutOk n w2 (okOf C.X π' (O (i :: L))) π' envF o v → Sat P f C.ds (.inRegion ops (Region.linearise.go .any ops fuel (t / (Region.ready .any ops listed).length) (listed.setIfInBounds i true) []) :: k) (putT o.dst v tmps) w2 (APost C R) := by
          intro v w2 π' hst hput
          refine ih _ _ (i :: L) _ w2 π' hL' (by simp only [List.length_cons]; omega) hst.mem (hst.hist hh) ?_ ?_ ?_
          · cases hd : o.dst with
            | none => exact hsz
            | some d => simpa [putT] using hsz
          · intro j hj0 oj hoj d hd
            rcases List.mem_cons.1 hj0 with e | hj
            · subst e
              rw [ho] at hoj
              cases hoj
              obtain ⟨h1, b, h2, h3⟩ := hput d hd
              refine ⟨b, h2, ?_⟩
              rw [hd, getD_putT, if_pos ⟨rfl, by rw [hsz]; exact h1⟩]
              exact h3
            · obtain ⟨b, h2, h3⟩ := hdone j hj oj hoj d hd
              refine ⟨b, h2, ?_⟩
              have hne : ∀ d', o.dst = some d' → d' ≠ d := by
                rintro d' hd' rfl
                have := ha1 j (hL.lt j hj) (fun e => hiL (e ▸ hj)) d' hd'
                rw [dstIs_iff.2 ⟨oj, hoj, hd⟩] at this
                cases this
              cases hdo : o.dst with
              | none => exact hst.keep _ _ h3
              | some d' =>
                rw [getD_putT, if_neg fun hh => hne d' hdo hh.1]
                exact hst.keep _ _ h3
          · intro u hu a hua
            have h3 := hst.keep _ _ (hrest u hu a hua)
            cases hdo : o.dst with
            | none => exact h3
            | some d' =>
              rw [getD_putT, if_neg fun hh => ?_]
              · exact h3
              · have := hu i him
                rw [dstIs_iff.2 ⟨o, ho, by rw [hdo, hh.1]⟩] at this
                cases this
        rcases hops i o him ho L (fun q hq => hL.lt q hq) hiL hdeps2 hcl2 π w' tmps hsz hm (hGk.hist hh) hlooks with ⟨hw, hput⟩ | ⟨hw, ⟨v, w2, π', hrun, hst, hput⟩ | ⟨w2, π', hrun, hst, hput⟩ | ⟨g, args, hrun, hcall⟩⟩
        · obtain ⟨π', hst, hput⟩ := hput
          exact .opSkip ho hw (next undef w' π' hst hput)
        · exact .opVal ho hw hrun (next v w2 π' hst hput)
        · exact .opUnit ho hw hrun (next undef w2 π' hst hput)
        · exact .opCall ho hw hrun (hcall.mono fun e w2 ⟨v, π', h1, h2, h3⟩ => ⟨v, h1, next v w2 π' h2 h3⟩)
  refine .step (fun kd cs => step_draw) ?_
  simp only [Region.schedule, hmx, Bool.true_or, if_true]
  subst hO0
  refine key ops.size _ _ [] tmps0 _ π ⟨by simp, fun i hi => ?_, List.nodup_nil, by simp, by simp⟩ (by simp) htr1.mem (hist_tr hh htr1) hn (by simp) (fun u hu a hua => ?_)
  · simp [hi]
  · obtain ⟨b, hb, hle⟩ := henv u hu a hua
    exact rel_later hl1 (hle _ _ _ _ (he u b hb))



theorem sat_pad1 (h : ASat P f n C todo env (objs ++ [some HD]) R) : ASat P f n C todo env objs R := by
  intro π w tmps hn hm hh he
  have htr : Tr C.X π objs w none (π ++ [.tuple #[]]) (objs ++ [some HD]) w := tr_newW hm rfl rfl ⟨rfl, dr_mono (Nat.le_refl _)⟩ (Nat.le_refl _) (fun _ _ => rfl) _ _ (by intro b e; cases e) relHD
  exact h _ w tmps hn htr.mem (hist_tr hh htr) (env_tr he htr)
theorem sat_pad (k : Nat) (h : ASat P f n C todo env (objs ++ List.replicate k (some HD)) R) : ASat P f n C todo env objs R := by
  induction k generalizing objs with
  | zero => simpa using h
  | succ k ih =>
    refine sat_pad1 (ih ?_)
    rw [List.append_assoc]
    exact h

/-- An operation that does not act. -/
theorem headH_of {O : List Nat → List (Option AObj)} {j : Nat} {o : Oper} (hO : ∀ L, O (j :: L) = O L) (h : ∀ L, HeadOp P n C.X (O L) ops envF o) : HeadH P n C O m ops envF j o := by
  have st : ∀ {L : List Nat} {π : List Value} {w w2 : World}, Mem C.X π (O L) w → Later w w2 → StepH C O L j π w π w2 := by
    intro L π w w2 hm l
    have htr := l.tr hm
    refine ⟨by rw [hO]; exact htr.mem, fun hh => by rw [hO]; exact hh.trans htr.hist, fun a v h => ?_⟩
    rw [hO]
    exact rel_later l h
  intro L _ _ _ _ π w tmps hs hm hgk hl
  rcases h L π w tmps hs hm hgk hl with ⟨hw, hp⟩ | ⟨hw, ⟨v, w2, hr, hlt, hp⟩ | ⟨g, args, hr, hc⟩⟩
  · exact .inl ⟨hw, π, st hm (.refl w), by rw [hO]; exact hp⟩
  · exact .inr ⟨hw, .inl ⟨v, w2, π, hr, st hm hlt, by rw [hO]; exact hp⟩⟩
  · exact .inr ⟨hw, .inr (.inr ⟨g, args, hr, hc.mono fun e w2 ⟨v, h1, h2, h3⟩ => ⟨v, π, h1, st hm h2, by rw [hO]; exact h3⟩⟩)⟩

/-- A new variable, made ahead of all that looks at it. -/
theorem headH_allocC {O : List Nat → List (Option AObj)} {j p : Nat} {o : Oper} {t d : Nat} {r : TRow} (hT : TabOk P T) (hop : o.op = .alloc t) (hg : o.guard = none) (hr : tlook T t = some r) (hdst : o.dst = some d) (hdn : Nat.blt d n = true) (hlook : look envF d = some (.ptr p 0)) (hple : C.π.length ≤ p)
    (hO0 : ∀ L, j ∉ L → (∀ q ∈ L, ∀ q', waitsB ops q q' = true → q' ∈ L) → nth (O L) p = some (some HD)) (hO : ∀ L, j ∉ L → (∀ q ∈ L, ∀ q', waitsB ops q q' = true → q' ∈ L) → O (j :: L) = setNth (O L) p (some (.cells t (r.zero.map fun v => .d (.v v))))) : HeadH P n C O m ops envF j o := by
  intro L _ hjL _ hcl π w tmps hs hm hgk _
  obtain ⟨z, hz1, hz2, hz3, _⟩ := (tab_row hT hr).zero
  have e : z.cells = r.zero.toArray := by rw [← hz2]
  have hrun : (execOp (Act.eval ⟨tmps, []⟩) o).run P w = .ok (.value (.pointer (some ⟨w.heap.size, 0, none⟩))) (w.alloc (.cells r.zero.toArray t)) := by
    unfold execOp
    rw [hop]
    simp [Instr.alloc, hz1, newVar, run_newRow, e]
  have hpl := nth_lt (hO0 L hjL hcl)
  have hml := hm.len
  have hf := fill (w' := w.alloc (.cells r.zero.toArray t)) hm (hO0 L hjL hcl) rfl rfl ⟨rfl, dr_mono (Nat.le_refl _)⟩ (by rw [alloc_heap, Array.size_push]; omega) (fun b hb => heap_push_old _ hb) (.pointer (some ⟨w.heap.size, 0, none⟩)) (.cells t (r.zero.map fun v => .d (.v v)))
    (by intro b e; cases e; exact Nat.le_refl _) (.cells (heap_push_new _) (zeros_rel r.zero hz3) hz3)
  refine .inr ⟨by simp [Region.wanted, hg], .inl ⟨_, _, setNth π p (.pointer (some ⟨w.heap.size, 0, none⟩)), hrun, ⟨?_, ?_, ?_⟩, ?_⟩⟩
  · rw [hO L hjL hcl]; exact hf.1
  · rw [hO L hjL hcl]; exact hf.2.1 hple
  · rw [hO L hjL hcl]; exact hf.2.2
  · intro d' hd'
    rw [hdst] at hd'
    cases hd'
    refine ⟨by simpa [Nat.blt_eq] using hdn, _, hlook, ?_⟩
    rw [hO L hjL hcl]
    exact .ptr (by rw [nth_setIf, if_pos rfl, if_pos (by omega)])

/-- The region. -/
theorem sat_drawH (m kk : Nat) (O : List Nat → List (Option AObj)) (envF : Env) {id : Nat} {objsF : List (Option AObj)} (hT : TabOk P T) (hf : P.funcs[f]? = some fn) (hmx : P.follows .mixedOrders = true) (h : srun T n fn.results.toList 2000 True todo env objs = .draw nd id ops k env' objs') (hn : nd)
    (hB : drawZ ops m = true) (hO0 : O [] = objs' ++ List.replicate kk (some HD)) (hOF : ∀ L, (∀ i, i < m → i ∈ L) → O L = objsF)
    (hops : ∀ j o, j < m → ops[j]? = some o → HeadH P n C O m ops envF j o)
    (henv : ∀ t, (∀ j, j < m → dstIs ops j t = false) → ∀ a, look envF t = some a → ∃ b, look env' t = some b ∧ VLe b a)
    (hk : ASat P f n C (.inRegion ops (List.range' m (ops.size - m)) :: k) envF objsF R) (hGk : GOk P C.π C.objs C.w := by with_reducible assumption) : ASat P f n C todo env objs R := by
  suffices hcc : Cont P f n C R (.draw nd id ops k env' objs') from (run_sound hT hf 2000 True todo env objs (by rw [h]; exact hcc)).2
  exact ⟨hn, sat_pad kk (drawn_soundH hmx hB hops hO0 hOF henv hk)⟩

theorem look_skip {t : Nat} : ∀ {A E : Env}, (∀ x ∈ A, x.1 ≠ t) → look (A ++ E) t = look E t
  | [], _, _ => rfl
  | (d, a) :: r, E, h => by
    have h1 : d ≠ t := h (d, a) (List.mem_cons_self ..)
    show look ((d, a) :: (r ++ E)) t = _
    rw [look_cons, if_neg h1]
    exact look_skip fun x hx => h x (List.mem_cons_of_mem _ hx)
theorem headOp_env {o : Oper} {E : Env} (hl : ∀ t ∈ o.looksAt ops, look envF t = look E t) (hd : ∀ d, o.dst = some d → look envF d = look E d) (h : HeadOp P n X objs ops E o) : HeadOp P n X objs ops envF o := by
  intro π w tmps hs hm hgk hlk
  have hlk' : ∀ t ∈ o.looksAt ops, ∀ b, look E t = some b → RelV w (okOf X π objs) π b (tmps.getD t undef) := fun t ht b hb => hlk t ht b (by rw [hl t ht]; exact hb)
  have hp : ∀ {w : World} {v : Value}, PutOk n w (okOf X π objs) π E o v → PutOk n w (okOf X π objs) π envF o v := fun hp u hu => by
    obtain ⟨h1, b, h2, h3⟩ := hp u hu
    exact ⟨h1, b, by rw [hd u hu]; exact h2, h3⟩
  rcases h π w tmps hs hm hgk hlk' with ⟨hw, h1⟩ | ⟨hw, ⟨v, w2, hr, hlt, h1⟩ | ⟨g, args, hr, hc⟩⟩
  · exact .inl ⟨hw, hp h1⟩
  · exact .inr ⟨hw, .inl ⟨v, w2, hr, hlt, hp h1⟩⟩
  · exact .inr ⟨hw, .inr ⟨g, args, hr, hc.mono fun e w2 ⟨v, a1, a2, a3⟩ => ⟨v, a1, a2, hp a3⟩⟩⟩

/-- A variable or a cell of the call's own is written. -/
theorem headH_skip {O : List Nat → List (Option AObj)} {j : Nat} {o : Oper} {E : Env} {a : AV} {c : Option Prop} (hT : TabOk P T) (hw : wantE ops (restr E (o.looksAt ops)) o = .yes) (hE : ∀ t ∈ o.looksAt ops, ∀ b, look E t = some b → look envF t = some b)
    (hs : ∀ L, j ∉ L → estep T o (restr E (o.looksAt ops)) (O L) = some ⟨c, true, a, none, O (j :: L)⟩) (hc : cond c) (hdst : o.dst = none) : HeadH P n C O m ops envF j o := by
  intro L _ hjL _ _ π w tmps hsz hm hgk hlk
  have he : EnvRel w (okOf C.X π (O L)) π (restr E (o.looksAt ops)) tmps := fun t b ht => by
    obtain ⟨h1, h2⟩ := look_restr ht
    exact hlk t h1 b (hE t h1 b h2)
  have hst := estep_ok (ds := []) hT hm he o
  rw [hs L hjL] at hst
  obtain ⟨v, w', π', h1, h2, _⟩ := hst hc
  refine .inr ⟨(wanted_of he).1 hw, .inr (.inl ⟨w', π', h1, ⟨h2.mem, fun hh => hh.trans h2.hist, h2.keep⟩, fun d hd => ?_⟩)⟩
  rw [hdst] at hd
  cases hd

abbrev Acts := List (Nat × Option (Tmp × AV))
def actE (A : Acts) : Env := A.filterMap (·.2)
def actB (A : Acts) (j : Nat) : Bool := A.any fun x => Nat.beq x.1 j
/-- The head's operations that do not act. -/
def quietOps (ops : Array Oper) (m : Nat) (A : Acts) : List Oper := ((List.range m).filter fun j => !actB A j).filterMap fun j => ops[j]?
/-- No operation of the head that does not act looks at what one tells that does, nor tells it. -/
def seeB (ops : Array Oper) (m : Nat) (A : Acts) : Bool := (List.range m).all fun j => actB A j || match ops[j]? with
  | some o => (actE A).all fun x => !(o.looksAt ops).contains x.1 && o.dst != some x.1
  | none => true

/-- The region, its quiet operations shown together, those that act one by one. -/
theorem sat_drawA (m kk : Nat) (A : Acts) (O : List Nat → List (Option AObj)) (E : Env) {id : Nat} {objsF : List (Option AObj)} (hT : TabOk P T) (hf : P.funcs[f]? = some fn) (hmx : P.follows .mixedOrders = true) (h : srun T n fn.results.toList 2000 True todo env objs = .draw nd id ops k env' objs') (hn : nd)
    (hB : drawZ ops m = true) (hsee : seeB ops m A = true) (hO0 : O [] = objs' ++ List.replicate kk (some HD)) (hOF : ∀ L, (∀ i, i < m → i ∈ L) → O L = objsF) (hOj : ∀ j L, actB A j = false → O (j :: L) = O L)
    (hAm : (A.all fun x => Nat.blt x.1 m) = true) (hD : ∀ L, DSat P n C.X (O L) ops (fun x => x = E) (quietOps ops m A) env')
    (hA : ∀ x ∈ A, ∃ oe, ops[x.1]? = some oe ∧ oe.dst = x.2.map (·.1) ∧ HeadH P n C O m ops (actE A ++ E) x.1 oe)
    (hk : ASat P f n C (.inRegion ops (List.range' m (ops.size - m)) :: k) (actE A ++ E) objsF R) (hGk : GOk P C.π C.objs C.w := by with_reducible assumption) : ASat P f n C todo env objs R := by
  have hq : ∀ {j : Nat} {o : Oper}, j < m → actB A j = false → ops[j]? = some o → o ∈ quietOps ops m A := by
    intro j o hj hb ho
    unfold quietOps
    rw [List.mem_filterMap]
    exact ⟨j, List.mem_filter.2 ⟨List.mem_range.2 hj, by rw [hb]; rfl⟩, ho⟩
  have hns : ∀ {j : Nat} {o : Oper}, j < m → actB A j = false → ops[j]? = some o → ∀ x ∈ actE A, x.1 ∉ o.looksAt ops ∧ o.dst ≠ some x.1 := by
    intro j o hj hb ho x hx
    have h1 := List.all_eq_true.1 hsee j (List.mem_range.2 hj)
    rw [hb, ho] at h1
    have h1' : ((actE A).all fun x => !(o.looksAt ops).contains x.1 && o.dst != some x.1) = true := by simpa only [Bool.false_or] using h1
    have h2 := List.all_eq_true.1 h1' x hx
    simpa using h2
  refine sat_drawH m kk O (actE A ++ E) hT hf hmx h hn hB hO0 hOF ?_ ?_ hk
  · intro j o hj ho
    cases hb : actB A j with
    | false =>
      refine headH_of (fun L => hOj j L hb) fun L => ?_
      obtain ⟨E0, a1, a2, a3, rfl⟩ := hD L
      have hn2 := hns hj hb ho
      refine headOp_env (fun t ht => look_skip fun x hx e => (hn2 x hx).1 (e ▸ ht)) (fun d hd => look_skip fun x hx e => (hn2 x hx).2 (e ▸ hd)) (a3 o (hq hj hb ho))
    | true =>
      obtain ⟨x, hx, hxe⟩ := List.any_eq_true.1 hb
      obtain rfl : x.1 = j := Nat.eq_of_beq_eq_true hxe
      obtain ⟨oe, h1, _, h3⟩ := hA x hx
      rw [ho] at h1
      cases h1
      exact h3
  · intro t ht a ha
    have hne : ∀ x ∈ actE A, x.1 ≠ t := by
      rintro x hx rfl
      obtain ⟨y, hy, hyx⟩ := List.mem_filterMap.1 hx
      obtain ⟨oe, h1, h2, _⟩ := hA y hy
      rw [hyx] at h2
      have hym := List.all_eq_true.1 hAm y hy
      have := ht y.1 (by simpa [Nat.blt_eq] using hym)
      rw [dstIs_iff.2 ⟨oe, h1, by simpa using h2⟩] at this
      cases this
    rw [look_skip hne] at ha
    obtain ⟨E0, a1, a2, a3, rfl⟩ := hD []
    refine a1 t (fun o ho hd => ?_) a ha
    unfold quietOps at ho
    rw [List.mem_filterMap] at ho
    obtain ⟨j, hj, ho⟩ := ho
    have hj := List.mem_range.1 (List.mem_filter.1 hj).1
    have := ht j hj
    rw [dstIs_iff.2 ⟨o, ho, hd⟩] at this
    cases this
end
end Ab
set_option linter.unusedVariables false
set_option linter.unusedSectionVars false
namespace Ab
open Go
variable [Draws]

theorem ACall.frzO (ι : List Nat) {P : Program} [Globals P] {f : FuncId} {az : List AV} {objs o1 o2 o3 : List (Option AObj)} {r1 r2 r3 : AV} {env2 : Env} (h : ACall P f az objs (fun r o => r = r1 ∧ o = o1)) (hz : frzI ι [] o1 [r1] = some (env2, o2, [r2])) (hle : VLe r2 r3) (hO : subO o3 o2) (hb : refsB o3.length r3 = true) (hro : refsO o3.length o3 = true) (hl : objs.length ≤ o3.length) : ACall P f az objs (fun r o => r = r3 ∧ o = o3) := by
  have h2 : ACall P f az objs (fun r o => r = r2 ∧ o = o2) := by
    intro X π w vs g m hv
    refine (h X π w vs g m hv).mono ?_
    rintro e w' ⟨v, r, o, π', rfl, ⟨rfl, rfl⟩, hm, hrel, hh⟩
    obtain ⟨m2, h2, _, r2⟩ := freeze_all (C := ⟨X, π, objs, w, [], fun _ => False⟩) (tmps := #[]) ι hz hm hh (fun t a ht => by simp [look] at ht) (.cons hrel .nil)
    cases r2 with | cons hr _ => exact ⟨v, _, o2, π', rfl, ⟨rfl, rfl⟩, m2, hr, h2⟩
  refine h2.less ?_
  rintro r o ⟨rfl, rfl⟩
  exact ⟨r3, o3, ⟨rfl, rfl⟩, hle, hO, hb, hro, hl⟩
end Ab
