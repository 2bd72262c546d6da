/- A part of the proof. -/
import Derived.Test.YtkemmijjpclckaaGreatDoorP17
import Derived.Lib.DecodeN
import Derived.Shelf.Small.Strs
set_option linter.unusedVariables false
set_option linter.unusedSimpArgs false
set_option linter.unusedSectionVars false
set_option maxRecDepth 100000
set_option maxHeartbeats 8000000
namespace Go.Proofs.YtkemmijjpclckaaGreatDoor
open Go Ab Go.Lib
def bA (l : List UInt8) (i : Nat) : Nat := (l.getD i 0).toNat
def decL (l : List UInt8) : Nat × Nat := decodeN l.length (bA l 0) (bA l 1) (bA l 2) (bA l 3)
theorem z9y (l : List UInt8) (i : Nat) : (⟨l.toArray⟩ : ByteArray).get! i = l.getD i 0 := by
 show l.toArray[i]! = _
 by_cases h : i < l.length
 ·simp [h]
 ·simp [h, List.getD_eq_getElem?_getD]
  rfl
theorem z93 (l : List UInt8) (i k : Nat) : bA (l.drop i) k = bA l (i + k) := by
 unfold bA
 rw [List.getD_eq_getElem?_getD, List.getD_eq_getElem?_getD, List.getElem?_drop]
theorem zbi (l : List UInt8) (i : Nat) : Utf8.decode ⟨l.toArray⟩ i = decL (l.drop i) := by
 rw [decode_at, z9y, z9y, z9y, z9y, z32]
 unfold decL
 rw [z93, z93, z93, z93, List.length_drop]
 rfl
theorem bA_lt (l : List UInt8) (i : Nat) : bA l i < 256 := UInt8.toNat_lt _
theorem zfu (l : List UInt8) (h : l ≠ []) : 1 ≤ (decL l).2 ∧ (decL l).2 ≤ l.length := by
 have h1 : 1 ≤ l.length := by
  cases l with
  | nil => exact absurd rfl h
  | cons _ _ => simp
 unfold decL decodeN
 repeat' split
 all_goals (simp only; omega)
def nameN : Nat → List UInt8 → Option Nat
 | 0, _ => none
 | f + 1, l => if l = [] then some 0 else if (decL l).1 < 32 ∨ (decL l).1 = 127 ∨ decL l = (65533, 1) then none else (nameN f (l.drop (decL l).2)).map (· + 1)
theorem zce : ∀ {f g : Nat} {l : List UInt8}, l.length < f → f ≤ g → nameN g l = nameN f l
 | 0, _, _, h, _ => by omega
 | f + 1, 0, _, _, h => by omega
 | f + 1, g + 1, l, h, hg => by
  rw [nameN, nameN]
  split
  ·rfl
  ·rename_i hl
   split
   ·rfl
   ·have := zfu l hl
    rw [zce (f := f) (g := g) (l := l.drop (decL l).2) (by rw [List.length_drop]; omega) (by omega)]
def z61 (l : List UInt8) : Bool := match nameN (l.length + 1) l with
 | some k => decide (1 ≤ k ∧ k ≤ 40)
 | none => false
theorem zkg (l : List UInt8) (h : l ≠ []) (hn : decL l ≠ (65533, 1)) : ((decL l).1 = bA l 0 ∧ (decL l).2 = 1 ∧ bA l 0 < 128) ∨ (128 ≤ (decL l).1 ∧ 192 ≤ bA l 0 ∧ ∀ k, k < (decL l).2 → 128 ≤ bA l k) := by
 have h0 := bA_lt l 0
 unfold decL decodeN at hn ⊢
 generalize h00 : bA l 0 = b0 at *
 generalize h1 : bA l 1 = b1 at *
 generalize h2 : bA l 2 = b2 at *
 generalize h3 : bA l 3 = b3 at *
 by_cases c0 : b0 < 128
 ·rw [if_pos c0]
  exact .inl ⟨rfl, rfl, c0⟩
 rw [if_neg c0] at hn ⊢
 right
 by_cases c1 : b0 / 32 = 6 ∧ (1 < l.length ∧ b1 / 64 = 2)
 ·rw [if_pos c1] at hn ⊢
  by_cases d1 : b0 % 32 * 64 + b1 % 64 ≥ 128
  ·rw [if_pos d1]
   refine ⟨by simp only; omega, by omega, fun k hk => ?_⟩
   simp only at hk
   rcases k with _ | _ | _ | _ | k
   ·rw [h00]; omega
   ·rw [Nat.zero_add, h1]; omega
   ·first | omega | (rw [show 0 + 1 + 1 = 2 from rfl, h2]; omega)
   ·first | omega | (rw [show 0 + 1 + 1 + 1 = 3 from rfl, h3]; omega)
   ·omega
  ·rw [if_neg d1] at hn
   exact absurd rfl hn
 rw [if_neg c1] at hn ⊢
 by_cases c2 : b0 / 16 = 14 ∧ (1 < l.length ∧ b1 / 64 = 2) ∧ (2 < l.length ∧ b2 / 64 = 2)
 ·rw [if_pos c2] at hn ⊢
  split at hn
  ·rename_i d2
   rw [if_pos d2]
   refine ⟨by simp only; omega, by omega, fun k hk => ?_⟩
   simp only at hk
   rcases k with _ | _ | _ | _ | k
   ·rw [h00]; omega
   ·rw [Nat.zero_add, h1]; omega
   ·first | omega | (rw [show 0 + 1 + 1 = 2 from rfl, h2]; omega)
   ·first | omega | (rw [show 0 + 1 + 1 + 1 = 3 from rfl, h3]; omega)
   ·omega
  ·exact absurd rfl hn
 rw [if_neg c2] at hn ⊢
 split at hn
 ·rename_i c3
  rw [if_pos c3]
  split at hn
  ·rename_i d3
   rw [if_pos d3]
   refine ⟨by simp only; omega, by omega, fun k hk => ?_⟩
   simp only at hk
   rcases k with _ | _ | _ | _ | k
   ·rw [h00]; omega
   ·rw [Nat.zero_add, h1]; omega
   ·first | omega | (rw [show 0 + 1 + 1 = 2 from rfl, h2]; omega)
   ·first | omega | (rw [show 0 + 1 + 1 + 1 = 3 from rfl, h3]; omega)
   ·omega
  ·exact absurd rfl hn
 ·exact absurd rfl hn
end Go.Proofs.YtkemmijjpclckaaGreatDoor
namespace Go.Proofs.YtkemmijjpclckaaGreatDoor
open Go Ab
@[reducible] def eP2 (p : P2) : D := .ag [eI p.1, eI p.2]
@[reducible] def eP2s (l : List P2) : D := eL 2 eP2 (0, 0) l
abbrev Nm := UInt8 × Int × List UInt8
@[reducible] def dTx (l : List UInt8) : D := .v (.string ⟨l.toArray⟩)
@[reducible] def eNm (x : Nm) : D := .ag [.v (.int .u8 (x.1.toNat : Int)), eI x.2.1, dTx x.2.2]
@[reducible] def eNms (l : List Nm) : D := eL 3 eNm (0, 0, []) l
@[reducible] def eAg (a : Ag) : D := .ag [eI a.i, eP2s a.l, eP2s a.g, eIs a.outs, eIs a.bad, eIs a.con, eNms a.names]
structure Ct where
 g : List P2
 inv : Int
 p0 : List Sp
 p1 : List Sp
 p2 : List Sp
 deriving Inhabited
@[reducible] def eCt (c : Ct) : D := .ag [eP2s c.g, eI c.inv, eSps c.p0, eSps c.p1, eSps c.p2]
def varsA (a : Ag) : Int := a.i + a.l.length + a.g.length
def latOk (i v : Int) : Nat → List P2 → Bool
 | _, [] => true
 | k, p :: r => decide ((0 ≤ p.1 ∧ p.1 ≤ 2 * v + 1) ∧ (p.2 = 0 ∨ p.2 = 1 ∨ p.2 = 2 * (i + 1 + k))) && latOk i v (k + 1) r
def gatOk (v : Int) : List P2 → Bool
 | [] => true
 | p :: r => decide (0 ≤ p.2 ∧ p.2 ≤ p.1 ∧ p.1 < 2 * v) && gatOk (v + 1) r
def z1o (v : Int) (l : List Int) : Bool := decide (l.length ≤ 2000) && l.all (fun x => decide (0 ≤ x ∧ x ≤ 2 * v + 1))
def kindN (c : UInt8) : Int := if c = 105 then 0 else if c = 108 then 1 else if c = 111 then 2 else if c = 98 then 3 else if c = 99 then 4 else -1
def manyN (a : Ag) (k : Int) : Int := if k = 0 then a.i else if k = 1 then a.l.length else if k = 2 then a.outs.length else if k = 3 then a.bad.length else if k = 4 then a.con.length else 0
def behB (x y : Nm) : Bool := decide (kindN x.1 < kindN y.1 ∨ kindN x.1 = kindN y.1 ∧ x.2.1 < y.2.1)
def nameB (a : Ag) (x : Nm) : Bool := decide (0 ≤ x.2.1 ∧ x.2.1 < manyN a (kindN x.1)) && z61 x.2.2
def nmsOk (a : Ag) : Option Nm → List Nm → Bool
 | _, [] => true
 | o, x :: r => nameB a x && (match o with | none => true | some y => behB y x) && nmsOk a (some x) r
def z2p (a : Ag) : Bool := decide (0 ≤ a.i ∧ a.i ≤ 20000 ∧ a.l.length ≤ 20000 ∧ a.g.length ≤ 20000 ∧ varsA a ≤ 20000) && latOk a.i (varsA a) 0 a.l && gatOk (a.i + a.l.length + 1) a.g && z1o (varsA a) a.outs && z1o (varsA a) a.bad && z1o (varsA a) a.con && (nmsOk a none a.names && decide (a.names.length ≤ 2000))
theorem zh5 : ∀ {g : List P2} {v : Nat}, gatOk v g = true → GOkF v g
 | [], _, _ => trivial
 | p :: g, v, h => by
  rw [gatOk, Bool.and_eq_true, decide_eq_true_eq] at h
  exact ⟨h.1, zh5 (v := v + 1) (by rw [← h.2]; rfl)⟩
theorem zf6 (i v : Int) : ∀ (l : List P2) (k : Nat), latOk i v k l = true ↔ ∀ j (h : j < l.length), (0 ≤ l[j].1 ∧ l[j].1 ≤ 2 * v + 1) ∧ (l[j].2 = 0 ∨ l[j].2 = 1 ∨ l[j].2 = 2 * (i + 1 + (k + j : Nat)))
 | [], k => by simp [latOk]
 | p :: l, k => by
  rw [latOk, Bool.and_eq_true, decide_eq_true_eq, zf6 i v l (k + 1)]
  constructor
  ·rintro ⟨h1, h2⟩ j hj
   rcases j with _ | j
   ·exact h1
   ·have := h2 j (by simpa using hj)
    rw [show k + (j + 1) = k + 1 + j by omega]
    exact this
  ·intro h
   refine ⟨h 0 (by simp), fun j hj => ?_⟩
   have := h (j + 1) (by simpa using hj)
   rw [show k + (j + 1) = k + 1 + j by omega] at this
   exact this
theorem z67 : ∀ (g : List P2) (v : Int), gatOk v g = true ↔ ∀ j (h : j < g.length), 0 ≤ g[j].2 ∧ g[j].2 ≤ g[j].1 ∧ g[j].1 < 2 * (v + (j : Nat))
 | [], v => by simp [gatOk]
 | p :: g, v => by
  rw [gatOk, Bool.and_eq_true, decide_eq_true_eq, z67 g (v + 1)]
  constructor
  ·rintro ⟨h1, h2⟩ j hj
   rcases j with _ | j
   ·simpa using h1
   ·have := h2 j (by simpa using hj)
    rw [show v + ((j + 1 : Nat) : Int) = v + 1 + (j : Nat) by omega]
    exact this
  ·intro h
   refine ⟨by have h0 := h 0 (Nat.succ_pos _); rw [show v + ((0 : Nat) : Int) = v by simp] at h0; exact h0, fun j hj => ?_⟩
   have := h (j + 1) (by simpa using hj)
   rw [show v + ((j + 1 : Nat) : Int) = v + 1 + (j : Nat) by omega] at this
   exact this
def zu (a : Ag) (c : Ct) : Ag := { a with g := a.g ++ c.g }
theorem z2i (a : Ag) (c : Ct) : varsA (zu a c) = varsA a + c.g.length := by
 unfold varsA zu
 simp only [List.length_append]
 omega
def z2y (a : Ag) (l : Int) : Bool := (hangA a.i.toNat a.l.length a.g).getD (l / 2).toNat false
def z3s (a : Ag) (c : Ct) : Bool :=
 decide (c.g.length ≤ 20000) && z2p (zu a c) && decide (0 ≤ c.inv ∧ c.inv ≤ 2 * varsA (zu a c) + 1) && !(z2y (zu a c) c.inv) &&
 z34 (varsA (zu a c) + 1) c.p0 && z34 (2 * (varsA (zu a c) + 1)) c.p1 && z34 (varsA (zu a c) + 1) c.p2
end Go.Proofs.YtkemmijjpclckaaGreatDoor
namespace Go.Proofs.YtkemmijjpclckaaGreatDoor
open Go Ab Go.RowKit
theorem zhr (n : Nat) (h1 : 1 ≤ n) (hn : n ≤ 1000000) (rd : Nat → D) : ACall Tryz.prog 89 [.d (.v (.slice none 0 0)), vI .i64 (n : Int)] [] (fun r o => r = .gs 0 ∧ o = [some (.grow 98 2 [] rd)]) := by
 intro X π w us hgk m hv
 refine .inl ⟨zf Tryz.func89 rfl rfl _ _, ?_⟩
 cases hv with | cons hv ht => cases ht with | cons hv2 ht => cases ht with | nil =>
 cases hv with | d hv => cases hv with | v _ =>
 cases hv2 with | d hv2 => cases hv2 with | v _ =>
 obtain rfl : π = [] := List.length_eq_zero_iff.1 m.len
 obtain ⟨i0, hi0, hz0, hs0, hb0⟩ : ∃ i0, Tryz.prog.info? (Tryz.growAL_ren.t 25) = some i0 ∧ i0.zero = some (Value.agg #[.int .i64 0, .int .i64 0]) ∧ i0.size = 2 ∧ i0.bytes = 16 := by
  have h : (Tryz.prog.info? (Tryz.growAL_ren.t 25)).map (fun i => (i.zero, i.size, i.bytes)) = some (some (Value.agg #[.int .i64 0, .int .i64 0]), 2, 16) := by kernel_rfl
  cases hi : Tryz.prog.info? (Tryz.growAL_ren.t 25) with
  | none => rw [hi] at h; cases h
  | some i =>
   rw [hi] at h
   simp only [Option.map_some, Option.some.injEq, Prod.mk.injEq] at h
   exact ⟨i, rfl, h.1, h.2.1, h.2.2⟩
 have hcall := Any8.slices_Grow_grow Tryz.growAL i0 (Value.agg #[.int .i64 0, .int .i64 0]) hi0 hz0 (by omega) none 0 0 n [] w (Nat.le_refl _) (by omega) (by rw [hb0]; omega) (by omega) (by simp) (fun _ => rfl) (fun a e => by cases e)
 refine Calls.mono hcall ?_
 rintro e w' ⟨rfl, rfl⟩
 have hG1 := grownCap_ge w (0 + n) 0 (Tryz.growAL_ren.t 25)
 have hG2 := grownCap_le_maxLen w (0 + n) 0 (Tryz.growAL_ren.t 25) (by have hml : maxLen = 9223372036854775807 := rfl; omega)
 generalize grownCap w (0 + n) 0 (Tryz.growAL_ren.t 25) = G at *
 obtain ⟨c, rfl⟩ : ∃ c, G = c + 1 := ⟨G - 1, by omega⟩
 generalize hA : (#[] ++ Builtin.zeroCells (Value.agg #[.int .i64 0, .int .i64 0]).cells (0 + n - 0) ++ Builtin.zeroCells (Value.agg #[.int .i64 0, .int .i64 0]).cells (c + 1 - (0 + n)) : Array Value) = A
 have hAs : A.size = (c + 1) * 2 := by
  rw [← hA]
  simp only [Array.size_append, z26]
  show 0 + (0 + n - 0) * 2 + (c + 1 - (0 + n)) * 2 = (c + 1) * 2
  omega
 obtain ⟨A⟩ := A
 have hAs : A.length = (c + 1) * 2 := hAs
 have hnew : (w.drew.alloc (.cells A.toArray (Tryz.growAL_ren.t 25))).heap[w.heap.size]? = some (.cells A.toArray 98 (0, 0)) := by
  show (w.heap.push _)[w.heap.size]? = _
  simp
  rfl
 have t := z2m (w' := w.drew.alloc (.cells A.toArray (Tryz.growAL_ren.t 25))) m rfl rfl ⟨rfl, zv (Nat.le_succ _)⟩ (by show w.heap.size ≤ (w.heap.push _).size; simp) (fun b hb => z15 _ hb) (.slice (some ⟨w.heap.size, 0, none⟩) 0 (c + 1)) (.grow 98 2 [] rd)
  (by intro b e; cases e; exact Nat.le_refl _)
  (.grow (xs := []) (us := []) hnew (fun i _ h => by omega) .nil (fun i h => absurd h (Nat.not_lt_zero i)) (Nat.zero_le _) hG2 (by rw [hAs]; omega) (fun i h => absurd h (Nat.not_lt_zero i)))
 exact ⟨_, _, _, _, rfl, ⟨rfl, rfl⟩, t.mem, .gs rfl, t.hist⟩
theorem zg4 : ACall Tryz.prog 89 [.d (.v (.slice none 0 0)), vI .i64 0] [] (fun r o => r = .d (.v (.slice none 0 0))) :=
 z3n (fun _ _ => Nat.le_refl _) rfl (vs := [.slice none 0 0, .int .i64 0]) (fun w ok π us h => by
  cases h with | cons h1 h => cases h with | cons h2 h => cases h with | nil =>
  cases h1 with | d h1 => cases h1 with | v _ => cases h2 with | d h2 => cases h2 with | v _ => rfl) (fun args w => zf Tryz.func89 rfl rfl args w) fun w ht => (Any8.slices_Grow_room Tryz.growAL none 0 0 0 w (Nat.le_refl _) (by omega) (by omega) (by omega)).mono fun e w' ⟨he, hw⟩ => ⟨he, hw ▸ ⟨rfl, rfl, rfl, Nat.le_refl _, fun b hb => rfl⟩⟩
@[reducible] def cAEs (l : List (P2)) : D := eL 2 eP2 (0, 0) l
@[reducible] def cAEss (l : List (List (P2))) : D := eL 1 cAEs [] l
theorem zkn (L : List (List (P2))) (hLl : L.length ≤ 5) (hrow : ∀ r ∈ L, r.length ≤ 100000) : ACall Tryz.prog 45 [.d (cAEss L)] [] (fun r o => r = .d (cAEs L.flatten)) := by
 refine z8 Tryz.func45 rfl rfl (Nat.le_of_ble_eq_true rfl) fun C hC hCl hDs hGk => ?_
 refine za tabOk Tryz.func45 rfl trivial ?_
 have rows : ∀ i : Nat, i < L.length → (L.getD i []).length ≤ 100000 := fun i hi => by
  rw [show L.getD i [] = L[i] by simp [hi]]
  exact hrow _ (List.getElem_mem hi)
 have hsum : ∀ i : Nat, i < L.length → (L.take (i + 1)).flatten = (L.take i).flatten ++ L.getD i [] := fun i hi => by
  rw [List.take_succ_eq_append_getElem hi, List.flatten_append, show L.getD i [] = L[i] by simp [hi]]
  simp
 have hle : ∀ i : Nat, i ≤ L.length → (L.take i).flatten.length ≤ 100000 * i := by
  intro i
  induction i with
  | zero => simp
  | succ i ih =>
   intro hi
   rw [hsum i (by omega), List.length_append]
   have h1 := rows i (by omega)
   have h2 := ih (by omega)
   omega
 refine zj (α := Nat) (fun i => [(0, .d (cAEss L)), (9, .d (cAEss L)), (10, vI .i64 (L.length : Int)), (11, vI .i64 (i : Int)), (3, vI .i64 (((L.take i).flatten.length : Nat) : Int))]) (fun i => []) (fun i => i ≤ L.length) (fun i => L.length - i) 0 (Nat.zero_le _) ?_ ?_
 ·exact fun h => zg h hC hCl ⟨⟨_, rfl, .refl _⟩, ⟨_, rfl, .refl _⟩, ⟨_, rfl, .of (by rw [List.length_map])⟩, ⟨_, rfl, .refl _⟩, ⟨_, rfl, .of (by simp)⟩, trivial⟩ trivial rfl rfl (Nat.zero_le _)
 rintro i hi ih
 refine z6 tabOk Tryz.func45 rfl trivial (fun h => ?_) (fun h => ?_)
 ·have h : decide ((i : Int) < (L.length : Int)) = true := h
  rw [decide_eq_true_eq] at h
  have h1 := rows i (by omega)
  have h2 := hsum i (by omega)
  have h3 := hle i hi
  have hw : IntKind.i64.wrap ((((L.take i).flatten.length : Nat) : Int) + ((((L.getD i []).map eP2).length : Nat) : Int)) = (((L.take (i + 1)).flatten.length : Nat) : Int) := by
   rw [h2, List.length_append, List.length_map, zb (by omega) (by omega)]
   omega
  refine z6 tabOk Tryz.func45 rfl ?nd (fun h4 => ?_) (fun h4 => ?_)
  case nd => exact ⟨⟨by omega, by rw [List.length_map]; omega⟩, trivial⟩
  ·have h4 : decide (IntKind.i64.wrap ((((L.take i).flatten.length : Nat) : Int) + ((((L.getD i []).map eP2).length : Nat) : Int)) < 0) = true := h4
   rw [hw, decide_eq_true_eq] at h4
   omega
  refine za tabOk Tryz.func45 rfl trivial ?_
  exact zg (ih (i + 1) (by omega) (by omega)) hC hCl ⟨⟨_, rfl, .refl _⟩, ⟨_, rfl, .refl _⟩, ⟨_, rfl, .refl _⟩, ⟨_, rfl, .of (by rw [zb (by omega) (by omega)]; rfl)⟩, ⟨_, rfl, .of (by rw [← hw]; rfl)⟩, trivial⟩ trivial rfl rfl (Nat.zero_le _)
 have h : decide ((i : Int) < (L.length : Int)) = false := h
 rw [decide_eq_false_iff_not] at h
 obtain rfl : i = L.length := by omega
 have hf : (L.take L.length).flatten = L.flatten := by rw [List.take_length]
 have hT := hle L.length (Nat.le_refl _)
 apply letK (p := ASat Tryz.prog 45 Tryz.f45.ntmps C _ [(25, .d (cAEss L)), (26, vI .i64 (L.length : Int)), (27, vI .i64 0), (6, .gs 0)] [some (.grow 98 2 (([] : List (P2)).map eP2) (fun i => eP2 (([] : List (P2)).getD i (0, 0))))] (fun r o => r = .d (cAEs L.flatten)))
 ·intro key
  by_cases hz : (L.take L.length).flatten.length = 0
  ·refine ze tabOk Tryz.func45 rfl trivial zg4 ⟨.refl _, .of (by rw [hz]; rfl), trivial⟩ rfl ⟨_, rfl⟩ (by rintro r o rfl; rfl) ?_
   rintro _ o rfl
   refine za tabOk Tryz.func45 rfl trivial ?_
   refine z3r (t := 6) (e := 98) (s := 2) (.inl rfl) (fun i => eP2 (([] : List (P2)).getD i (0, 0))) ?_
   exact zg key hC hCl ⟨⟨_, rfl, .refl _⟩, ⟨_, rfl, .of (by rw [List.length_map])⟩, ⟨_, rfl, .refl _⟩, ⟨_, rfl, .refl _⟩, trivial⟩ ⟨.refl _, trivial⟩ rfl rfl (Nat.zero_le _)
  ·refine zm [] tabOk Tryz.func45 rfl trivial (zhr (L.take L.length).flatten.length (by omega) (by omega) (fun i => eP2 (([] : List (P2)).getD i (0, 0)))) trivial (.refl _) rfl rfl rfl ⟨_, rfl⟩ ?_
   rintro _ o ⟨rfl, rfl⟩
   refine za tabOk Tryz.func45 rfl trivial ?_
   exact zg key hC hCl ⟨⟨_, rfl, .refl _⟩, ⟨_, rfl, .of (by rw [List.length_map])⟩, ⟨_, rfl, .refl _⟩, ⟨_, rfl, .refl _⟩, trivial⟩ ⟨.refl _, trivial⟩ rfl rfl (Nat.zero_le _)
 refine zj (α := Nat) (fun i => [(25, .d (cAEss L)), (26, vI .i64 (L.length : Int)), (27, vI .i64 (i : Int)), (6, .gs 0)]) (fun i => [some (.grow 98 2 ((L.take i).flatten.map eP2) (fun j => eP2 ((L.take i).flatten.getD j (0, 0))))]) (fun i => i ≤ L.length) (fun i => L.length - i) 0 (Nat.zero_le _) ?_ ?_
 ·exact fun h => zg h hC hCl ⟨⟨_, rfl, .refl _⟩, ⟨_, rfl, .refl _⟩, ⟨_, rfl, .refl _⟩, ⟨_, rfl, .refl _⟩, trivial⟩ ⟨.of (by simp), trivial⟩ rfl rfl (Nat.zero_le _)
 rintro i hi ih
 refine z6 tabOk Tryz.func45 rfl trivial (fun h => ?_) (fun h => ?_)
 ·have h : decide ((i : Int) < (L.length : Int)) = true := h
  rw [decide_eq_true_eq] at h
  have h1 := rows i (by omega)
  have h2 := hsum i (by omega)
  have h3 := hle i hi
  refine za tabOk Tryz.func45 rfl ?nd ?_
  case nd =>
   refine ⟨?_, ⟨by omega, by rw [List.length_map]; omega⟩, trivial⟩
   rw [List.length_map, List.length_map, Int.toNat_natCast]
   show ((L.take i).flatten.length + (L.getD i []).length) * 16 ≤ _
   omega
  refine zg (ih (i + 1) (by omega) (by omega)) hC hCl ⟨⟨_, rfl, .refl _⟩, ⟨_, rfl, .refl _⟩, ⟨_, rfl, .of (by rw [zb (by omega) (by omega)]; rfl)⟩, ⟨_, rfl, .refl _⟩, trivial⟩ ⟨.grow ?_ (z2v eP2 (0, 0) _), trivial⟩ rfl rfl (Nat.zero_le _)
  rw [h2, List.map_append]
  rfl
 have h : decide ((i : Int) < (L.length : Int)) = false := h
 rw [decide_eq_false_iff_not] at h
 obtain rfl : i = L.length := by omega
 refine zy 0 rfl ?_
 refine z7 tabOk Tryz.func45 rfl trivial ?_
 rw [hf]
 rfl
end Go.Proofs.YtkemmijjpclckaaGreatDoor
namespace Ab
open Go
variable [Draws]
section
variable {P : Program} [Globals P] {T : Tab} {n : Nat} {env : Env} {objs : List (Option AObj)} {ops : Array Oper} {K : Env → Prop} {X : Nat → Prop}
end
end Ab
namespace Ab
open Go
variable [Draws]
section
variable {P : Program} [Globals P] {T : Tab} {f : FuncId} {fn : Func} {n : Nat} {C : Cx} {R : AV → List (Option AObj) → Prop} {todo : List Item} {env : Env} {objs : List (Option AObj)} {nd : Prop} {ops : Array Oper}
theorem zr2 {w : World} {b : Nat} {o : Obj} (h : w.heap[b]? = some o) (o' : Obj) : (w.heap.setIfInBounds b o')[b]? = some o' ∧ ∀ c, c ≠ b → (w.heap.setIfInBounds b o')[c]? = w.heap[c]? := by
 have hlt := (Array.getElem?_eq_some_iff.1 h).1
 refine ⟨by simp [hlt], fun c hc => ?_⟩
 rw [Array.getElem?_setIfInBounds]
 rw [if_neg (fun e => hc e.symm)]
theorem zjf {i : Nat} {r : List Nat} {k : List Item} {o : Oper} {e2 : Env} {t : TypeId} {rs : TRow} {xo : Operand} {s : ByteArray} (hT : TabOk P T) (ho : ops[i]? = some o) (hw : wantE ops env o = .yes) (hop : o.op = .range t xo) (hx : opnd env xo = some (.d (.v (.string s))))
  (hrs : tlook T t = some rs) (hks : rs.kd = .str) (hput : putE n o.dst (.ptr objs.length 0) env = some e2) (h : ASat P f n C (.inRegion ops r :: k) e2 (objs ++ [some (.siter s 0)]) R) : ASat P f n C (.inRegion ops (i :: r) :: k) env objs R := by
 refine z5r ⟨none, false, .ptr objs.length 0, none, objs ++ [some (.siter s 0)]⟩ ho hw (fun X π w tmps m he _ => ?_) trivial hput h
 have hax := z4u (P := P) he hx
 have hs := z4j hT hrs hks
 have hrun := run_range_string (P := P) w t s hs
 refine ⟨.pointer (some ⟨w.heap.size, 0, none⟩), w.alloc (.stringIter s 0), π ++ [.pointer (some ⟨w.heap.size, 0, none⟩)], ?_, zhz m (.stringIter s 0) _ (.siter s 0) rfl (.siter (z1k _)), fun _ => .ptr (z4s m.len _)⟩
 unfold execOp
 rw [hop]
 simp only [Sem.run_bind, hax, hrun, Result.andThen_ok, Sem.run_pure]
 rfl
theorem zlb {i j pos : Nat} {r : List Nat} {k : List Item} {o : Oper} {e2 : Env} {io : Operand} {s : ByteArray} (ho : ops[i]? = some o) (hw : wantE ops env o = .yes) (hop : o.op = .next io true) (hx : opnd env io = some (.ptr j 0)) (hj : nth objs j = some (some (.siter s pos)))
  (hlt : pos < s.size) (hput : putE n o.dst (.tp [vB true, vI .i64 (pos : Int), vI .i32 ((Utf8.decode s pos).1 : Int)]) env = some e2) (h : ASat P f n C (.inRegion ops r :: k) e2 (zi objs j (some (.siter s (pos + (Utf8.decode s pos).2)))) R) : ASat P f n C (.inRegion ops (i :: r) :: k) env objs R := by
 refine z5r ⟨none, false, .tp [vB true, vI .i64 (pos : Int), vI .i32 ((Utf8.decode s pos).1 : Int)], none, zi objs j (some (.siter s (pos + (Utf8.decode s pos).2)))⟩ ho hw (fun X π w tmps m he _ => ?_) trivial hput h
 have hev := zk (ds := []) he hx
 obtain ⟨h0, hp, hrel⟩ := m.obj j _ hj
 generalize hva : Act.eval ⟨tmps, []⟩ io = va at hev
 cases hev with
 | ptr hp' =>
  rw [hp] at hp'
  cases hp'
  cases hrel with
  | siter hb =>
   rename_i b
   have hs := zr2 hb (.stringIter s (pos + (Utf8.decode s pos).2))
   refine ⟨_, { w with heap := w.heap.setIfInBounds b (.stringIter s (pos + (Utf8.decode s pos).2)) }, π, ?_, z97 (b := b) m hj hp rfl rfl rfl ⟨rfl, zv (Nat.le_refl _)⟩ (by simp) hs.2 (.siter hs.1), fun _ => .tp (.cons (.d (.v rfl)) (.cons (.d (.v rfl)) (.cons (.d (.v rfl)) .nil)))⟩
   unfold execOp
   rw [hop]
   have hrun : (Instr.next (.pointer (some ⟨b, 0, none⟩)) true o.type).run P w = .ok (.tuple #[.bool true, .int .i64 pos, .int .i32 (Utf8.decode s pos).1]) { w with heap := w.heap.setIfInBounds b (.stringIter s (pos + (Utf8.decode s pos).2)) } := by
    simp [Instr.next, getObj, setObj, Sem.run, hb, hlt, Result.andThen, goInt]
   simp only [Sem.run_bind, hva, hrun, Result.andThen_ok, Sem.run_pure]
   rfl
theorem zlc {i j pos : Nat} {r : List Nat} {k : List Item} {o : Oper} {e2 : Env} {io : Operand} {s : ByteArray} (ho : ops[i]? = some o) (hw : wantE ops env o = .yes) (hop : o.op = .next io true) (hx : opnd env io = some (.ptr j 0)) (hj : nth objs j = some (some (.siter s pos)))
  (hlt : ¬ pos < s.size) (hput : putE n o.dst (.tp [vB false]) env = some e2) (h : ASat P f n C (.inRegion ops r :: k) e2 objs R) : ASat P f n C (.inRegion ops (i :: r) :: k) env objs R := by
 refine z5r ⟨none, false, .tp [vB false], none, objs⟩ ho hw (fun X π w tmps m he _ => ?_) trivial hput h
 have hev := zk (ds := []) he hx
 obtain ⟨h0, hp, hrel⟩ := m.obj j _ hj
 generalize hva : Act.eval ⟨tmps, []⟩ io = va at hev
 cases hev with
 | ptr hp' =>
  rw [hp] at hp'
  cases hp'
  cases hrel with
  | siter hb =>
   refine ⟨_, w, π, ?_, z2l m rfl rfl ⟨rfl, zv (Nat.le_refl _)⟩ (Nat.le_refl _) (fun _ _ => rfl), fun _ => .tp (.cons (.d (.v rfl)) .nil)⟩
   unfold execOp
   rw [hop]
   have hrun : ∀ b, w.heap[b]? = some (.stringIter s pos) → (Instr.next (.pointer (some ⟨b, 0, none⟩)) true o.type).run P w = .ok (.tuple #[.bool false]) w := by
    intro b hb
    simp [Instr.next, getObj, Sem.run, hb, hlt, Result.andThen]
   simp only [Sem.run_bind, hva, hrun _ hb, Result.andThen_ok, Sem.run_pure]
   rfl
end
end Ab
namespace Go.Proofs.YtkemmijjpclckaaGreatDoor
open Go Ab Go.RowKit
theorem decGo (l : List UInt8) (h : l ≠ []) : Go.Lib.decodeGo ⟨l.toArray⟩ = decL l := by
 unfold Go.Lib.decodeGo
 rw [z32, if_neg (fun e => h (List.length_eq_zero_iff.1 e)), zbi, List.drop_zero]
theorem zoa (l : List UInt8) (hl : l ≠ []) : ACall Tryz.prog 156 [vTx l] [] (fun r o => r = tupOf [vI .i32 ((decL l).1 : Int), vI .i64 ((decL l).2 : Int)]) := by
 intro X π w us hgk m hv
 refine .inl ⟨zf Tryz.func156 rfl rfl _ _, ?_⟩
 cases hv with | cons hv ht => cases ht with | nil =>
 cases hv with | d hv => cases hv with | v hfl =>
 have hcall := Any.utf8_DecodeRuneInString Tryz.decSL ⟨l.toArray⟩ w (tb_utf hgk.tb)
 rw [decGo l hl] at hcall
 refine Calls.mono hcall ?_
 rintro e w' ⟨rfl, bl⟩
 have t := z2l m bl.os bl.tape ⟨bl.output, Nat.le_refl _⟩ bl.size bl.block
 exact ⟨_, _, [], π, rfl, rfl, t.mem, .tp (.cons (.d (.v rfl)) (.cons (.d (.v rfl)) .nil)), t.hist⟩
def nameQ (l : List UInt8) : Option Nat := nameN (l.length + 1) l
theorem zew : nameQ [] = some 0 := rfl
theorem zcd {l : List UInt8} (h : l ≠ []) : nameQ l = if (decL l).1 < 32 ∨ (decL l).1 = 127 ∨ decL l = (65533, 1) then none else (nameQ (l.drop (decL l).2)).map (· + 1) := by
 unfold nameQ
 have hw := zfu l h
 rw [nameN, if_neg h, zce (f := (l.drop (decL l).2).length + 1) (g := l.length) (by omega) (by rw [List.length_drop]; omega)]
theorem z9p (l : List UInt8) : z61 l = match nameQ l with
 | some k => decide (1 ≤ k ∧ k ≤ 40)
 | none => false := rfl
theorem zhx (l : List UInt8) (hl : l.length ≤ 1000000) : ACall Tryz.prog 133 [vTx l] [] (fun r o => r = vB (z61 l)) := by
 refine z8 Tryz.func133 rfl rfl (Nat.le_of_ble_eq_true rfl) fun C hC hCl hDs hGk => ?_
 refine zh 12 tabOk Tryz.func133 rfl trivial ?_
 refine zjf (s := ⟨l.toArray⟩) tabOk rfl rfl rfl rfl rfl rfl rfl ?_
 refine za tabOk Tryz.func133 rfl trivial ?_
 refine zj (α := Nat × Nat) (fun p => [(0, vTx l), (3, vI .i64 (p.2 : Int)), (9, .ptr 0 0)]) (fun p => [some (.siter ⟨l.toArray⟩ p.1)]) (fun p => p.1 ≤ l.length ∧ p.2 ≤ p.1 ∧ nameQ l = (nameQ (l.drop p.1)).map (· + p.2)) (fun p => l.length - p.1) (0, 0) ⟨Nat.zero_le _, Nat.le_refl _, by simp⟩ ?_ ?_
 ·exact fun h => zg h hC hCl ⟨⟨_, rfl, .refl _⟩, ⟨_, rfl, .refl _⟩, ⟨_, rfl, .refl _⟩, trivial⟩ ⟨.refl _, trivial⟩ rfl rfl (Nat.zero_le _)
 rintro ⟨p, k⟩ ⟨hp, hkp, hq⟩ ih
 simp only at hp hkp hq ih ⊢
 by_cases hlt : p < l.length
 ·have hne : l.drop p ≠ [] := fun e => by
   have := congrArg List.length e
   rw [List.length_drop, List.length_nil] at this
   omega
  have hw := zfu (l.drop p) hne
  rw [List.length_drop] at hw
  have hq2 := zcd hne
  rw [List.drop_drop] at hq2
  have hdec := zbi l p
  refine zh 2 tabOk Tryz.func133 rfl trivial ?_
  refine zlb (s := ⟨l.toArray⟩) (pos := p) rfl rfl rfl rfl rfl (by rw [z32]; exact hlt) rfl ?_
  rw [hdec]
  have hdl := zoa (l.drop p) hne
  generalize hqd : decL (l.drop p) = q at *
  obtain ⟨c, w⟩ := q
  simp only at hw hq2 hdl ⊢
  refine z6 tabOk Tryz.func133 rfl trivial (fun _ => ?_) (fun h => by cases h)
  refine ze tabOk Tryz.func133 rfl ?nd hdl ⟨.of ?a0, trivial⟩ rfl ⟨_, rfl⟩ (by rintro r o rfl; rfl) ?_
  case nd =>
   refine ⟨⟨by omega, ?_, Int.le_refl _⟩, trivial⟩
   rw [z32]
   omega
  case a0 =>
   show vS ((⟨l.toArray⟩ : ByteArray).extract ((p : Int)).toNat ((((⟨l.toArray⟩ : ByteArray).size : Nat) : Int)).toNat) = _
   rw [z32, exBy, Int.toNat_natCast, Int.toNat_natCast, List.take_length]
  rintro _ o rfl
  have bad : (c < 32 ∨ c = 127 ∨ (c, w) = (65533, 1)) → z61 l = false := fun hb => by
   rw [z9p, hq, hq2, if_pos hb]
   rfl
  have good : ¬ (c < 32 ∨ c = 127 ∨ (c, w) = (65533, 1)) → nameQ l = (nameQ (l.drop (p + w))).map (· + (k + 1)) := fun hb => by
   rw [hq, hq2, if_neg hb, Option.map_map]
   congr 1
   funext x
   show x + 1 + k = x + (k + 1)
   omega
  have step : ¬ (c < 32 ∨ c = 127 ∨ (c, w) = (65533, 1)) → (p + w ≤ l.length ∧ k + 1 ≤ p + w ∧ nameQ l = (nameQ (l.drop (p + w))).map (· + (k + 1))) := fun hb => ⟨by omega, by omega, good hb⟩
  refine z6 tabOk Tryz.func133 rfl trivial (fun h1 => ?_) (fun h1 => ?_)
  ·have h1 : decide ((c : Int) < 32) = true := h1
   rw [decide_eq_true_eq] at h1
   repeat refine z6 tabOk Tryz.func133 rfl trivial (fun _ => ?_) (fun h => by cases h)
   refine z7 tabOk Tryz.func133 rfl trivial ?_
   rw [bad (.inl (by omega))]
   rfl
  have h1 : decide ((c : Int) < 32) = false := h1
  rw [decide_eq_false_iff_not] at h1
  refine z6 tabOk Tryz.func133 rfl trivial (fun h2 => ?_) (fun h2 => ?_)
  ·have h2 : ((c : Int) == 127) = true := h2
   rw [beq_iff_eq] at h2
   repeat refine z6 tabOk Tryz.func133 rfl trivial (fun _ => ?_) (fun h => by cases h)
   refine z7 tabOk Tryz.func133 rfl trivial ?_
   rw [bad (.inr (.inl (by omega)))]
   rfl
  have h2 : ((c : Int) == 127) = false := h2
  rw [beq_eq_false_iff_ne] at h2
  refine z6 tabOk Tryz.func133 rfl trivial (fun h3 => ?_) (fun h3 => ?_)
  ·have h3 : ((c : Int) == 65533) = true := h3
   rw [beq_iff_eq] at h3
   refine z6 tabOk Tryz.func133 rfl trivial (fun h4 => ?_) (fun h4 => ?_)
   ·have h4 : ((w : Int) == 1) = true := h4
    rw [beq_iff_eq] at h4
    refine z7 tabOk Tryz.func133 rfl trivial ?_
    rw [bad (.inr (.inr (by rw [show c = 65533 by omega, show w = 1 by omega])))]
    rfl
   have h4 : ((w : Int) == 1) = false := h4
   rw [beq_eq_false_iff_ne] at h4
   have hb : ¬ (c < 32 ∨ c = 127 ∨ (c, w) = (65533, 1)) := by
    rintro (e | e | e)
    ·omega
    ·omega
    ·cases e
     exact h4 rfl
   refine za tabOk Tryz.func133 rfl trivial ?_
   refine zg (ih (p + w, k + 1) (step hb) (by simp only; omega)) hC hCl ⟨⟨_, rfl, .refl _⟩, ⟨_, rfl, .of (by rw [zb (by omega) (by omega)]; rfl)⟩, ⟨_, rfl, .refl _⟩, trivial⟩ ⟨.refl _, trivial⟩ rfl rfl (Nat.zero_le _)
  have h3 : ((c : Int) == 65533) = false := h3
  rw [beq_eq_false_iff_ne] at h3
  have hb : ¬ (c < 32 ∨ c = 127 ∨ (c, w) = (65533, 1)) := by
   rintro (e | e | e)
   ·omega
   ·omega
   ·cases e
    exact h3 rfl
  refine z6 tabOk Tryz.func133 rfl trivial (fun h => by cases h) (fun _ => ?_)
  refine za tabOk Tryz.func133 rfl trivial ?_
  refine zg (ih (p + w, k + 1) (step hb) (by simp only; omega)) hC hCl ⟨⟨_, rfl, .refl _⟩, ⟨_, rfl, .of (by rw [zb (by omega) (by omega)]; rfl)⟩, ⟨_, rfl, .refl _⟩, trivial⟩ ⟨.refl _, trivial⟩ rfl rfl (Nat.zero_le _)
 ·refine zh 2 tabOk Tryz.func133 rfl trivial ?_
  refine zlc (s := ⟨l.toArray⟩) (pos := p) rfl rfl rfl rfl rfl (by rw [z32]; exact hlt) rfl ?_
  refine z6 tabOk Tryz.func133 rfl trivial (fun h => by cases h) (fun _ => ?_)
  obtain rfl : p = l.length := by omega
  rw [List.drop_length, zew] at hq
  have hk : z61 l = decide (1 ≤ k ∧ k ≤ 40) := by
   rw [z9p, hq]
   simp
  rw [hk]
  refine z6 tabOk Tryz.func133 rfl trivial (fun h1 => ?_) (fun h1 => ?_)
  ·have h1 : decide ((k : Int) > 0) = true := h1
   rw [decide_eq_true_eq] at h1
   refine z7 tabOk Tryz.func133 rfl trivial ?_
   show vB (decide ((k : Int) ≤ 40)) = _
   congr 2
   rw [eq_iff_iff]
   omega
  ·have h1 : decide ((k : Int) > 0) = false := h1
   rw [decide_eq_false_iff_not] at h1
   refine z7 tabOk Tryz.func133 rfl trivial ?_
   rw [decide_eq_false (by omega)]
   rfl
@[reducible] def bAg (a : Ag) : AObj := .cells 27 [.d (eI a.i), .d (eP2s a.l), .d (eP2s a.g), .d (eIs a.outs), .d (eIs a.bad), .d (eIs a.con), .d (eNms a.names)]
@[reducible] def bNm (x : Nm) : AObj := .cells 104 [.d (.v (.int .u8 (x.1.toNat : Int))), .d (eI x.2.1), .d (dTx x.2.2)]
@[reducible] def zeh : List UInt8 := [105, 108, 111, 98, 99]
theorem zjy (c : UInt8) : Go.Lib.indexByte zeh c = kindN c := by
 have e : ∀ k : UInt8, (k == c) = (c == k) := fun k => by rw [Bool.eq_iff_iff, beq_iff_eq, beq_iff_eq]; exact eq_comm
 unfold kindN zeh
 by_cases h1 : c = 105
 ·subst h1; rfl
 by_cases h2 : c = 108
 ·subst h2; rfl
 by_cases h3 : c = 111
 ·subst h3; rfl
 by_cases h4 : c = 98
 ·subst h4; rfl
 by_cases h5 : c = 99
 ·subst h5; rfl
 rw [if_neg h1, if_neg h2, if_neg h3, if_neg h4, if_neg h5]
 simp [Go.Lib.indexByte, Ne.symm h1, Ne.symm h2, Ne.symm h3, Ne.symm h4, Ne.symm h5, h1, h2, h3, h4, h5]
theorem zo9 (c : UInt8) : ACall Tryz.prog 157 [vTx zeh, vI .u8 (c.toNat : Int)] [] (fun r o => r = vI .i64 (kindN c)) :=
 z3n (fun _ _ => Nat.le_refl _) rfl (vs := [.string ⟨zeh.toArray⟩, .int .u8 (c.toNat : Int)]) (fun w ok π us h => by
  cases h with | cons h1 h => cases h with | cons h2 h => cases h with | nil =>
  cases h1 with | d h1 => cases h1 with | v _ => cases h2 with | d h2 => cases h2 with | v _ => rfl) (fun args w => zf Tryz.func157 rfl rfl args w) fun w ht => (Any.strings_IndexByte Tryz.ibL ⟨zeh.toArray⟩ (c.toNat : Int) w).mono fun e w' ⟨he, hw⟩ => ⟨by rw [he, Int.toNat_natCast, show c.toNat.toUInt8 = c from UInt8.ofNat_toNat, ← zjy c], hw ▸ ⟨rfl, rfl, rfl, Nat.le_refl _, fun b hb => rfl⟩⟩
structure AgB (a : Ag) : Prop where
 i0 : 0 ≤ a.i
 i1 : a.i ≤ 1000000
 l : a.l.length ≤ 1000000
 g : a.g.length ≤ 1000000
theorem ze7 {a : Ag} (h : AgB a) : IntKind.i64.wrap (IntKind.i64.wrap (a.i + (((a.l.map eP2).length : Nat) : Int)) + (((a.g.map eP2).length : Nat) : Int)) = varsA a := by
 have h1 := h.i0
 have h2 := h.i1
 have h3 := h.l
 have h4 := h.g
 unfold varsA
 rw [List.length_map, List.length_map]
 have e1 : IntKind.i64.wrap (a.i + (a.l.length : Int)) = a.i + (a.l.length : Int) := zb (by omega) (by omega)
 rw [e1, zb (by omega) (by omega)]
theorem z47 (a : Ag) (h : AgB a) : ACall Tryz.prog 47 [.d (eAg a)] [] (fun r o => r = vI .i64 (varsA a)) := by
 refine z8 Tryz.func47 rfl rfl (Nat.le_of_ble_eq_true rfl) fun C hC hCl hDs hGk => ?_
 refine z7 tabOk Tryz.func47 rfl trivial ?_
 show vI .i64 _ = _
 rw [← ze7 h]
theorem zkq (a : Ag) (c : UInt8) : ACall Tryz.prog 132 [.d (eAg a), vI .u8 (c.toNat : Int)] [] (fun r o => r = vI .i64 (manyN a (kindN c))) := by
 refine z8 Tryz.func132 rfl rfl (Nat.le_of_ble_eq_true rfl) fun C hC hCl hDs hGk => ?_
 have ek : ∀ k : UInt8, ((c.toNat : Int) == (k.toNat : Int)) = true → c = k := fun k h => by rw [beq_iff_eq] at h; exact UInt8.toNat_inj.1 (by omega)
 have nk : ∀ k : UInt8, ((c.toNat : Int) == (k.toNat : Int)) = false → c ≠ k := fun k h e => by rw [e] at h; simp at h
 unfold kindN
 refine z6 tabOk Tryz.func132 rfl trivial (fun h => ?_) (fun h => ?_)
 ·obtain rfl : c = 105 := ek 105 h
  exact z7 tabOk Tryz.func132 rfl trivial rfl
 rw [if_neg (nk 105 h)]
 refine z6 tabOk Tryz.func132 rfl trivial (fun h => ?_) (fun h => ?_)
 ·obtain rfl : c = 108 := ek 108 h
  refine z7 tabOk Tryz.func132 rfl trivial ?_
  show vI .i64 (((a.l.map eP2).length : Nat) : Int) = _
  rw [List.length_map]
  rfl
 rw [if_neg (nk 108 h)]
 refine z6 tabOk Tryz.func132 rfl trivial (fun h => ?_) (fun h => ?_)
 ·obtain rfl : c = 111 := ek 111 h
  refine z7 tabOk Tryz.func132 rfl trivial ?_
  show vI .i64 (((a.outs.map eI).length : Nat) : Int) = _
  rw [List.length_map]
  rfl
 rw [if_neg (nk 111 h)]
 refine z6 tabOk Tryz.func132 rfl trivial (fun h => ?_) (fun h => ?_)
 ·obtain rfl : c = 98 := ek 98 h
  refine z7 tabOk Tryz.func132 rfl trivial ?_
  show vI .i64 (((a.bad.map eI).length : Nat) : Int) = _
  rw [List.length_map]
  rfl
 rw [if_neg (nk 98 h)]
 refine z6 tabOk Tryz.func132 rfl trivial (fun h => ?_) (fun h => ?_)
 ·obtain rfl : c = 99 := ek 99 h
  refine z7 tabOk Tryz.func132 rfl trivial ?_
  show vI .i64 (((a.con.map eI).length : Nat) : Int) = _
  rw [List.length_map]
  rfl
 rw [if_neg (nk 99 h)]
 exact z7 tabOk Tryz.func132 rfl trivial rfl
theorem zg9 (x y : Nm) : ACall Tryz.prog 134 [.d (eNm x), .d (eNm y)] [] (fun r o => r = vB (behB x y)) := by
 refine z8 Tryz.func134 rfl rfl (Nat.le_of_ble_eq_true rfl) fun C hC hCl hDs hGk => ?_
 refine zn 5 tabOk Tryz.func134 rfl rfl trivial (by kernel_rfl) ?_
 refine zx tabOk rfl trivial (zo9 x.1) (zf Tryz.func157 rfl rfl) (by rintro r o rfl; rfl) (.refl _) rfl rfl ⟨_, rfl⟩ ?_
 refine zo tabOk rfl trivial ?_
 refine ze tabOk Tryz.func134 rfl trivial (zo9 y.1) (.refl _) rfl ⟨_, rfl⟩ (by rintro r o rfl; rfl) ?_
 rintro _ o rfl
 unfold behB
 generalize kindN x.1 = k
 generalize kindN y.1 = j
 refine z6 tabOk Tryz.func134 rfl trivial (fun h1 => ?_) (fun h1 => ?_)
 ·have h1 : decide (k < j) = true := h1
  rw [decide_eq_true_eq] at h1
  refine z7 tabOk Tryz.func134 rfl trivial ?_
  rw [decide_eq_true (Or.inl h1)]
  rfl
 have h1 : decide (k < j) = false := h1
 rw [decide_eq_false_iff_not] at h1
 refine z6 tabOk Tryz.func134 rfl trivial (fun h2 => ?_) (fun h2 => ?_)
 ·have h2 : (k == j) = true := h2
  rw [beq_iff_eq] at h2
  refine z7 tabOk Tryz.func134 rfl trivial ?_
  show vB (decide (x.2.1 < y.2.1)) = _
  congr 2
  rw [eq_iff_iff]
  constructor
  ·exact fun h => .inr ⟨h2, h⟩
  ·rintro (h | h)
   ·exact absurd h h1
   ·exact h.2
 ·have h2 : (k == j) = false := h2
  rw [beq_eq_false_iff_ne] at h2
  refine z7 tabOk Tryz.func134 rfl trivial ?_
  rw [decide_eq_false (by rintro (h | h); exact h1 h; exact h2 h.1)]
  rfl
end Go.Proofs.YtkemmijjpclckaaGreatDoor
namespace Ab
open Go
variable [Draws]
section
variable {P : Program} [Globals P] {T : Tab} {f : FuncId} {fn : Func} {n : Nat} {C : Cx} {R : AV → List (Option AObj) → Prop} {todo todo' k : List Item} {env env' : Env} {objs objs' : List (Option AObj)} {ops : Array Oper}
end
end Ab
namespace Go.Proofs.YtkemmijjpclckaaGreatDoor
open Go Ab
theorem z11 (l : List UInt8) (i : Nat) : bt ⟨l.toArray⟩ i = ((l.getD i 0).toNat : Int) := by
 simp [bt]
end Go.Proofs.YtkemmijjpclckaaGreatDoor
namespace Go.Proofs.YtkemmijjpclckaaGreatDoor
open Go Ab Go.RowKit Go.Lib
def longN (l : List UInt8) : Nat := if decL l = (65533, 1) then 0 else (decL l).2
def cvN (l : List UInt8) (c : Nat) : Nat → Nat
 | 0 => c
 | i + 1 => cvN l c i * 64 + (bA l (i + 1) - 128)
def Go2 (l : List UInt8) (j : Nat) : Prop := j < l.length ∧ 128 ≤ bA l j ∧ bA l j ≤ 191
def RuneV (least c : Nat) : Prop := least ≤ c ∧ c ≤ 1114111 ∧ ¬ (55296 ≤ c ∧ c < 57344)
theorem cv_lt {l : List UInt8} {c : Nat} (hc : c < 1000) : ∀ i, cvN l c i < 1000 * 65 ^ i
 | 0 => by simpa [cvN] using hc
 | i + 1 => by
  have h := cv_lt (l := l) hc i
  have hb := bA_lt l (i + 1)
  have hq : 0 < 65 ^ i := Nat.pow_pos (by decide)
  rw [cvN, Nat.pow_succ]
  generalize 65 ^ i = q at *
  omega
theorem zml {l : List UInt8} {r w : Nat} (h : decL l = (r, w)) (hw : 2 ≤ w) : longN l = w := by
 unfold longN
 rw [h, if_neg (fun e => by have := congrArg Prod.snd e; simp only at this; omega)]
theorem zgy {l : List UInt8} (h : decL l = (65533, 1)) : longN l = 0 := by
 unfold longN
 rw [if_pos h]
theorem long1 {l : List UInt8} (h : bA l 0 < 128) : longN l = 1 := by
 have e : decL l = (bA l 0, 1) := by unfold decL decodeN; rw [if_pos h]
 unfold longN
 rw [e, if_neg (fun hh => by have := congrArg Prod.fst hh; simp only at this; omega)]
theorem zig {l : List UInt8} (h : (128 ≤ bA l 0 ∧ bA l 0 < 192) ∨ 248 ≤ bA l 0) : longN l = 0 := by
 have hb := bA_lt l 0
 have e : decL l = (65533, 1) := by
  unfold decL decodeN
  repeat' split
  all_goals first | rfl | (exfalso; omega)
 unfold longN
 rw [if_pos e]
def Lead (b n c least : Nat) : Prop := (192 ≤ b ∧ b < 224 ∧ n = 2 ∧ c = b - 192 ∧ least = 128) ∨ (224 ≤ b ∧ b < 240 ∧ n = 3 ∧ c = b - 224 ∧ least = 2048) ∨ (240 ≤ b ∧ b < 248 ∧ n = 4 ∧ c = b - 240 ∧ least = 65536)
theorem zgx {l : List UInt8} {n c least j : Nat} (h : Lead (bA l 0) n c least) (h1 : 1 ≤ j) (hj : j < n) (hn : ¬ Go2 l j) : longN l = 0 := by
 have b0 := bA_lt l 0
 have b1 := bA_lt l 1
 have b2 := bA_lt l 2
 have b3 := bA_lt l 3
 have e : decL l = (65533, 1) := by
  unfold Go2 at hn
  rcases h with ⟨h, h', rfl, -, -⟩ | ⟨h, h', rfl, -, -⟩ | ⟨h, h', rfl, -, -⟩
  ·obtain rfl : j = 1 := by omega
   unfold decL decodeN
   rw [if_neg (by omega), if_neg (by omega), if_neg (by omega), if_neg (by omega)]
  ·rcases (by omega : j = 1 ∨ j = 2) with rfl | rfl
   ·unfold decL decodeN
    rw [if_neg (by omega), if_neg (by omega), if_neg (by omega), if_neg (by omega)]
   ·unfold decL decodeN
    rw [if_neg (by omega), if_neg (by omega), if_neg (by omega), if_neg (by omega)]
  ·rcases (by omega : j = 1 ∨ j = 2 ∨ j = 3) with rfl | rfl | rfl
   ·unfold decL decodeN
    rw [if_neg (by omega), if_neg (by omega), if_neg (by omega), if_neg (by omega)]
   ·unfold decL decodeN
    rw [if_neg (by omega), if_neg (by omega), if_neg (by omega), if_neg (by omega)]
   ·unfold decL decodeN
    rw [if_neg (by omega), if_neg (by omega), if_neg (by omega), if_neg (by omega)]
 unfold longN
 rw [if_pos e]
theorem zow {l : List UInt8} {n c least : Nat} (h : Lead (bA l 0) n c least) (hg : ∀ j, 1 ≤ j → j < n → Go2 l j) : (RuneV least (cvN l c (n - 1)) → longN l = n) ∧ (¬ RuneV least (cvN l c (n - 1)) → longN l = 0) := by
 have b0 := bA_lt l 0
 have b1 := bA_lt l 1
 have b2 := bA_lt l 2
 have b3 := bA_lt l 3
 unfold RuneV
 rcases h with ⟨h, h', rfl, rfl, rfl⟩ | ⟨h, h', rfl, rfl, rfl⟩ | ⟨h, h', rfl, rfl, rfl⟩
 ·obtain ⟨g1, g2, g3⟩ := hg 1 (by omega) (by omega)
  have ec : cvN l (bA l 0 - 192) (2 - 1) = bA l 0 % 32 * 64 + bA l 1 % 64 := by
   show (bA l 0 - 192) * 64 + (bA l 1 - 128) = _
   omega
  have ed : decL l = if bA l 0 % 32 * 64 + bA l 1 % 64 ≥ 128 then (bA l 0 % 32 * 64 + bA l 1 % 64, 2) else (65533, 1) := by
   unfold decL decodeN
   rw [if_neg (by omega), if_pos (by omega)]
  rw [ec]
  exact ⟨fun hr => zml (by rw [ed, if_pos (by omega)]) (by decide), fun hr => zgy (by rw [ed, if_neg (by omega)])⟩
 ·obtain ⟨g1, g2, g3⟩ := hg 1 (by omega) (by omega)
  obtain ⟨f1, f2, f3⟩ := hg 2 (by omega) (by omega)
  have ec : cvN l (bA l 0 - 224) (3 - 1) = bA l 0 % 16 * 4096 + bA l 1 % 64 * 64 + bA l 2 % 64 := by
   show ((bA l 0 - 224) * 64 + (bA l 1 - 128)) * 64 + (bA l 2 - 128) = _
   omega
  have ed : decL l = if bA l 0 % 16 * 4096 + bA l 1 % 64 * 64 + bA l 2 % 64 ≥ 2048 ∧ (bA l 0 % 16 * 4096 + bA l 1 % 64 * 64 + bA l 2 % 64 < 55296 ∨ (57344 ≤ bA l 0 % 16 * 4096 + bA l 1 % 64 * 64 + bA l 2 % 64 ∧ bA l 0 % 16 * 4096 + bA l 1 % 64 * 64 + bA l 2 % 64 ≤ 1114111)) then (bA l 0 % 16 * 4096 + bA l 1 % 64 * 64 + bA l 2 % 64, 3) else (65533, 1) := by
   unfold decL decodeN
   rw [if_neg (by omega), if_neg (by omega), if_pos (by omega)]
  rw [ec]
  exact ⟨fun hr => zml (by rw [ed, if_pos (by omega)]) (by decide), fun hr => zgy (by rw [ed, if_neg (by omega)])⟩
 ·obtain ⟨g1, g2, g3⟩ := hg 1 (by omega) (by omega)
  obtain ⟨f1, f2, f3⟩ := hg 2 (by omega) (by omega)
  obtain ⟨d1, d2, d3⟩ := hg 3 (by omega) (by omega)
  have ec : cvN l (bA l 0 - 240) (4 - 1) = bA l 0 % 8 * 262144 + bA l 1 % 64 * 4096 + bA l 2 % 64 * 64 + bA l 3 % 64 := by
   show (((bA l 0 - 240) * 64 + (bA l 1 - 128)) * 64 + (bA l 2 - 128)) * 64 + (bA l 3 - 128) = _
   omega
  have ed : decL l = if bA l 0 % 8 * 262144 + bA l 1 % 64 * 4096 + bA l 2 % 64 * 64 + bA l 3 % 64 ≥ 65536 ∧ (bA l 0 % 8 * 262144 + bA l 1 % 64 * 4096 + bA l 2 % 64 * 64 + bA l 3 % 64 < 55296 ∨ (57344 ≤ bA l 0 % 8 * 262144 + bA l 1 % 64 * 4096 + bA l 2 % 64 * 64 + bA l 3 % 64 ∧ bA l 0 % 8 * 262144 + bA l 1 % 64 * 4096 + bA l 2 % 64 * 64 + bA l 3 % 64 ≤ 1114111)) then (bA l 0 % 8 * 262144 + bA l 1 % 64 * 4096 + bA l 2 % 64 * 64 + bA l 3 % 64, 4) else (65533, 1) := by
   unfold decL decodeN
   rw [if_neg (by omega), if_neg (by omega), if_neg (by omega), if_pos (by omega)]
  rw [ec]
  exact ⟨fun hr => zml (by rw [ed, if_pos (by omega)]) (by decide), fun hr => zgy (by rw [ed, if_neg (by omega)])⟩
theorem zo2 (l : List UInt8) (at_ : Nat) (hl : l.length ≤ maxLen) (hat : at_ < l.length) : ACall Tryz.prog 128 [vTx l, vI .i64 (at_ : Int)] [] (fun r o => r = vI .i64 ((longN (l.drop at_) : Nat) : Int)) := by
 refine z8 Tryz.func128 rfl rfl (Nat.le_of_ble_eq_true rfl) fun C hC hCl hDs hGk => ?_
 have hl : l.length ≤ 9223372036854775807 := hl
 have hsz : (⟨l.toArray⟩ : ByteArray).size = l.length := z32 l
 have hbd : ∀ k, bA (l.drop at_) k = (l.getD (at_ + k) 0).toNat := fun k => z93 l at_ k
 have hdl : (l.drop at_).length = l.length - at_ := List.length_drop
 have hv0 := UInt8.toNat_lt (l.getD at_ 0)
 have hb0 : bA (l.drop at_) 0 = (l.getD at_ 0).toNat := hbd 0
 have ew : IntKind.i64.wrap (((l.getD at_ 0).toNat : Nat) : Int) = (((l.getD at_ 0).toNat : Nat) : Int) := zb (by omega) (by omega)
 apply letK (p := ∀ n c least : Nat, Lead (bA (l.drop at_) 0) n c least → ASat Tryz.prog 128 Tryz.f128.ntmps C _ [(0, vTx l), (1, vI .i64 (at_ : Int)), (5, vI .i64 (n : Int)), (6, vI .i64 (c : Int)), (7, vI .i64 (least : Int)), (8, vI .i64 (1 : Int))] [] (fun r o => r = vI .i64 ((longN (l.drop at_) : Nat) : Int)))
 ·intro key
  refine z6 tabOk Tryz.func128 rfl ⟨⟨by omega, by rw [hsz]; omega⟩, trivial⟩ (fun h1 => ?_) (fun h1 => ?_)
  ·have h1 : decide (IntKind.i64.wrap (bt ⟨l.toArray⟩ ((at_ : Int)).toNat) >= 240) = true := h1
   rw [Int.toNat_natCast, z11, ew, decide_eq_true_eq] at h1
   refine z6 tabOk Tryz.func128 rfl trivial (fun h2 => ?_) (fun h2 => ?_)
   ·have h2 : decide (IntKind.i64.wrap (bt ⟨l.toArray⟩ ((at_ : Int)).toNat) < 248) = true := h2
    rw [Int.toNat_natCast, z11, ew, decide_eq_true_eq] at h2
    refine za tabOk Tryz.func128 rfl trivial ?_
    refine zg (key 4 ((l.getD at_ 0).toNat - 240) 65536 (.inr (.inr ⟨by omega, by omega, rfl, by omega, rfl⟩))) hC hCl ⟨⟨_, rfl, .refl _⟩, ⟨_, rfl, .refl _⟩, ⟨_, rfl, .refl _⟩, ⟨_, rfl, .of ?_⟩, ⟨_, rfl, .refl _⟩, ⟨_, rfl, .refl _⟩, trivial⟩ trivial rfl rfl (Nat.zero_le _)
    show vI .i64 (IntKind.i64.wrap (IntKind.i64.wrap (bt ⟨l.toArray⟩ ((at_ : Int)).toNat) - 240)) = _
    rw [Int.toNat_natCast, z11, ew, zb (by omega) (by omega)]
    show vI .i64 _ = vI .i64 _
    rw [show (((l.getD at_ 0).toNat : Nat) : Int) - 240 = (((l.getD at_ 0).toNat - 240 : Nat) : Int) by omega]
   ·have h2 : decide (IntKind.i64.wrap (bt ⟨l.toArray⟩ ((at_ : Int)).toNat) < 248) = false := h2
    rw [Int.toNat_natCast, z11, ew, decide_eq_false_iff_not] at h2
    refine z6 tabOk Tryz.func128 rfl trivial (fun h3 => ?_) (fun h3 => ?_)
    ·have h3 : decide (IntKind.i64.wrap (bt ⟨l.toArray⟩ ((at_ : Int)).toNat) >= 224) = true := h3
     refine z6 tabOk Tryz.func128 rfl trivial (fun h4 => ?_) (fun h4 => ?_)
     ·have h4 : decide (IntKind.i64.wrap (bt ⟨l.toArray⟩ ((at_ : Int)).toNat) < 240) = true := h4
      rw [Int.toNat_natCast, z11, ew, decide_eq_true_eq] at h4
      omega
     ·refine z6 tabOk Tryz.func128 rfl trivial (fun h5 => ?_) (fun h5 => ?_)
      ·refine z6 tabOk Tryz.func128 rfl trivial (fun h6 => ?_) (fun h6 => ?_)
       ·have h6 : decide (IntKind.i64.wrap (bt ⟨l.toArray⟩ ((at_ : Int)).toNat) < 224) = true := h6
        rw [Int.toNat_natCast, z11, ew, decide_eq_true_eq] at h6
        omega
       ·refine z6 tabOk Tryz.func128 rfl trivial (fun h7 => ?_) (fun h7 => ?_)
        ·refine z7 tabOk Tryz.func128 rfl trivial ?_
         rw [zig (.inr (by omega))]
         rfl
        ·have h7 : decide (IntKind.i64.wrap (bt ⟨l.toArray⟩ ((at_ : Int)).toNat) >= 128) = false := h7
         rw [Int.toNat_natCast, z11, ew, decide_eq_false_iff_not] at h7
         omega
      ·have h5 : decide (IntKind.i64.wrap (bt ⟨l.toArray⟩ ((at_ : Int)).toNat) >= 192) = false := h5
       rw [Int.toNat_natCast, z11, ew, decide_eq_false_iff_not] at h5
       omega
    ·have h3 : decide (IntKind.i64.wrap (bt ⟨l.toArray⟩ ((at_ : Int)).toNat) >= 224) = false := h3
     rw [Int.toNat_natCast, z11, ew, decide_eq_false_iff_not] at h3
     omega
  ·have h1 : decide (IntKind.i64.wrap (bt ⟨l.toArray⟩ ((at_ : Int)).toNat) >= 240) = false := h1
   rw [Int.toNat_natCast, z11, ew, decide_eq_false_iff_not] at h1
   refine z6 tabOk Tryz.func128 rfl trivial (fun h => by cases h) (fun _ => ?_)
   refine z6 tabOk Tryz.func128 rfl trivial (fun h3 => ?_) (fun h3 => ?_)
   ·have h3 : decide (IntKind.i64.wrap (bt ⟨l.toArray⟩ ((at_ : Int)).toNat) >= 224) = true := h3
    rw [Int.toNat_natCast, z11, ew, decide_eq_true_eq] at h3
    refine z6 tabOk Tryz.func128 rfl trivial (fun h4 => ?_) (fun h4 => ?_)
    ·refine za tabOk Tryz.func128 rfl trivial ?_
     refine zg (key 3 ((l.getD at_ 0).toNat - 224) 2048 (.inr (.inl ⟨by omega, by omega, rfl, by omega, rfl⟩))) hC hCl ⟨⟨_, rfl, .refl _⟩, ⟨_, rfl, .refl _⟩, ⟨_, rfl, .refl _⟩, ⟨_, rfl, .of ?_⟩, ⟨_, rfl, .refl _⟩, ⟨_, rfl, .refl _⟩, trivial⟩ trivial rfl rfl (Nat.zero_le _)
     show vI .i64 (IntKind.i64.wrap (IntKind.i64.wrap (bt ⟨l.toArray⟩ ((at_ : Int)).toNat) - 224)) = _
     rw [Int.toNat_natCast, z11, ew, zb (by omega) (by omega)]
     show vI .i64 _ = vI .i64 _
     rw [show (((l.getD at_ 0).toNat : Nat) : Int) - 224 = (((l.getD at_ 0).toNat - 224 : Nat) : Int) by omega]
    ·have h4 : decide (IntKind.i64.wrap (bt ⟨l.toArray⟩ ((at_ : Int)).toNat) < 240) = false := h4
     rw [Int.toNat_natCast, z11, ew, decide_eq_false_iff_not] at h4
     omega
   ·have h3 : decide (IntKind.i64.wrap (bt ⟨l.toArray⟩ ((at_ : Int)).toNat) >= 224) = false := h3
    rw [Int.toNat_natCast, z11, ew, decide_eq_false_iff_not] at h3
    refine z6 tabOk Tryz.func128 rfl trivial (fun h => by cases h) (fun _ => ?_)
    refine z6 tabOk Tryz.func128 rfl trivial (fun h5 => ?_) (fun h5 => ?_)
    ·have h5 : decide (IntKind.i64.wrap (bt ⟨l.toArray⟩ ((at_ : Int)).toNat) >= 192) = true := h5
     rw [Int.toNat_natCast, z11, ew, decide_eq_true_eq] at h5
     refine z6 tabOk Tryz.func128 rfl trivial (fun h6 => ?_) (fun h6 => ?_)
     ·refine za tabOk Tryz.func128 rfl trivial ?_
      refine zg (key 2 ((l.getD at_ 0).toNat - 192) 128 (.inl ⟨by omega, by omega, rfl, by omega, rfl⟩)) hC hCl ⟨⟨_, rfl, .refl _⟩, ⟨_, rfl, .refl _⟩, ⟨_, rfl, .refl _⟩, ⟨_, rfl, .of ?_⟩, ⟨_, rfl, .refl _⟩, ⟨_, rfl, .refl _⟩, trivial⟩ trivial rfl rfl (Nat.zero_le _)
      show vI .i64 (IntKind.i64.wrap (IntKind.i64.wrap (bt ⟨l.toArray⟩ ((at_ : Int)).toNat) - 192)) = _
      rw [Int.toNat_natCast, z11, ew, zb (by omega) (by omega)]
      show vI .i64 _ = vI .i64 _
      rw [show (((l.getD at_ 0).toNat : Nat) : Int) - 192 = (((l.getD at_ 0).toNat - 192 : Nat) : Int) by omega]
     ·have h6 : decide (IntKind.i64.wrap (bt ⟨l.toArray⟩ ((at_ : Int)).toNat) < 224) = false := h6
      rw [Int.toNat_natCast, z11, ew, decide_eq_false_iff_not] at h6
      omega
    ·have h5 : decide (IntKind.i64.wrap (bt ⟨l.toArray⟩ ((at_ : Int)).toNat) >= 192) = false := h5
     rw [Int.toNat_natCast, z11, ew, decide_eq_false_iff_not] at h5
     refine z6 tabOk Tryz.func128 rfl trivial (fun h => by cases h) (fun _ => ?_)
     refine z6 tabOk Tryz.func128 rfl trivial (fun h7 => ?_) (fun h7 => ?_)
     ·have h7 : decide (IntKind.i64.wrap (bt ⟨l.toArray⟩ ((at_ : Int)).toNat) >= 128) = true := h7
      rw [Int.toNat_natCast, z11, ew, decide_eq_true_eq] at h7
      refine z7 tabOk Tryz.func128 rfl trivial ?_
      rw [zig (.inl (by omega))]
      rfl
     ·have h7 : decide (IntKind.i64.wrap (bt ⟨l.toArray⟩ ((at_ : Int)).toNat) >= 128) = false := h7
      rw [Int.toNat_natCast, z11, ew, decide_eq_false_iff_not] at h7
      have hx : longN (l.drop at_) = 1 := long1 (by omega)
      refine za tabOk Tryz.func128 rfl trivial ?_
      refine z3f ?_
      refine z6 tabOk Tryz.func128 rfl trivial (fun h => by cases h) (fun _ => ?_)
      refine z6 tabOk Tryz.func128 rfl trivial (fun h8 => ?_) (fun h8 => ?_)
      ·have h8 : decide (IntKind.i64.wrap (bt ⟨l.toArray⟩ ((at_ : Int)).toNat) < 0) = true := h8
       rw [Int.toNat_natCast, z11, ew, decide_eq_true_eq] at h8
       omega
      refine z6 tabOk Tryz.func128 rfl trivial (fun h9 => ?_) (fun h9 => ?_)
      ·have h9 : decide (IntKind.i64.wrap (bt ⟨l.toArray⟩ ((at_ : Int)).toNat) > 1114111) = true := h9
       rw [Int.toNat_natCast, z11, ew, decide_eq_true_eq] at h9
       omega
      refine z6 tabOk Tryz.func128 rfl trivial (fun h9 => ?_) (fun h9 => ?_)
      ·have h9 : decide (IntKind.i64.wrap (bt ⟨l.toArray⟩ ((at_ : Int)).toNat) >= 55296) = true := h9
       rw [Int.toNat_natCast, z11, ew, decide_eq_true_eq] at h9
       omega
      refine z6 tabOk Tryz.func128 rfl trivial (fun h => by cases h) (fun _ => ?_)
      refine z7 tabOk Tryz.func128 rfl trivial ?_
      rw [hx]
      rfl
 intro n c least hL
 have hn : 2 ≤ n ∧ n ≤ 4 ∧ c < 1000 ∧ least ≤ 65536 := by
  rcases hL with ⟨_, _, rfl, rfl, rfl⟩ | ⟨_, _, rfl, rfl, rfl⟩ | ⟨_, _, rfl, rfl, rfl⟩ <;> omega
 refine zj (α := Nat) (fun i => [(0, vTx l), (1, vI .i64 (at_ : Int)), (5, vI .i64 (n : Int)), (6, vI .i64 (cvN (l.drop at_) c (i - 1) : Int)), (7, vI .i64 (least : Int)), (8, vI .i64 (i : Int))]) (fun _ => []) (fun i => 1 ≤ i ∧ i ≤ n ∧ ∀ j, 1 ≤ j → j < i → Go2 (l.drop at_) j) (fun i => n - i) 1 ⟨Nat.le_refl _, by omega, fun j h1 h2 => by omega⟩ ?_ ?_
 ·exact fun h => zg h hC hCl ⟨⟨_, rfl, .refl _⟩, ⟨_, rfl, .refl _⟩, ⟨_, rfl, .refl _⟩, ⟨_, rfl, .refl _⟩, ⟨_, rfl, .refl _⟩, ⟨_, rfl, .refl _⟩, trivial⟩ trivial rfl rfl (Nat.zero_le _)
 rintro i ⟨hi1, hi2, hgo⟩ ih
 have hcb := cv_lt (l := l.drop at_) hn.2.2.1 (i - 1)
 have hpw : 65 ^ (i - 1) ≤ 65 ^ 3 := Nat.pow_le_pow_right (by decide) (by omega)
 have hc4 : cvN (l.drop at_) c (i - 1) < 1000 * 65 ^ 3 := Nat.lt_of_lt_of_le hcb (Nat.mul_le_mul_left _ hpw)
 have hstep : cvN (l.drop at_) c i = cvN (l.drop at_) c (i - 1) * 64 + (bA (l.drop at_) i - 128) := by
  obtain ⟨k, rfl⟩ : ∃ k, i = k + 1 := ⟨i - 1, by omega⟩
  rfl
 have ewi : IntKind.i64.wrap (((⟨l.toArray⟩ : ByteArray).size : Int) - at_) = ((l.length - at_ : Nat) : Int) := by rw [hsz, zb (by omega) (by omega)]; omega
 refine z6 tabOk Tryz.func128 rfl trivial (fun hb => ?_) (fun hb => ?_) <;> simp only [decide_eq_true_eq, decide_eq_false_iff_not] at hb
 ·refine z6 tabOk Tryz.func128 rfl trivial (fun g1 => ?_) (fun g1 => ?_)
  ·have g1 : decide ((i : Int) ≥ IntKind.i64.wrap (((⟨l.toArray⟩ : ByteArray).size : Int) - at_)) = true := g1
   rw [ewi, decide_eq_true_eq] at g1
   refine z6 tabOk Tryz.func128 rfl trivial (fun _ => ?_) (fun h => by cases h)
   refine z6 tabOk Tryz.func128 rfl trivial (fun _ => ?_) (fun h => by cases h)
   refine z7 tabOk Tryz.func128 rfl trivial ?_
   rw [zgx hL hi1 (by omega) (fun hg => by have := hg.1; omega)]
   rfl
  have g1 : decide ((i : Int) ≥ IntKind.i64.wrap (((⟨l.toArray⟩ : ByteArray).size : Int) - at_)) = false := g1
  rw [ewi, decide_eq_false_iff_not] at g1
  have eai : IntKind.i64.wrap ((at_ : Int) + i) = ((at_ + i : Nat) : Int) := by rw [zb (by omega) (by omega)]; omega
  have hnd : ((0 : Int) ≤ IntKind.i64.wrap ((at_ : Int) + i) ∧ IntKind.i64.wrap ((at_ : Int) + i) < ((⟨l.toArray⟩ : ByteArray).size : Int)) := by rw [eai, hsz]; omega
  have hv := UInt8.toNat_lt (l.getD (at_ + i) 0)
  have hbi := hbd i
  refine z6 tabOk Tryz.func128 rfl ⟨hnd, trivial⟩ (fun g2 => ?_) (fun g2 => ?_)
  ·have g2 : decide (bt ⟨l.toArray⟩ (IntKind.i64.wrap ((at_ : Int) + i)).toNat < 128) = true := g2
   rw [eai, Int.toNat_natCast, z11, decide_eq_true_eq] at g2
   refine z6 tabOk Tryz.func128 rfl trivial (fun _ => ?_) (fun h => by cases h)
   refine z7 tabOk Tryz.func128 rfl trivial ?_
   rw [zgx hL hi1 (by omega) (fun hg => by have := hg.2; omega)]
   rfl
  have g2 : decide (bt ⟨l.toArray⟩ (IntKind.i64.wrap ((at_ : Int) + i)).toNat < 128) = false := g2
  rw [eai, Int.toNat_natCast, z11, decide_eq_false_iff_not] at g2
  refine z6 tabOk Tryz.func128 rfl ⟨hnd, trivial⟩ (fun g3 => ?_) (fun g3 => ?_)
  ·have g3 : decide (bt ⟨l.toArray⟩ (IntKind.i64.wrap ((at_ : Int) + i)).toNat > 191) = true := g3
   rw [eai, Int.toNat_natCast, z11, decide_eq_true_eq] at g3
   refine z7 tabOk Tryz.func128 rfl trivial ?_
   rw [zgx hL hi1 (by omega) (fun hg => by have := hg.2; omega)]
   rfl
  have g3 : decide (bt ⟨l.toArray⟩ (IntKind.i64.wrap ((at_ : Int) + i)).toNat > 191) = false := g3
  rw [eai, Int.toNat_natCast, z11, decide_eq_false_iff_not] at g3
  refine za tabOk Tryz.func128 rfl ⟨hnd, trivial⟩ ?_
  refine zg (ih (i + 1) ⟨by omega, by omega, fun j h1 h2 => ?_⟩ (by omega)) hC hCl ⟨⟨_, rfl, .refl _⟩, ⟨_, rfl, .refl _⟩, ⟨_, rfl, .refl _⟩, ⟨_, rfl, .of ?_⟩, ⟨_, rfl, .refl _⟩, ⟨_, rfl, .of (by rw [zb (by omega) (by omega)]; rfl)⟩, trivial⟩ trivial rfl rfl (Nat.zero_le _)
  ·rcases Nat.lt_or_ge j i with h | h
   ·exact hgo j h1 h
   ·obtain rfl : j = i := by omega
    exact ⟨by omega, by omega, by omega⟩
  ·rw [Nat.add_sub_cancel, hstep]
   generalize cvN (l.drop at_) c (i - 1) = v at *
   show vI .i64 (IntKind.i64.wrap (IntKind.i64.wrap (IntKind.i64.wrap ((v : Int) * 64) + IntKind.i64.wrap (bt ⟨l.toArray⟩ (IntKind.i64.wrap ((at_ : Int) + i)).toNat)) - 128)) = _
   have e1 : IntKind.i64.wrap ((v : Int) * 64) = (v : Int) * 64 := zb (by omega) (by omega)
   have e2 : IntKind.i64.wrap (((l.getD (at_ + i) 0).toNat : Nat) : Int) = (((l.getD (at_ + i) 0).toNat : Nat) : Int) := zb (by omega) (by omega)
   have e3 : IntKind.i64.wrap ((v : Int) * 64 + (((l.getD (at_ + i) 0).toNat : Nat) : Int)) = (v : Int) * 64 + (((l.getD (at_ + i) 0).toNat : Nat) : Int) := zb (by omega) (by omega)
   rw [eai, Int.toNat_natCast, z11, e2, e1, e3, zb (by omega) (by omega)]
   show vI .i64 _ = vI .i64 _
   congr 4
   omega
 ·obtain rfl : i = n := by omega
  have hend := zow hL hgo
  generalize cvN (l.drop at_) c (i - 1) = v at *
  unfold RuneV at hend
  refine z6 tabOk Tryz.func128 rfl trivial (fun g1 => ?_) (fun g1 => ?_)
  ·have g1 : decide ((v : Int) < (least : Int)) = true := g1
   rw [decide_eq_true_eq] at g1
   refine z6 tabOk Tryz.func128 rfl trivial (fun _ => ?_) (fun h => by cases h)
   refine z6 tabOk Tryz.func128 rfl trivial (fun _ => ?_) (fun h => by cases h)
   refine z7 tabOk Tryz.func128 rfl trivial ?_
   rw [hend.2 (by omega)]
   rfl
  have g1 : decide ((v : Int) < (least : Int)) = false := g1
  rw [decide_eq_false_iff_not] at g1
  refine z6 tabOk Tryz.func128 rfl trivial (fun g2 => ?_) (fun g2 => ?_)
  ·have g2 : decide ((v : Int) > 1114111) = true := g2
   rw [decide_eq_true_eq] at g2
   refine z6 tabOk Tryz.func128 rfl trivial (fun _ => ?_) (fun h => by cases h)
   refine z7 tabOk Tryz.func128 rfl trivial ?_
   rw [hend.2 (by omega)]
   rfl
  have g2 : decide ((v : Int) > 1114111) = false := g2
  rw [decide_eq_false_iff_not] at g2
  refine z6 tabOk Tryz.func128 rfl trivial (fun g3 => ?_) (fun g3 => ?_)
  ·have g3 : decide ((v : Int) >= 55296) = true := g3
   rw [decide_eq_true_eq] at g3
   refine z6 tabOk Tryz.func128 rfl trivial (fun g4 => ?_) (fun g4 => ?_)
   ·have g4 : decide ((v : Int) < 57344) = true := g4
    rw [decide_eq_true_eq] at g4
    refine z7 tabOk Tryz.func128 rfl trivial ?_
    rw [hend.2 (by omega)]
    rfl
   ·have g4 : decide ((v : Int) < 57344) = false := g4
    rw [decide_eq_false_iff_not] at g4
    refine z7 tabOk Tryz.func128 rfl trivial ?_
    rw [hend.1 (by omega)]
    rfl
  ·have g3 : decide ((v : Int) >= 55296) = false := g3
   rw [decide_eq_false_iff_not] at g3
   refine z6 tabOk Tryz.func128 rfl trivial (fun h => by cases h) (fun _ => ?_)
   refine z7 tabOk Tryz.func128 rfl trivial ?_
   rw [hend.1 (by omega)]
   rfl
theorem zf0 {l : List UInt8} (h : l ≠ []) : longN l = 0 ↔ decL l = (65533, 1) := by
 unfold longN
 have := (zfu l h).1
 constructor
 ·intro hh
  split at hh
  ·assumption
  ·omega
 ·intro hh
  rw [if_pos hh]
theorem zer (l : List UInt8) (hl : l.length ≤ maxLen) : ACall Tryz.prog 81 [vTx l] [] (fun r o => r = vB (z61 l)) := by
 refine z8 Tryz.func81 rfl rfl (Nat.le_of_ble_eq_true rfl) fun C hC hCl hDs hGk => ?_
 have hml : maxLen = 9223372036854775807 := rfl
 have hsz : (⟨l.toArray⟩ : ByteArray).size = l.length := z32 l
 refine za tabOk Tryz.func81 rfl trivial ?_
 refine zj (α := Nat × Nat) (fun p => [(0, vTx l), (3, vI .i64 (p.2 : Int)), (4, vI .i64 (p.1 : Int))]) (fun p => []) (fun p => p.1 ≤ l.length ∧ p.2 ≤ p.1 ∧ nameQ l = (nameQ (l.drop p.1)).map (· + p.2)) (fun p => l.length - p.1) (0, 0) ⟨Nat.zero_le _, Nat.le_refl _, by simp⟩ ?_ ?_
 ·exact fun h => zg h hC hCl ⟨⟨_, rfl, .refl _⟩, ⟨_, rfl, .refl _⟩, ⟨_, rfl, .refl _⟩, trivial⟩ trivial rfl rfl (Nat.zero_le _)
 rintro ⟨i, q⟩ ⟨hi, hq, hQ⟩ ih
 simp only at hi hq hQ ih
 refine z6 tabOk Tryz.func81 rfl trivial (fun hb => ?_) (fun hb => ?_) <;> simp only [hsz, decide_eq_true_eq, decide_eq_false_iff_not] at hb
 ·have hlt : i < l.length := by omega
  have hne : l.drop i ≠ [] := fun e => by
   have := congrArg List.length e
   rw [List.length_drop, List.length_nil] at this
   omega
  have hw := zfu (l.drop i) hne
  rw [List.length_drop] at hw
  have hq2 := zcd hne
  rw [List.drop_drop] at hq2
  have hb0 : bA (l.drop i) 0 = (l.getD i 0).toNat := z93 l i 0
  have bad : (decL (l.drop i)).1 < 32 ∨ (decL (l.drop i)).1 = 127 ∨ decL (l.drop i) = (65533, 1) → z61 l = false := fun hb => by
   rw [z9p, hQ, hq2, if_pos hb]
   rfl
  have hnd : ((0 : Int) ≤ (i : Int) ∧ (i : Int) < ((⟨l.toArray⟩ : ByteArray).size : Int)) := by rw [hsz]; omega
  refine ze tabOk Tryz.func81 rfl trivial (zo2 l i (by omega) hlt) (.refl _) rfl ⟨_, rfl⟩ (by rintro r o rfl; rfl) ?_
  rintro _ o rfl
  refine z6 tabOk Tryz.func81 rfl trivial (fun h1 => ?_) (fun h1 => ?_)
  ·have h1 : (((longN (l.drop i) : Nat) : Int) == 0) = true := h1
   rw [beq_iff_eq] at h1
   repeat refine z6 tabOk Tryz.func81 rfl trivial (fun _ => ?_) (fun h => by cases h)
   refine z7 tabOk Tryz.func81 rfl trivial ?_
   rw [bad (.inr (.inr ((zf0 hne).1 (by omega))))]
   rfl
  have h1 : (((longN (l.drop i) : Nat) : Int) == 0) = false := h1
  rw [beq_eq_false_iff_ne] at h1
  have hdn : decL (l.drop i) ≠ (65533, 1) := fun e => h1 (by rw [(zf0 hne).2 e]; rfl)
  have hn : longN (l.drop i) = (decL (l.drop i)).2 := by
   unfold longN
   rw [if_neg hdn]
  have hd := zkg (l.drop i) hne hdn
  rw [hb0] at hd
  rw [hn]
  refine z6 tabOk Tryz.func81 rfl ⟨hnd, trivial⟩ (fun h2 => ?_) (fun h2 => ?_)
  ·have h2 : decide (bt ⟨l.toArray⟩ ((i : Int)).toNat < 32) = true := h2
   rw [Int.toNat_natCast, z11, decide_eq_true_eq] at h2
   repeat refine z6 tabOk Tryz.func81 rfl trivial (fun _ => ?_) (fun h => by cases h)
   refine z7 tabOk Tryz.func81 rfl trivial ?_
   rw [bad (.inl (by omega))]
   rfl
  have h2 : decide (bt ⟨l.toArray⟩ ((i : Int)).toNat < 32) = false := h2
  rw [Int.toNat_natCast, z11, decide_eq_false_iff_not] at h2
  refine z6 tabOk Tryz.func81 rfl ⟨hnd, trivial⟩ (fun h3 => ?_) (fun h3 => ?_)
  ·have h3 : (bt ⟨l.toArray⟩ ((i : Int)).toNat == 127) = true := h3
   rw [Int.toNat_natCast, z11, beq_iff_eq] at h3
   refine z7 tabOk Tryz.func81 rfl trivial ?_
   rw [bad (.inr (.inl (by omega)))]
   rfl
  have h3 : (bt ⟨l.toArray⟩ ((i : Int)).toNat == 127) = false := h3
  rw [Int.toNat_natCast, z11, beq_eq_false_iff_ne] at h3
  have hgood : ¬ ((decL (l.drop i)).1 < 32 ∨ (decL (l.drop i)).1 = 127 ∨ decL (l.drop i) = (65533, 1)) := by
   rintro (e | e | e)
   ·omega
   ·omega
   ·exact hdn e
  rw [if_neg hgood] at hq2
  generalize (decL (l.drop i)).2 = n at *
  refine za tabOk Tryz.func81 rfl trivial ?_
  refine zg (ih (i + n, q + 1) ⟨by simp only; omega, by simp only; omega, ?_⟩ (by simp only; omega)) hC hCl ⟨⟨_, rfl, .refl _⟩, ⟨_, rfl, .of ?_⟩, ⟨_, rfl, .of ?_⟩, trivial⟩ trivial rfl rfl (Nat.zero_le _)
  ·simp only
   rw [hQ, hq2, Option.map_map]
   congr 1
   funext x
   show x + 1 + q = x + (q + 1)
   omega
  ·show vI .i64 (IntKind.i64.wrap ((q : Int) + 1)) = _
   rw [zb (by omega) (by omega)]
   rfl
  ·show vI .i64 (IntKind.i64.wrap ((i : Int) + n)) = _
   rw [zb (by omega) (by omega)]
   rfl
 ·obtain rfl : i = l.length := by omega
  have hok : z61 l = decide (1 ≤ q ∧ q ≤ 40) := by
   rw [z9p, hQ, List.drop_length, zew]
   simp
  refine z6 tabOk Tryz.func81 rfl trivial (fun h1 => ?_) (fun h1 => ?_)
  ·have h1 : decide ((q : Int) ≥ 1) = true := h1
   rw [decide_eq_true_eq] at h1
   refine z7 tabOk Tryz.func81 rfl trivial ?_
   show vB (decide ((q : Int) ≤ 40)) = _
   rw [hok]
   congr 2
   rw [eq_iff_iff]
   omega
  ·have h1 : decide ((q : Int) ≥ 1) = false := h1
   rw [decide_eq_false_iff_not] at h1
   refine z7 tabOk Tryz.func81 rfl trivial ?_
   rw [hok, decide_eq_false (by omega)]
   rfl
theorem z74 {k : Nat} (h : k < 256) : (UInt8.ofNat k).toNat = k := by
 rw [UInt8.toNat_ofNat']
 exact Nat.mod_eq_of_lt h
theorem zhh (u : Nat) : ∀ c ∈ decDigits u, isDig c = true := by
 induction u using Nat.strongRecOn with
 | _ u ih =>
  intro c hc
  rw [decDigits] at hc
  split at hc
  ·rename_i h
   rw [List.mem_singleton] at hc
   subst hc
   unfold isDig
   rw [z74 (by omega), decide_eq_true_eq]
   omega
  ·rename_i h
   rcases List.mem_append.1 hc with hc | hc
   ·exact ih _ (by omega) c hc
   ·rw [List.mem_singleton] at hc
    subst hc
    unfold isDig
    rw [z74 (by omega), decide_eq_true_eq]
    omega
theorem znf (u : Nat) : decDigits u ≠ [] := by
 rw [decDigits]
 split <;> simp
theorem zos (u : Nat) : numN (decDigits u) = u := by
 induction u using Nat.strongRecOn with
 | _ u ih =>
  rw [decDigits]
  split
  ·rename_i h
   simp only [numN, List.foldl_cons, List.foldl_nil]
   rw [z74 (by omega)]
   omega
  ·rename_i h
   rw [z7y, ih _ (by omega), z74 (by omega)]
   omega
theorem zpe (u : Nat) (h : 1 ≤ u) : ∃ c r, decDigits u = c :: r ∧ c ≠ 48 := by
 induction u using Nat.strongRecOn with
 | _ u ih =>
  rw [decDigits]
  split
  ·rename_i h2
   refine ⟨_, _, rfl, fun e => ?_⟩
   have := congrArg UInt8.toNat e
   rw [z74 (by omega)] at this
   have e48 : (48 : UInt8).toNat = 48 := rfl
   omega
  ·rename_i h2
   obtain ⟨c, r, h3, h4⟩ := ih (u / 10) (by omega) (by omega)
   rw [h3]
   exact ⟨c, _, rfl, h4⟩
theorem zdy {c : UInt8} (h : isDig c = true) : 48 ≤ c.toNat ∧ c.toNat ≤ 57 := of_decide_eq_true h
theorem zj1 : ∀ (k : Nat) (ds : List UInt8), ds.length = k + 1 → (∀ c ∈ ds, isDig c = true) → (ds.getD 0 0 = 48 → ds.length = 1) → decDigits (numN ds) = ds
 | 0, ds, hl, hd, _ => by
  obtain ⟨c, rfl⟩ := List.length_eq_one_iff.1 hl
  obtain ⟨h1, h2⟩ := zdy (hd c List.mem_cons_self)
  have e : numN [c] = c.toNat - 48 := by simp [numN]
  rw [e, decDigits, dif_pos (by omega)]
  congr 1
  apply UInt8.toNat_inj.1
  rw [z74 (by omega)]
  omega
 | k + 1, ds, hl, hd, h0 => by
  obtain ⟨a, c, rfl⟩ : ∃ a c, ds = a ++ [c] := by
   have hne : ds ≠ [] := by intro e; rw [e] at hl; cases hl
   exact ⟨ds.dropLast, ds.getLast hne, (List.dropLast_concat_getLast hne).symm⟩
  have hal : a.length = k + 1 := by simpa using hl
  obtain ⟨x, r, rfl⟩ : ∃ x r, a = x :: r := by
   cases a with
   | nil => cases hal
   | cons x r => exact ⟨x, r, rfl⟩
  have hx : x ≠ 48 := fun e => by
   have := h0 (by rw [e]; rfl)
   rw [hl] at this
   omega
  obtain ⟨h1, h2⟩ := zdy (hd c (by simp))
  obtain ⟨h3, h4⟩ := zdy (hd x (by simp))
  have hxn : x.toNat ≠ 48 := fun e => hx (UInt8.toNat_inj.1 e)
  have hge : 1 ≤ numN (x :: r) := by
   have := zdf [x] r
   have e : numN [x] = x.toNat - 48 := by simp [numN]
   have e2 : [x] ++ r = x :: r := rfl
   rw [e2] at this
   omega
  have ih := zj1 k (x :: r) hal (fun y hy => hd y (List.mem_append_left _ hy)) (fun e => absurd e hx)
  rw [z7y, decDigits, dif_neg (by omega), show (numN (x :: r) * 10 + (c.toNat - 48)) / 10 = numN (x :: r) by omega, ih, show (numN (x :: r) * 10 + (c.toNat - 48)) % 10 = c.toNat - 48 by omega]
  congr 2
  apply UInt8.toNat_inj.1
  rw [z74 (by omega)]
  omega
theorem zi5 : ∀ {ds : List UInt8}, (∀ c ∈ ds, isDig c = true) → ∀ (r : List UInt8), runN isDig (ds ++ r) = ds.length + runN isDig r
 | [], _, r => by simp
 | c :: ds, h, r => by
  have h1 := zdy (h c List.mem_cons_self)
  rw [List.cons_append, z4x, if_pos ⟨by omega, h c List.mem_cons_self⟩, zi5 (fun x hx => h x (List.mem_cons_of_mem _ hx)) r, List.length_cons]
  omega
theorem zlj {c : UInt8} {r : List UInt8} (h : isDig c = false) : runN isDig (c :: r) = 0 := by
 rw [z4x, if_neg (fun hh => by rw [h] at hh; cases hh.2)]
theorem zoo (l : List UInt8) : ∀ c ∈ l.take (runN isDig l), isDig c = true := by
 induction l with
 | nil => simp
 | cons x r ih =>
  rw [z4x]
  split
  ·rename_i h
   intro c hc
   rw [List.take_succ_cons] at hc
   rcases List.mem_cons.1 hc with rfl | hc
   ·exact h.2
   ·exact ih c hc
  ·simp
theorem zdx (a b : List UInt8) (i : Nat) : (a ++ b).drop (a.length + i) = b.drop i := by rw [← List.drop_drop, List.drop_left]
theorem z82 (a b : List UInt8) (i : Nat) (hi : i ≤ b.length) (s : List UInt8) : isAt (a ++ b) ((a.length + i : Nat) : Int) s = isAt b (i : Int) s := by
 unfold isAt
 rw [decide_eq_true (show (0 : Int) ≤ ((a.length + i : Nat) : Int) ∧ ((a.length + i : Nat) : Int) ≤ (a ++ b).length by rw [List.length_append]; omega), decide_eq_true (show (0 : Int) ≤ (i : Int) ∧ (i : Int) ≤ b.length by omega), Int.toNat_natCast, Int.toNat_natCast, zdx]
theorem z9t (a b : List UInt8) (i : Nat) (hi : i ≤ b.length) (s : List UInt8) : isTo (a ++ b) ((a.length + i : Nat) : Int) s = a.length + isTo b (i : Int) s := by
 have h1 : (0 : Int) ≤ ((a.length + i : Nat) : Int) ∧ ((a.length + i : Nat) : Int) ≤ (a ++ b).length := by rw [List.length_append]; omega
 have h2 : (0 : Int) ≤ (i : Int) ∧ (i : Int) ≤ b.length := by omega
 unfold isTo
 rw [if_neg (not_not_intro h1), if_neg (not_not_intro h2), Int.toNat_natCast, Int.toNat_natCast, zdx]
 split <;> omega
theorem zp6 (a b : List UInt8) (i : Nat) : (a ++ b).getD (a.length + i) 0 = b.getD i 0 := by
 rw [List.getD_eq_getElem?_getD, List.getD_eq_getElem?_getD, List.getElem?_append_right (by omega), Nat.add_sub_cancel_left]
theorem zdb (a b : List UInt8) (i : Nat) (hi : i ≤ b.length) (most : Int) : numR (a ++ b) ((a.length + i : Nat) : Int) most = ((numR b (i : Int) most).1, a.length + (numR b (i : Int) most).2.1, (numR b (i : Int) most).2.2) := by
 have h1 : (0 : Int) ≤ ((a.length + i : Nat) : Int) ∧ ((a.length + i : Nat) : Int) ≤ (a ++ b).length := by rw [List.length_append]; omega
 have h2 : (0 : Int) ≤ (i : Int) ∧ (i : Int) ≤ b.length := by omega
 unfold numR numDs
 rw [if_neg (not_not_intro h1), if_neg (not_not_intro h2), Int.toNat_natCast, Int.toNat_natCast, zdx, zp6]
 split
 ·simp
 ·split
  ·simp
  ·simp only [Prod.mk.injEq, true_and, and_true]
   omega
theorem zl5 (a b : List UInt8) (i : Nat) (hi : i ≤ b.length) (most : Int) : signR (a ++ b) ((a.length + i : Nat) : Int) most = ((signR b (i : Int) most).1, a.length + (signR b (i : Int) most).2.1, (signR b (i : Int) most).2.2) := by
 have h1 : (0 : Int) ≤ ((a.length + i : Nat) : Int) ∧ ((a.length + i : Nat) : Int) ≤ (a ++ b).length := by rw [List.length_append]; omega
 have h2 : (0 : Int) ≤ (i : Int) ∧ (i : Int) ≤ b.length := by omega
 unfold signR
 rw [if_neg (not_not_intro h1), if_neg (not_not_intro h2), z82 a b i hi, z9t a b i hi]
 have h3 := z8s (b := b) (at_ := (i : Int)) (s := z19) h2.1 h2.2
 obtain ⟨j, hj⟩ : ∃ j : Nat, isTo b (i : Int) z19 = j := ⟨(isTo b (i : Int) z19).toNat, by omega⟩
 rw [hj] at h3 ⊢
 have e : (a.length : Int) + (j : Int) = ((a.length + j : Nat) : Int) := by omega
 rw [e, zdb a b j (by omega)]
 split
 ·rfl
 ·split
  ·simp
  ·split
   ·simp
   ·rfl
def shR {α : Type} (k : Nat) : (Int × Int) ⊕ (α × Int) → (Int × Int) ⊕ (α × Int)
 | .inl (x, e) => .inl (k + x, e)
 | .inr (l, p) => .inr (l, k + p)
theorem zhk (a b : List UInt8) (n : Int) : ∀ (f i : Nat) (out : List Int), i ≤ b.length → clR (a ++ b) n f ((a.length + i : Nat) : Int) out = shR a.length (clR b n f (i : Int) out)
 | 0, i, out, hi => by simp [clR, shR]
 | f + 1, i, out, hi => by
  rw [clR, clR, zl5 a b i hi n]
  have hp := @z6f b (i : Int) n
  generalize signR b (i : Int) n = sg at *
  obtain ⟨v, nx, e⟩ := sg
  simp only at hp ⊢
  split
  ·simp [shR]
  ·rename_i he
   have he : e = 0 := Decidable.not_not.1 he
   obtain ⟨h1, h2, h3⟩ := hp he
   obtain ⟨j, rfl⟩ : ∃ j : Nat, nx = j := ⟨nx.toNat, by omega⟩
   have ej : (a.length : Int) + (j : Int) = ((a.length + j : Nat) : Int) := by omega
   have hj : j ≤ b.length := by omega
   rw [ej, z82 a b j hj, z82 a b j hj, z9t a b j hj, z9t a b j hj]
   split
   ·split
    ·simp [shR]
    ·simp only [shR, ej]
   ·split
    ·simp [shR]
    ·split
     ·rename_i hs
      have hpl := z63 hs
      obtain ⟨q, hq⟩ : ∃ q : Nat, isTo b (j : Int) sSp = q := ⟨(isTo b (j : Int) sSp).toNat, by have := hpl.2.1; simp only [List.length_cons, List.length_nil] at this; omega⟩
      rw [hq] at hpl ⊢
      have eq : (a.length : Int) + (q : Int) = ((a.length + q : Nat) : Int) := by omega
      rw [eq]
      exact zhk a b n f q _ (by omega)
     ·simp only [shR, ej]
theorem z54 (l s r : List UInt8) : isAt (l ++ (s ++ r)) (l.length : Int) s = true := by
 have h := z82 l (s ++ r) 0 (Nat.zero_le _) s
 rw [Nat.add_zero] at h
 rw [h]
 unfold isAt
 rw [decide_eq_true (by simp; omega), Bool.true_and]
 simp
theorem z64 (l s r : List UInt8) : isTo (l ++ (s ++ r)) (l.length : Int) s = l.length + s.length := (z63 (z54 l s r)).2.1
theorem zmx {c d : UInt8} {r s : List UInt8} (h : c ≠ d) : isAt (c :: r) 0 (d :: s) = false := by
 unfold isAt
 simp [List.isPrefixOf, h.symm]
theorem zde {u : Nat} {n : Int} (hn : (u : Int) ≤ n) (hm : u ≤ 2147483647) {c : UInt8} (hc : isDig c = false) (r : List UInt8) : numR (decDigits u ++ c :: r) 0 n = ((u : Int), ((decDigits u).length : Int), 0) := by
 have h0 : (0 : Int) ≤ 0 ∧ (0 : Int) ≤ (decDigits u ++ c :: r).length := by omega
 have hrun : runN isDig (decDigits u ++ c :: r) = (decDigits u).length := by rw [zi5 (zhh u), zlj hc, Nat.add_zero]
 have hds : numDs (decDigits u ++ c :: r) 0 = decDigits u := by rw [numDs, List.drop_zero, hrun, List.take_left]
 unfold numR
 rw [if_neg (not_not_intro h0)]
 simp only [Int.toNat_zero, List.drop_zero, hrun, hds, zos]
 rw [if_neg, if_neg]
 ·simp
 ·omega
 ·rintro (h | ⟨h1, h2⟩)
  ·exact znf u (List.eq_nil_of_length_eq_zero h)
  ·rcases Nat.eq_zero_or_pos u with rfl | hu
   ·rw [decDigits] at h2
    simp at h2
   ·obtain ⟨x, t, h3, h4⟩ := zpe u hu
    rw [h3] at h1
    exact h4 h1
theorem zec {u : Nat} {n : Int} (hn : (u : Int) ≤ n) (hm : u ≤ 2147483647) {c : UInt8} (hc : isDig c = false) (r : List UInt8) : signR (decDigits u ++ c :: r) 0 n = ((u : Int), ((decDigits u).length : Int), 0) := by
 have h0 : (0 : Int) ≤ 0 ∧ (0 : Int) ≤ (decDigits u ++ c :: r).length := by omega
 have hat : isAt (decDigits u ++ c :: r) 0 z19 = false := by
  cases hd : decDigits u with
  | nil => exact absurd hd (znf u)
  | cons x t =>
   refine zmx fun e => ?_
   have := zhh u x (by rw [hd]; exact List.mem_cons_self)
   rw [e] at this
   exact absurd this (by decide)
 have hto : isTo (decDigits u ++ c :: r) 0 z19 = 0 := by
  have h2 := hat
  unfold isAt at h2
  rw [decide_eq_true h0, Bool.true_and] at h2
  rw [isTo, if_neg (not_not_intro h0), if_neg (by rw [h2]; decide)]
 unfold signR
 rw [if_neg (not_not_intro h0), if_pos hat, hto, zde hn hm hc]
theorem zl6 {u : Nat} {n : Int} (h1 : 1 ≤ u) (hn : (u : Int) ≤ n) (hm : u ≤ 2147483647) {c : UInt8} (hc : isDig c = false) (r : List UInt8) : signR (45 :: decDigits u ++ c :: r) 0 n = (-(u : Int), ((45 :: decDigits u).length : Int), 0) := by
 have h0 : (0 : Int) ≤ 0 ∧ (0 : Int) ≤ (45 :: decDigits u ++ c :: r).length := by omega
 have hat : isAt (45 :: decDigits u ++ c :: r) 0 z19 = true := z54 [] [45] (decDigits u ++ c :: r)
 have hto : isTo (45 :: decDigits u ++ c :: r) 0 z19 = 1 := z64 [] [45] (decDigits u ++ c :: r)
 have hnum := zdb [45] (decDigits u ++ c :: r) 0 (Nat.zero_le _) n
 have hnum : numR (45 :: decDigits u ++ c :: r) 1 n = ((u : Int), 1 + ((decDigits u).length : Int), 0) := by
  have e : ((List.length [(45 : UInt8)] + 0 : Nat) : Int) = 1 := rfl
  rw [e] at hnum
  have e2 : ((0 : Nat) : Int) = 0 := rfl
  rw [e2, zde hn hm hc] at hnum
  exact hnum
 unfold signR
 rw [if_neg (not_not_intro h0), if_neg (by rw [hat]; decide), hto, hnum]
 simp only
 rw [if_neg (by omega), if_neg (by simp)]
 simp only [List.length_cons, Prod.mk.injEq, and_true, true_and]
 omega
theorem zox {n x : Int} (hx : litOk n x) (hn : n ≤ 100000) {c : UInt8} (hc : isDig c = false) (r : List UInt8) : signR (tItoa x ++ c :: r) 0 n = (x, ((tItoa x).length : Int), 0) := by
 obtain ⟨h0, h1, h2⟩ := hx
 by_cases hp : x < 0
 ·obtain ⟨u, rfl⟩ : ∃ u : Nat, x = -(u : Int) := ⟨x.natAbs, by omega⟩
  have e : tItoa (-(u : Int)) = 45 :: decDigits u := itoa_neg u (by omega)
  rw [e]
  exact zl6 (by omega) (by omega) (by omega) hc r
 ·obtain ⟨u, rfl⟩ : ∃ u : Nat, x = (u : Int) := ⟨x.toNat, by omega⟩
  have e : tItoa (u : Int) = decDigits u := itoa_nonneg u
  rw [e]
  exact zec (by omega) (by omega) hc r
theorem zbj {n : Int} (hn : 0 ≤ n ∧ n ≤ 100000) (r : List UInt8) : ∀ (c out : List Int) (f : Nat), (∀ x ∈ c, litOk n x) → out.length + c.length ≤ 1000 → c.length < f → clR (litsT c ++ ([48, 10] ++ r)) n f 0 out = .inr (out ++ c, ((litsT c).length : Int) + 2)
 | _, _, 0, _, _, hf => absurd hf (Nat.not_lt_zero _)
 | [], out, f + 1, _, _, _ => by
  have h := zec (u := 0) (n := n) (by omega) (by decide) (c := 10) (by decide) r
  have e : decDigits 0 = [48] := by rw [decDigits]; rfl
  rw [e] at h
  have e2 : litsT [] ++ ([48, 10] ++ r) = [48] ++ 10 :: r := rfl
  rw [e2, clR, h]
  simp only [ne_eq, not_true, if_false, if_true]
  have h2 := z54 [48] [10] r
  have h3 := z64 [48] [10] r
  have e3 : [48] ++ ([10] ++ r) = [48] ++ 10 :: r := rfl
  rw [e3] at h2 h3
  have e4 : ((List.length [(48 : UInt8)] : Nat) : Int) = 1 := rfl
  rw [e4] at h2 h3 ⊢
  rw [if_pos h2, h3]
  simp [litsT]
 | x :: c, out, f + 1, hc, ho, hf => by
  have hx := hc x List.mem_cons_self
  have e1 : litsT (x :: c) ++ ([48, 10] ++ r) = tItoa x ++ 32 :: (litsT c ++ ([48, 10] ++ r)) := by
   simp [litsT, lit1]
  have h := zox hx hn.2 (c := 32) (by decide) (litsT c ++ ([48, 10] ++ r))
  rw [e1, clR, h]
  simp only [ne_eq, not_true, if_false]
  rw [if_neg hx.1, if_neg (by simp only [List.length_cons] at ho; omega)]
  have h2 := z54 (tItoa x) [32] (litsT c ++ ([48, 10] ++ r))
  have h3 := z64 (tItoa x) [32] (litsT c ++ ([48, 10] ++ r))
  have e3 : tItoa x ++ ([32] ++ (litsT c ++ ([48, 10] ++ r))) = tItoa x ++ 32 :: (litsT c ++ ([48, 10] ++ r)) := rfl
  rw [e3] at h2 h3
  rw [if_pos h2, h3]
  have h4 := zhk (tItoa x ++ [32]) (litsT c ++ ([48, 10] ++ r)) n f 0 (out ++ [x]) (Nat.zero_le _)
  have e5 : tItoa x ++ [32] ++ (litsT c ++ ([48, 10] ++ r)) = tItoa x ++ 32 :: (litsT c ++ ([48, 10] ++ r)) := by simp
  have e6 : (((tItoa x ++ [32]).length + 0 : Nat) : Int) = ((tItoa x).length : Int) + ((List.length [(32 : UInt8)] : Nat) : Int) := by simp
  have e7 : ((0 : Nat) : Int) = 0 := rfl
  rw [e5, e6, e7, zbj hn r c (out ++ [x]) f (fun y hy => hc y (List.mem_cons_of_mem _ hy)) (by simp only [List.length_append, List.length_cons, List.length_nil] at ho ⊢; omega) (by simp only [List.length_cons] at hf; omega)] at h4
  rw [h4]
  simp only [shR, litsT, lit1, List.flatMap_cons, List.length_append, List.append_assoc, List.cons_append, List.nil_append, List.length_cons, List.length_nil]
  congr 2
  omega
theorem zp1 (b : List UInt8) (i : Nat) (hi : i ≤ b.length) (s : List UInt8) : ∃ q : Nat, isTo b (i : Int) s = q ∧ i ≤ q ∧ q ≤ b.length := by
 obtain ⟨h1, h2⟩ := z8s (b := b) (at_ := (i : Int)) (s := s) (by omega) (by omega)
 exact ⟨(isTo b (i : Int) s).toNat, by omega, by omega, by omega⟩
theorem zmn (c : List Int) (r : List UInt8) : ∃ h t, litsT c ++ ([48, 10] ++ r) = h :: t ∧ h ≠ 100 := by
 cases c with
 | nil => exact ⟨48, 10 :: r, rfl, by decide⟩
 | cons x c =>
  have hd : ∃ h t, tItoa x = h :: t ∧ h ≠ 100 := by
   show ∃ h t, itoa x = h :: t ∧ h ≠ 100
   unfold itoa
   split
   ·exact ⟨45, _, rfl, by decide⟩
   ·cases hx : decDigits x.toNat with
    | nil => exact absurd hx (znf _)
    | cons y t =>
     refine ⟨y, t, rfl, fun e => ?_⟩
     have := zhh x.toNat y (by rw [hx]; exact List.mem_cons_self)
     rw [e] at this
     exact absurd this (by decide)
  obtain ⟨h, t, h1, h2⟩ := hd
  refine ⟨h, t ++ ([32] ++ litsT c) ++ ([48, 10] ++ r), ?_, h2⟩
  simp only [litsT, List.flatMap_cons, lit1, h1, List.cons_append, List.append_assoc, List.nil_append]
theorem zpd (d : Bool) (c : List Int) (r : List UInt8) : isAt (delT d ++ (litsT c ++ ([48, 10] ++ r))) 0 sDel = d ∧ isTo (delT d ++ (litsT c ++ ([48, 10] ++ r))) 0 sDel = (delT d).length := by
 cases d with
 | true =>
  exact ⟨z54 [] [100, 32] _, z64 [] [100, 32] _⟩
 | false =>
  obtain ⟨h, t, h1, h2⟩ := zmn c r
  have e : delT false ++ (litsT c ++ ([48, 10] ++ r)) = h :: t := h1
  rw [e]
  have hat := zmx (r := t) (s := [32]) h2
  refine ⟨hat, ?_⟩
  have h0 : (0 : Int) ≤ 0 ∧ (0 : Int) ≤ (h :: t).length := by omega
  have hat2 := hat
  unfold isAt at hat2
  rw [decide_eq_true h0, Bool.true_and] at hat2
  rw [isTo, if_neg (not_not_intro h0), if_neg (by rw [hat2]; decide)]
  rfl
theorem z83 {b s : List UInt8} {i : Nat} (h : isAt b (i : Int) s = true) : i + s.length ≤ b.length ∧ isTo b (i : Int) s = ((i + s.length : Nat) : Int) ∧ b.drop i = s ++ b.drop (i + s.length) := by
 obtain ⟨h1, h2, h3⟩ := z63 h
 refine ⟨by omega, by omega, ?_⟩
 unfold isAt at h
 rw [Bool.and_eq_true, Int.toNat_natCast] at h
 obtain ⟨t, ht⟩ := List.isPrefixOf_iff_prefix.1 h.2
 rw [← List.drop_drop, ← ht, List.drop_left]
theorem zdd {b : List UInt8} {i : Nat} {n v nx : Int} (h : numR b (i : Int) n = (v, nx, 0)) : ∃ (u q : Nat), v = u ∧ nx = q ∧ i < q ∧ q ≤ b.length ∧ (u : Int) ≤ n ∧ u ≤ 2147483647 ∧ b.drop i = decDigits u ++ b.drop q := by
 have hz : (numR b (i : Int) n).2.2 = 0 := by rw [h]
 have hpl := zdc hz
 rw [h] at hpl
 simp only at hpl
 unfold numR at h
 rw [if_neg (not_not_intro ⟨by omega, by omega⟩), Int.toNat_natCast] at h
 split at h
 ·simp at h
 ·rename_i h1
  split at h
  ·simp at h
  ·rename_i h2
   simp only [Prod.mk.injEq] at h
   obtain ⟨rfl, rfl, -⟩ := h
   have hk := zaj isDig (b.drop i)
   rw [List.length_drop] at hk
   have hdig := zoo (b.drop i)
   unfold numDs at h2 ⊢
   generalize hkk : runN isDig (b.drop i) = k at *
   have hk0 : k ≠ 0 := fun e => h1 (.inl e)
   obtain ⟨m, rfl⟩ : ∃ m, k = m + 1 := ⟨k - 1, by omega⟩
   have hl : ((b.drop i).take (m + 1)).length = m + 1 := by rw [List.length_take, List.length_drop]; omega
   have h0 : ((b.drop i).take (m + 1)).getD 0 0 = 48 → ((b.drop i).take (m + 1)).length = 1 := fun e => by
    have e2 : ((b.drop i).take (m + 1)).getD 0 0 = b.getD i 0 := by
     simp [List.getD_eq_getElem?_getD, List.getElem?_take, List.getElem?_drop]
    rw [e2] at e
    rw [hl]
    have : ¬ 1 < m + 1 := fun hh => h1 (.inr ⟨e, hh⟩)
    omega
   refine ⟨_, i + (m + 1), rfl, by omega, by omega, by omega, by omega, by omega, ?_⟩
   rw [zj1 m _ hl hdig h0, ← List.drop_drop, List.take_append_drop]
theorem zl7 {b : List UInt8} {i : Nat} {n v nx : Int} (h : signR b (i : Int) n = (v, nx, 0)) : ∃ q : Nat, nx = q ∧ i < q ∧ q ≤ b.length ∧ -n ≤ v ∧ v ≤ n ∧ b.drop i = tItoa v ++ b.drop q := by
 have hz : (signR b (i : Int) n).2.2 = 0 := by rw [h]
 have hpl := z6f hz
 rw [h] at hpl
 simp only at hpl
 unfold signR at h
 rw [if_neg (not_not_intro ⟨by omega, by omega⟩)] at h
 split at h
 ·rename_i h1
  have h1b : i ≤ b.length := by omega
  have e : isTo b (i : Int) z19 = i := by
   unfold isAt at h1
   rw [decide_eq_true (by omega), Bool.true_and] at h1
   rw [isTo, if_neg (not_not_intro ⟨by omega, by omega⟩), if_neg (by rw [h1]; decide)]
  rw [e] at h
  obtain ⟨u, q, rfl, rfl, h2, h3, h4, h5, h6⟩ := zdd h
  refine ⟨q, rfl, h2, h3, by omega, h4, ?_⟩
  rw [h6]
  show _ = itoa (u : Int) ++ _
  rw [itoa_nonneg]
 ·rename_i h1
  have h1 : isAt b (i : Int) z19 = true := by simpa using h1
  obtain ⟨g1, g2, g3⟩ := z83 h1
  rw [g2] at h
  split at h
  ·simp at h
  ·rename_i h2
   split at h
   ·rename_i h3
    simp only [Prod.mk.injEq] at h
    exact absurd h.2.2 h3
   ·rename_i h3
    have h3 := Decidable.not_not.1 h3
    generalize hn : numR b ((i + [(45 : UInt8)].length : Nat) : Int) n = r at *
    obtain ⟨v0, nx0, e0⟩ := r
    simp only at h h2 h3
    subst h3
    simp only [Prod.mk.injEq] at h
    obtain ⟨rfl, rfl, -⟩ := h
    obtain ⟨u, q, rfl, rfl, k2, k3, k4, k5, k6⟩ := zdd hn
    have hu : u ≠ 0 := fun e => h2 ⟨rfl, by omega⟩
    refine ⟨q, rfl, by simp only [List.length_cons, List.length_nil] at k2; omega, k3, by omega, by omega, ?_⟩
    rw [g3]
    show _ = itoa (-(u : Int)) ++ _
    rw [itoa_neg u (by omega), k6]
    rfl
theorem znp {b : List UInt8} {n : Int} (hn : 0 ≤ n) : ∀ {f i : Nat} {out l : List Int} {e : Int}, clR b n f (i : Int) out = .inr (l, e) → out.length ≤ 1000 → ∃ (c : List Int) (q : Nat), l = out ++ c ∧ e = q ∧ q ≤ b.length ∧ (∀ x ∈ c, litOk n x) ∧ l.length ≤ 1000 ∧ b.drop i = litsT c ++ ([48, 10] ++ b.drop q)
 | 0, _, _, _, _, h, _ => by simp [clR] at h
 | f + 1, i, out, l, e, h, ho => by
  rw [clR] at h
  split at h
  ·cases h
  ·rename_i h0
   have h0 : (signR b (i : Int) n).2.2 = 0 := Decidable.not_not.1 h0
   generalize hs : signR b (i : Int) n = r at *
   obtain ⟨v, nx, e0⟩ := r
   simp only at h0 h
   subst h0
   obtain ⟨q, rfl, g1, g2, g3, g4, g5⟩ := zl7 hs
   split at h
   ·rename_i hv
    subst hv
    split at h
    ·rename_i ha
     obtain ⟨k1, k2, k3⟩ := z83 ha
     simp only [Sum.inr.injEq, Prod.mk.injEq] at h
     obtain ⟨rfl, rfl⟩ := h
     refine ⟨[], q + 1, by simp, k2, k1, by simp, ho, ?_⟩
     rw [g5, k3]
     have : tItoa 0 = [48] := by
      show itoa 0 = _
      unfold itoa
      rw [if_neg (by decide)]
      show decDigits 0 = _
      rw [decDigits]
      rfl
     rw [this]
     rfl
    ·cases h
   ·rename_i hv
    split at h
    ·cases h
    ·rename_i hol
     split at h
     ·rename_i ha
      obtain ⟨k1, k2, k3⟩ := z83 ha
      rw [k2] at h
      obtain ⟨c, p, m1, m2, m3, m4, m5, m6⟩ := znp hn h (by simp only [List.length_append, List.length_cons, List.length_nil]; omega)
      refine ⟨v :: c, p, by rw [m1]; simp, m2, m3, fun x hx => ?_, m5, ?_⟩
      ·rcases List.mem_cons.1 hx with rfl | hx
       ·exact ⟨hv, g3, g4⟩
       ·exact m4 x hx
      ·rw [g5, k3, m6]
       simp [litsT, lit1]
     ·cases h
theorem znq {b : List UInt8} {n : Int} : ∀ {f i : Nat} {out : List Int} {a e : Int}, i ≤ b.length → clR b n f (i : Int) out = .inl (a, e) → 0 ≤ a ∧ a ≤ b.length ∧ e ≠ 0
 | 0, i, out, a, e, hi, h => by
  simp only [clR, Sum.inl.injEq, Prod.mk.injEq] at h
  obtain ⟨rfl, rfl⟩ := h
  exact ⟨by omega, by omega, by decide⟩
 | f + 1, i, out, a, e, hi, h => by
  rw [clR] at h
  split at h
  ·rename_i h0
   simp only [Sum.inl.injEq, Prod.mk.injEq] at h
   obtain ⟨rfl, rfl⟩ := h
   exact ⟨by omega, by omega, h0⟩
  ·rename_i h0
   have hp := z6f (Decidable.not_not.1 h0)
   generalize signR b (i : Int) n = r at *
   obtain ⟨v, nx, e0⟩ := r
   simp only at hp h
   split at h
   ·split at h
    ·cases h
    ·simp only [Sum.inl.injEq, Prod.mk.injEq] at h
     obtain ⟨rfl, rfl⟩ := h
     exact ⟨by omega, by omega, by decide⟩
   ·split at h
    ·simp only [Sum.inl.injEq, Prod.mk.injEq] at h
     obtain ⟨rfl, rfl⟩ := h
     exact ⟨by omega, by omega, by decide⟩
    ·split at h
     ·rename_i ha
      obtain ⟨k1, k2, k3⟩ := z63 ha
      obtain ⟨q, hq⟩ : ∃ q : Nat, isTo b nx sSp = q := ⟨(isTo b nx sSp).toNat, by omega⟩
      rw [hq] at h k3
      exact znq (by omega) h
     ·simp only [Sum.inl.injEq, Prod.mk.injEq] at h
      obtain ⟨rfl, rfl⟩ := h
      exact ⟨by omega, by omega, by decide⟩
end Go.Proofs.YtkemmijjpclckaaGreatDoor
namespace Go.Proofs.YtkemmijjpclckaaGreatDoor
open Go Ab Go.Lib
def kInv : List UInt8 := [105, 110, 118, 32]
def z2k : List UInt8 := [112, 114, 111, 111, 102, 32]
def gateT (p : P2) : List UInt8 := tItoa p.1 ++ [32] ++ (tItoa p.2 ++ [10])
def prT (p : List Sp) : List UInt8 := z2k ++ (tItoa (p.length : Int) ++ [10]) ++ z1j p
def certT (c : Ct) : List UInt8 := kInv ++ (tItoa (c.g.length : Int) ++ [32]) ++ (tItoa c.inv ++ [10]) ++ c.g.flatMap gateT ++ prT c.p0 ++ prT c.p1 ++ prT c.p2
abbrev PR (α : Type) := (Int × Int) ⊕ (α × Int)
def bnd {α β : Type} (x : PR α) (f : α → Int → PR β) : PR β := match x with
 | .inl e => .inl e
 | .inr (a, p) => f a p
def wordP (b s : List UInt8) (at_ : Int) : PR Unit := if isAt b at_ s = true then .inr ((), isTo b at_ s) else .inl (at_, 2)
def numP (b : List UInt8) (most at_ : Int) : PR Int := if (numR b at_ most).2.2 ≠ 0 then .inl (at_, (numR b at_ most).2.2) else .inr ((numR b at_ most).1, (numR b at_ most).2.1)
def stepP (b : List UInt8) (n at_ : Int) : PR Sp := bnd (clR b n (b.length + 1) (isTo b at_ sDel) []) fun c p => .inr ((isAt b at_ sDel, c, ()), p)
def z4v (b : List UInt8) (n : Int) : Nat → Int → List Sp → PR (List Sp)
 | 0, at_, out => .inr (out, at_)
 | k + 1, at_, out => bnd (stepP b n at_) fun s p => z4v b n k p (out ++ [s])
def z1v (b : List UInt8) (n at_ : Int) : PR (List Sp) := bnd (wordP b z2k at_) fun _ p => bnd (numP b 20000 p) fun m q => bnd (wordP b [10] q) fun _ r => z4v b n m.toNat r []
def gateP (b : List UInt8) (v at_ : Int) : PR P2 := bnd (numP b (2 * v - 1) at_) fun x p => bnd (wordP b [32] p) fun _ q => bnd (numP b x q) fun y r => bnd (wordP b [10] r) fun _ s => .inr ((x, y), s)
def z3j (b : List UInt8) (v : Int) : Nat → Int → List P2 → PR (List P2)
 | 0, at_, out => .inr (out, at_)
 | k + 1, at_, out => bnd (gateP b (v + 1 + out.length) at_) fun g p => z3j b v k p (out ++ [g])
def restP (b : List UInt8) (n : Int) (g : List P2) (inv at_ : Int) : PR Ct := bnd (z1v b n at_) fun x p => bnd (z1v b (2 * n) p) fun y q => bnd (z1v b n q) fun z r => if r < b.length then .inl (r, 2) else .inr (⟨g, inv, x, y, z⟩, r)
def bodyP (a : Ag) (b : List UInt8) : PR Ct :=
 bnd (wordP b kInv 0) fun _ p1 => bnd (numP b (20000 - varsA a) p1) fun m p2 => bnd (wordP b [32] p2) fun _ p3 => bnd (numP b (2 * (varsA a + m) + 1) p3) fun inv p4 => bnd (wordP b [10] p4) fun _ p5 =>
  bnd (z3j b (varsA a) m.toNat p5 []) fun g p6 => if z2y { a with g := a.g ++ g } inv = true then .inl (p3, 2) else restP b (varsA a + g.length + 1) g inv p6
def certP (a : Ag) (b : List UInt8) : PR Ct := if 100000 < b.length then .inl (0, 3) else bodyP a b
def At (b : List UInt8) (p : Nat) (r : List UInt8) : Prop := p ≤ b.length ∧ b.drop p = r
theorem At.split {b r : List UInt8} {p : Nat} (h : At b p r) : b = b.take p ++ r ∧ (b.take p).length = p := by
 obtain ⟨h1, rfl⟩ := h
 exact ⟨(List.take_append_drop p b).symm, by rw [List.length_take]; omega⟩
theorem At.step {b s r : List UInt8} {p : Nat} (h : At b p (s ++ r)) : At b (p + s.length) r := by
 obtain ⟨h1, h2⟩ := h
 have := congrArg List.length h2
 rw [List.length_drop, List.length_append] at this
 refine ⟨by omega, ?_⟩
 rw [← List.drop_drop, h2, List.drop_left]
theorem At.len {b r : List UInt8} {p : Nat} (h : At b p r) : p + r.length = b.length := by
 obtain ⟨h1, rfl⟩ := h
 rw [List.length_drop]
 omega
theorem z5b {b s r : List UInt8} {p : Nat} (h : At b p (s ++ r)) : wordP b s (p : Int) = .inr ((), ((p + s.length : Nat) : Int)) := by
 obtain ⟨h1, h2⟩ := h.split
 have h3 := z54 (b.take p) s r
 have h4 := z64 (b.take p) s r
 rw [← h1, h2] at h3 h4
 unfold wordP
 rw [if_pos h3, h4]
 simp
theorem zao {b r : List UInt8} {p : Nat} {x most : Int} {c : UInt8} (h : At b p (tItoa x ++ c :: r)) (hc : isDig c = false) (h0 : 0 ≤ x) (hu : x ≤ most) (hm : x ≤ 2147483647) : numP b most (p : Int) = .inr (x, ((p + (tItoa x).length : Nat) : Int)) := by
 obtain ⟨u, rfl⟩ : ∃ u : Nat, x = u := ⟨x.toNat, by omega⟩
 rw [show tItoa (u : Int) = decDigits u from itoa_nonneg u] at h ⊢
 obtain ⟨h1, h2⟩ := h.split
 have h3 := zdb (b.take p) (decDigits u ++ c :: r) 0 (Nat.zero_le _) most
 rw [show ((0 : Nat) : Int) = 0 from rfl, zde hu (by omega) hc r, Nat.add_zero, ← h1, h2] at h3
 unfold numP
 rw [h3]
 simp
theorem At.assoc {b s t r : List UInt8} {p : Nat} (h : At b p (s ++ t ++ r)) : At b p (s ++ (t ++ r)) := by rwa [List.append_assoc] at h
theorem zp8 {b r : List UInt8} {p : Nat} {g : P2} {v : Int} (h : At b p (gateT g ++ r)) (h0 : 0 ≤ g.2 ∧ g.2 ≤ g.1 ∧ g.1 < 2 * v) (hv : v ≤ 100000) : gateP b v (p : Int) = .inr (g, ((p + (gateT g).length : Nat) : Int)) := by
 unfold gateT at h ⊢
 have a1 := h.assoc.assoc
 have a2 := a1.step
 have a3 := a2.step.assoc
 have a4 := a3.step
 unfold gateP
 rw [zao (c := 32) a1 (by decide) (by omega) (by omega) (by omega)]
 simp only [bnd]
 rw [z5b a2]
 simp only [bnd]
 rw [zao (c := 10) a3 (by decide) (by omega) (by omega) (by omega)]
 simp only [bnd]
 rw [z5b a4]
 simp only [bnd, List.length_append]
 congr 3
 omega
theorem zfg {b : List UInt8} {v : Int} (hv0 : 0 ≤ v) : ∀ (g out : List P2) (p : Nat) (r : List UInt8), At b p (g.flatMap gateT ++ r) → gatOk (v + 1 + out.length) g = true → v + 1 + out.length + g.length ≤ 100000 → z3j b v g.length (p : Int) out = .inr (out ++ g, ((p + (g.flatMap gateT).length : Nat) : Int))
 | [], out, p, r, h, _, _ => by simp [z3j]
 | x :: g, out, p, r, h, hg, hl => by
  rw [gatOk, Bool.and_eq_true, decide_eq_true_eq] at hg
  rw [List.length_cons] at hl ⊢
  rw [List.flatMap_cons] at h ⊢
  have a1 := h.assoc
  rw [z3j, zp8 a1 hg.1 (by omega)]
  simp only [bnd]
  rw [zfg hv0 g (out ++ [x]) _ r a1.step (by rw [List.length_append, List.length_singleton, show v + 1 + ((out.length + 1 : Nat) : Int) = v + 1 + out.length + 1 by omega]; exact hg.2) (by rw [List.length_append, List.length_singleton]; omega), List.append_assoc, List.length_append]
  congr 3
  omega
theorem zof {b r : List UInt8} {p : Nat} {s : Sp} {n : Int} (hn : 0 ≤ n ∧ n ≤ 100000) (h : At b p (stepT s ++ r)) (hs : (∀ x ∈ s.2.1, litOk n x) ∧ s.2.1.length ≤ 1000) : stepP b n (p : Int) = .inr (s, ((p + (stepT s).length : Nat) : Int)) := by
 obtain ⟨h1, h2⟩ := h.split
 obtain ⟨d, c, ⟨⟩⟩ := s
 simp only at hs
 have hT : stepT (d, c, ()) ++ r = delT d ++ (litsT c ++ ([48, 10] ++ r)) := by simp [stepT, List.append_assoc]
 have hd := zpd d c r
 rw [hT] at h1
 have e1 := z82 (b.take p) (delT d ++ (litsT c ++ ([48, 10] ++ r))) 0 (Nat.zero_le _) sDel
 have e2 := z9t (b.take p) (delT d ++ (litsT c ++ ([48, 10] ++ r))) 0 (Nat.zero_le _) sDel
 rw [← h1, h2, Nat.add_zero, show ((0 : Nat) : Int) = 0 from rfl, hd.1] at e1
 rw [← h1, h2, Nat.add_zero, show ((0 : Nat) : Int) = 0 from rfl, hd.2] at e2
 have hlen : b.length = p + ((delT d).length + ((litsT c).length + (2 + r.length))) := by
  have := congrArg List.length h1
  simp only [List.length_append, h2, List.length_cons, List.length_nil] at this
  omega
 have hcl : c.length ≤ (litsT c).length := by
  clear hs hT hd e1 e2 hlen h h1
  induction c with
  | nil => exact Nat.le_refl _
  | cons x c ih =>
   simp only [litsT, List.flatMap_cons, List.length_append, List.length_cons, lit1] at ih ⊢
   omega
 have e3 := zhk (b.take p ++ delT d) (litsT c ++ ([48, 10] ++ r)) n (b.length + 1) 0 [] (Nat.zero_le _)
 rw [show ((0 : Nat) : Int) = 0 from rfl, zbj hn r c [] (b.length + 1) hs.1 (by simpa using hs.2) (by omega), List.append_assoc, ← h1, List.length_append, h2] at e3
 simp only [Nat.add_zero] at e3
 unfold stepP
 rw [e1, e2, show ((p : Int) + ((delT d).length : Int)) = ((p + (delT d).length : Nat) : Int) by omega, e3]
 simp only [shR, bnd, List.nil_append]
 congr 3
 simp only [stepT, List.length_append, List.length_cons, List.length_nil]
 omega
theorem zea {b : List UInt8} {n : Int} (hn : 0 ≤ n ∧ n ≤ 100000) : ∀ (l out : List Sp) (p : Nat) (r : List UInt8), At b p (z1j l ++ r) → (∀ s ∈ l, (∀ x ∈ s.2.1, litOk n x) ∧ s.2.1.length ≤ 1000) → z4v b n l.length (p : Int) out = .inr (out ++ l, ((p + (z1j l).length : Nat) : Int))
 | [], out, p, r, h, _ => by simp [z4v, z1j]
 | s :: l, out, p, r, h, hs => by
  rw [show z1j (s :: l) = stepT s ++ z1j l from List.flatMap_cons ..] at h ⊢
  have a1 := h.assoc
  rw [List.length_cons, z4v, zof hn a1 (hs s List.mem_cons_self)]
  simp only [bnd]
  rw [zea hn l (out ++ [s]) _ r a1.step fun x hx => hs x (List.mem_cons_of_mem _ hx), List.append_assoc, List.length_append]
  congr 3
  omega
theorem zam {b r : List UInt8} {n : Int} {p : Nat} {l : List Sp} (hn : 0 ≤ n ∧ n ≤ 100000) (h : At b p (prT l ++ r)) (hs : ∀ s ∈ l, (∀ x ∈ s.2.1, litOk n x) ∧ s.2.1.length ≤ 1000) (hl : l.length ≤ 20000) : z1v b n (p : Int) = .inr (l, ((p + (prT l).length : Nat) : Int)) := by
 unfold prT at h ⊢
 have a1 := h.assoc.assoc
 have a2 := a1.step.assoc
 have a3 := a2.step
 have a4 := a3.step
 unfold z1v
 rw [z5b a1]
 simp only [bnd]
 rw [zao (c := 10) a2 (by decide) (by omega) (by omega) (by omega)]
 simp only [bnd]
 rw [z5b a3]
 simp only [bnd]
 rw [Int.toNat_natCast, zea hn l [] _ r a4 hs, List.nil_append]
 congr 3
 simp only [List.length_append]
 omega
theorem z87 : ∀ (g h : List P2) (v : Int), gatOk v (g ++ h) = (gatOk v g && gatOk (v + g.length) h)
 | [], h, v => by simp [gatOk]
 | p :: g, h, v => by
  rw [List.cons_append, gatOk, gatOk, z87 g h (v + 1), Bool.and_assoc, List.length_cons, show v + 1 + (g.length : Int) = v + ((g.length + 1 : Nat) : Int) by omega]
theorem zc8 {n : Int} {p : List Sp} : z34 n p = true ↔ (0 ≤ n ∧ n ≤ 100000 ∧ p.length ≤ 20000) ∧ ∀ s ∈ p, (∀ x ∈ s.2.1, litOk n x) ∧ s.2.1.length ≤ 1000 := by
 unfold z34 clOk
 rw [Bool.and_eq_true, decide_eq_true_eq, List.all_eq_true]
 refine and_congr_right fun _ => forall_congr' fun s => forall_congr' fun _ => ?_
 rw [Bool.and_eq_true, decide_eq_true_eq, List.all_eq_true, and_comm]
 refine and_congr_left fun _ => forall_congr' fun x => forall_congr' fun _ => ?_
 rw [decide_eq_true_eq]
theorem z40 {a : Ag} {c : Ct} : z3s a c = true ↔ c.g.length ≤ 20000 ∧ z2p (zu a c) = true ∧ (0 ≤ c.inv ∧ c.inv ≤ 2 * varsA (zu a c) + 1) ∧ z2y (zu a c) c.inv = false ∧ z34 (varsA (zu a c) + 1) c.p0 = true ∧ z34 (2 * (varsA (zu a c) + 1)) c.p1 = true ∧ z34 (varsA (zu a c) + 1) c.p2 = true := by
 unfold z3s
 simp only [Bool.and_eq_true, decide_eq_true_eq, Bool.not_eq_true', and_assoc]
theorem zch {i v w : Int} (h : v ≤ w) : ∀ {l : List P2} {k : Nat}, latOk i v k l = true → latOk i w k l = true
 | [], _, _ => rfl
 | p :: l, k, hl => by
  rw [latOk, Bool.and_eq_true, decide_eq_true_eq] at hl ⊢
  exact ⟨⟨⟨hl.1.1.1, by omega⟩, hl.1.2⟩, zch h hl.2⟩
theorem z7i {v w : Int} (h : v ≤ w) {l : List Int} (hl : z1o v l = true) : z1o w l = true := by
 unfold z1o at hl ⊢
 rw [Bool.and_eq_true, List.all_eq_true] at hl ⊢
 refine ⟨hl.1, fun x hx => ?_⟩
 have := of_decide_eq_true (hl.2 x hx)
 exact decide_eq_true (by omega)
theorem zas (a : Ag) (c : Ct) : ∀ (l : List Nm) (o : Option Nm), nmsOk (zu a c) o l = nmsOk a o l
 | [], _ => rfl
 | x :: l, o => by
  unfold nmsOk
  rw [zas a c l]
  rfl
structure RightA (a : Ag) : Prop where
 i0 : 0 ≤ a.i
 v1 : varsA a ≤ 20000
 lat : latOk a.i (varsA a) 0 a.l = true
 gat : gatOk (a.i + a.l.length + 1) a.g = true
 outs : z1o (varsA a) a.outs = true
 bad : z1o (varsA a) a.bad = true
 con : z1o (varsA a) a.con = true
 nms : nmsOk a none a.names = true
 nml : a.names.length ≤ 2000
theorem z13 {a : Ag} : z2p a = true ↔ RightA a := by
 unfold z2p
 simp only [Bool.and_eq_true, decide_eq_true_eq]
 constructor
 ·rintro ⟨⟨⟨⟨⟨⟨h1, h2⟩, h3⟩, h4⟩, h5⟩, h6⟩, h7, h8⟩
  exact ⟨h1.1, h1.2.2.2.2, h2, h3, h4, h5, h6, h7, h8⟩
 ·rintro ⟨h1, h2, h3, h4, h5, h6, h7, h8, h9⟩
  refine ⟨⟨⟨⟨⟨⟨⟨h1, ?_⟩, h3⟩, h4⟩, h5⟩, h6⟩, h7⟩, h8, h9⟩
  unfold varsA at h2
  unfold varsA
  omega
theorem z5u {a : Ag} {c : Ct} (h : RightA a) (hv : varsA a + c.g.length ≤ 20000) (hg : gatOk (varsA a + 1) c.g = true) : RightA (zu a c) := by
 have hw : varsA a ≤ varsA (zu a c) := by rw [z2i]; omega
 refine ⟨h.i0, by rw [z2i]; exact hv, zch hw h.lat, ?_, z7i hw h.outs, z7i hw h.bad, z7i hw h.con, by rw [zas]; exact h.nms, h.nml⟩
 show gatOk (a.i + a.l.length + 1) (a.g ++ c.g) = true
 rw [z87, h.gat, Bool.true_and]
 rw [show a.i + (a.l.length : Int) + 1 + (a.g.length : Int) = varsA a + 1 by unfold varsA; omega]
 exact hg
theorem zb4 {a : Ag} {c : Ct} (h : RightA (zu a c)) : gatOk (varsA a + 1) c.g = true := by
 have := h.gat
 rw [show (zu a c).g = a.g ++ c.g from rfl, z87, Bool.and_eq_true] at this
 rw [show varsA a + 1 = a.i + (a.l.length : Int) + 1 + (a.g.length : Int) by unfold varsA; omega]
 exact this.2
theorem znr {a : Ag} {c : Ct} (ha : 0 ≤ varsA a) (h : z3s a c = true) (hl : (certT c).length ≤ 100000) : certP a (certT c) = .inr (c, ((certT c).length : Int)) := by
 obtain ⟨-, h2, h3, h4, h5, h6, h7⟩ := z40.1 h
 have hA := z13.1 h2
 have hgo := zb4 hA
 have hv := hA.v1
 rw [z2i] at h3 h5 h6 h7 hv
 rw [zc8] at h5 h6 h7
 have A0 : At (certT c) 0 (kInv ++ (tItoa (c.g.length : Int) ++ 32 :: (tItoa c.inv ++ 10 :: (c.g.flatMap gateT ++ (prT c.p0 ++ (prT c.p1 ++ (prT c.p2 ++ []))))))) := by
  refine ⟨Nat.zero_le _, ?_⟩
  rw [List.drop_zero]
  unfold certT
  simp [List.append_assoc]
 have hlen := A0.len
 have A1 := A0.step
 have A2 : At (certT c) _ ([32] ++ (tItoa c.inv ++ 10 :: (c.g.flatMap gateT ++ (prT c.p0 ++ (prT c.p1 ++ (prT c.p2 ++ [])))))) := A1.step
 have A3 := A2.step
 have A4 : At (certT c) _ ([10] ++ (c.g.flatMap gateT ++ (prT c.p0 ++ (prT c.p1 ++ (prT c.p2 ++ []))))) := A3.step
 have A5 := A4.step
 have A6 := A5.step
 have A7 := A6.step
 have A8 := A7.step
 have A9 := A8.step
 unfold certP bodyP
 rw [if_neg (by omega), show (0 : Int) = ((0 : Nat) : Int) from rfl, z5b A0]
 simp only [bnd]
 rw [zao A1 (by decide) (by omega) (by omega) (by omega)]
 simp only [bnd]
 rw [z5b A2]
 simp only [bnd]
 rw [zao A3 (by decide) h3.1 (by omega) (by omega)]
 simp only [bnd]
 rw [z5b A4]
 simp only [bnd]
 rw [Int.toNat_natCast, zfg ha c.g [] _ _ A5 (by simpa using hgo) (by simp; omega)]
 simp only [bnd, List.nil_append]
 rw [if_neg (by rw [show z2y { a with g := a.g ++ c.g } c.inv = z2y (zu a c) c.inv from rfl, h4]; decide)]
 unfold restP
 rw [zam ⟨by omega, by omega⟩ A6 h5.2 h5.1.2.2]
 simp only [bnd]
 rw [zam ⟨by omega, by omega⟩ A7 h6.2 h6.1.2.2]
 simp only [bnd]
 rw [zam ⟨by omega, by omega⟩ A8 h7.2 h7.1.2.2]
 simp only [bnd]
 have e := A9.len
 rw [List.length_nil, Nat.add_zero] at e
 rw [e, if_neg (by omega)]
theorem zmd (b : List UInt8) (i most : Int) : (numR b i most).2.2 = 0 ∨ (numR b i most).2.2 = 2 ∨ (numR b i most).2.2 = 3 := by
 unfold numR
 split
 ·exact .inr (.inl rfl)
 ·split
  ·exact .inr (.inl rfl)
  ·split
   ·exact .inr (.inr rfl)
   ·exact .inl rfl
theorem zoh (b : List UInt8) (i most : Int) : (signR b i most).2.2 = 0 ∨ (signR b i most).2.2 = 2 ∨ (signR b i most).2.2 = 3 := by
 have h := zmd b (isTo b i z19) most
 unfold signR
 split
 ·exact .inr (.inl rfl)
 ·split
  ·exact h
  ·split
   ·exact .inr (.inl rfl)
   ·split
    ·exact h
    ·exact .inl rfl
theorem zpv {b : List UInt8} {n : Int} : ∀ {f : Nat} {i : Int} {out : List Int} {a e : Int}, clR b n f i out = .inl (a, e) → e = 2 ∨ e = 3
 | 0, i, out, a, e, h => by
  simp only [clR, Sum.inl.injEq, Prod.mk.injEq] at h
  exact .inl h.2.symm
 | f + 1, i, out, a, e, h => by
  have hs := zoh b i n
  rw [clR] at h
  split at h
  ·rename_i h0
   simp only [Sum.inl.injEq, Prod.mk.injEq] at h
   rw [h.2] at hs h0
   exact hs.resolve_left h0
  ·split at h
   ·split at h
    ·cases h
    ·simp only [Sum.inl.injEq, Prod.mk.injEq] at h
     exact .inl h.2.symm
   ·split at h
    ·simp only [Sum.inl.injEq, Prod.mk.injEq] at h
     exact .inr h.2.symm
    ·split at h
     ·exact zpv h
     ·simp only [Sum.inl.injEq, Prod.mk.injEq] at h
      exact .inl h.2.symm
def RdT (b : List UInt8) (p q : Nat) (t : List UInt8) : Prop := q ≤ b.length ∧ b.drop p = t ++ b.drop q
theorem RdT.trans {b s t : List UInt8} {p q r : Nat} (h : RdT b p q s) (k : RdT b q r t) : RdT b p r (s ++ t) := ⟨k.1, by rw [h.2, k.2, List.append_assoc]⟩
def ErP (b : List UInt8) (a e : Int) : Prop := 0 ≤ a ∧ a ≤ b.length ∧ (e = 2 ∨ e = 3)
structure GoodP {α : Type} (b : List UInt8) (p : Nat) (x : PR α) (R : α → List UInt8 → Prop) : Prop where
 ok : ∀ a e, x = .inr (a, e) → ∃ (q : Nat) (t : List UInt8), e = (q : Int) ∧ RdT b p q t ∧ R a t
 er : ∀ a e, x = .inl (a, e) → ErP b a e
theorem z1h {α β : Type} {b : List UInt8} {p : Nat} {x : PR α} {f : α → Int → PR β} {R : α → List UInt8 → Prop} {R3 : β → List UInt8 → Prop} (h : GoodP b p x R) (hf : ∀ a (q : Nat) t, RdT b p q t → R a t → GoodP b q (f a (q : Int)) (fun r t2 => R3 r (t ++ t2))) : GoodP b p (bnd x f) R3 := by
 constructor
 ·intro r e hr
  cases x with
  | inl y => cases hr
  | inr y =>
   obtain ⟨a, p1⟩ := y
   obtain ⟨q, t, rfl, h1, h2⟩ := h.ok a p1 rfl
   obtain ⟨q2, t2, h3, h4, h5⟩ := (hf a q t h1 h2).ok r e hr
   exact ⟨q2, t ++ t2, h3, h1.trans h4, h5⟩
 ·intro a1 e hr
  cases x with
  | inl y =>
   obtain ⟨y1, y2⟩ := y
   cases hr
   exact h.er _ _ rfl
  | inr y =>
   obtain ⟨a, p1⟩ := y
   obtain ⟨q, t, rfl, h1, h2⟩ := h.ok a p1 rfl
   exact (hf a q t h1 h2).er a1 e hr
theorem z9w {α : Type} {b : List UInt8} {p : Nat} {a : α} {R : α → List UInt8 → Prop} (hp : p ≤ b.length) (h : R a []) : GoodP b p (.inr (a, (p : Int))) R :=
 ⟨fun x e hx => by cases hx; exact ⟨p, [], rfl, ⟨hp, rfl⟩, h⟩, fun x e hx => by cases hx⟩
theorem zb5 {α : Type} {b : List UInt8} {p : Nat} {x : PR α} {R R' : α → List UInt8 → Prop} (h : GoodP b p x R) (hr : ∀ a t, R a t → R' a t) : GoodP b p x R' :=
 ⟨fun a e hx => by obtain ⟨q, t, h1, h2, h3⟩ := h.ok a e hx; exact ⟨q, t, h1, h2, hr a t h3⟩, h.er⟩
theorem z1i {b s : List UInt8} {p : Nat} (hp : p ≤ b.length) : GoodP b p (wordP b s (p : Int)) (fun _ t => t = s) := by
 unfold wordP
 constructor
 ·intro a e h
  split at h
  ·rename_i h1
   obtain ⟨i1, i2, i3⟩ := z83 h1
   simp only [Sum.inr.injEq, Prod.mk.injEq] at h
   exact ⟨p + s.length, s, by rw [← h.2, i2], ⟨i1, i3⟩, rfl⟩
  ·cases h
 ·intro a e h
  split at h
  ·cases h
  ·simp only [Sum.inl.injEq, Prod.mk.injEq] at h
   exact ⟨by omega, by omega, .inl (by omega)⟩
theorem z2r {b : List UInt8} {p : Nat} {most : Int} (hp : p ≤ b.length) : GoodP b p (numP b most (p : Int)) (fun x t => t = tItoa x ∧ 0 ≤ x ∧ x ≤ most) := by
 unfold numP
 constructor
 ·intro a e h
  split at h
  ·cases h
  ·rename_i h1
   have h1 : (numR b (p : Int) most).2.2 = 0 := Decidable.not_not.1 h1
   simp only [Sum.inr.injEq, Prod.mk.injEq] at h
   obtain ⟨u, q, i1, i2, i3, i4, i5, i6, i7⟩ := zdd (v := (numR b (p : Int) most).1) (nx := (numR b (p : Int) most).2.1) (by rw [← h1])
   refine ⟨q, tItoa a, by rw [← h.2, i2], ⟨i4, ?_⟩, rfl, by omega, by omega⟩
   rw [← h.1, i1, i7, show tItoa (u : Int) = decDigits u from itoa_nonneg u]
 ·intro a e h
  split at h
  ·rename_i h1
   simp only [Sum.inl.injEq, Prod.mk.injEq] at h
   refine ⟨by omega, by omega, ?_⟩
   have := zmd b (p : Int) most
   omega
  ·cases h
theorem RdT.len {b t : List UInt8} {p q : Nat} (h : RdT b p q t) (hp : p ≤ b.length) : q = p + t.length := by
 have := congrArg List.length h.2
 rw [List.length_drop, List.length_append, List.length_drop] at this
 have := h.1
 omega
theorem zn0 {b : List UInt8} {p : Nat} {v : Int} (hp : p ≤ b.length) : GoodP b p (gateP b v (p : Int)) (fun g t => t = gateT g ∧ 0 ≤ g.2 ∧ g.2 ≤ g.1 ∧ g.1 < 2 * v) := by
 refine z1h (z2r hp) fun x q t hq ⟨ht, x0, x1⟩ => ?_
 subst ht
 refine z1h (z1i hq.1) fun _ q2 t2 hq2 ht2 => ?_
 subst ht2
 refine z1h (z2r hq2.1) fun y q3 t3 hq3 ⟨ht3, y0, y1⟩ => ?_
 subst ht3
 refine z1h (z1i hq3.1) fun _ q4 t4 hq4 ht4 => ?_
 subst ht4
 refine z9w hq4.1 ⟨?_, y0, y1, by simp only; omega⟩
 unfold gateT
 simp [List.append_assoc]
theorem z6t {b : List UInt8} {v : Int} : ∀ (k : Nat) (out : List P2) (p : Nat), p ≤ b.length → GoodP b p (z3j b v k (p : Int) out) (fun g t => ∃ h, g = out ++ h ∧ h.length = k ∧ t = h.flatMap gateT ∧ gatOk (v + 1 + out.length) h = true)
 | 0, out, p, hp => z9w hp ⟨[], by simp, rfl, rfl, rfl⟩
 | k + 1, out, p, hp => by
  refine z1h (zn0 hp) fun g q t hq ⟨ht, g1⟩ => ?_
  subst ht
  refine zb5 (z6t k (out ++ [g]) q hq.1) fun r t2 ⟨h, e1, e2, e3, e4⟩ => ?_
  rw [List.length_append, List.length_singleton, show v + 1 + ((out.length + 1 : Nat) : Int) = v + 1 + out.length + 1 by omega] at e4
  refine ⟨g :: h, by rw [e1, List.append_assoc]; rfl, by rw [List.length_cons, e2], by rw [List.flatMap_cons, e3], ?_⟩
  rw [gatOk, e4, Bool.and_true]
  exact decide_eq_true g1
theorem zaa {b : List UInt8} {n : Int} {p : Nat} (hn : 0 ≤ n) (hp : p ≤ b.length) : GoodP b p (stepP b n (p : Int)) (fun s t => t = stepT s ∧ (∀ x ∈ s.2.1, litOk n x) ∧ s.2.1.length ≤ 1000) := by
 obtain ⟨q, hq, hpq, hqb⟩ := zp1 b p hp sDel
 have hd : RdT b p q (delT (isAt b (p : Int) sDel)) := by
  cases hi : isAt b (p : Int) sDel with
  | true =>
   obtain ⟨i1, i2, i3⟩ := z83 hi
   obtain rfl : q = p + sDel.length := by omega
   exact ⟨i1, i3⟩
  | false =>
   have : isTo b (p : Int) sDel = p := by
    have hi2 := hi
    unfold isAt at hi2
    rw [decide_eq_true (show (0 : Int) ≤ p ∧ (p : Int) ≤ b.length by omega), Bool.true_and] at hi2
    rw [isTo, if_neg (fun hh => hh (by omega)), if_neg (by rw [hi2]; decide)]
   obtain rfl : q = p := by omega
   exact ⟨hp, rfl⟩
 unfold stepP
 rw [hq]
 constructor
 ·intro s e h
  cases hc : clR b n (b.length + 1) (q : Int) [] with
  | inl y => rw [hc] at h; cases h
  | inr y =>
   obtain ⟨c, e2⟩ := y
   rw [hc] at h
   simp only [bnd, Sum.inr.injEq, Prod.mk.injEq] at h
   obtain ⟨rfl, rfl⟩ := h
   obtain ⟨c2, q2, j1, j2, j3, j4, j5, j6⟩ := znp hn hc (by simp)
   rw [List.nil_append] at j1
   subst j1
   refine ⟨q2, delT (isAt b (p : Int) sDel) ++ (litsT c ++ [48, 10]), j2, hd.trans ⟨j3, by rw [j6]; simp⟩, by simp [stepT], j4, j5⟩
 ·intro a e h
  cases hc : clR b n (b.length + 1) (q : Int) [] with
  | inr y => rw [hc] at h; cases h
  | inl y =>
   obtain ⟨a1, e1⟩ := y
   rw [hc] at h
   simp only [bnd, Sum.inl.injEq, Prod.mk.injEq] at h
   obtain ⟨rfl, rfl⟩ := h
   have h1 := znq hqb hc
   exact ⟨h1.1, h1.2.1, zpv hc⟩
theorem z8j {b : List UInt8} {n : Int} (hn : 0 ≤ n) : ∀ (k : Nat) (out : List Sp) (p : Nat), p ≤ b.length → GoodP b p (z4v b n k (p : Int) out) (fun l t => ∃ h, l = out ++ h ∧ h.length = k ∧ t = z1j h ∧ ∀ s ∈ h, (∀ x ∈ s.2.1, litOk n x) ∧ s.2.1.length ≤ 1000)
 | 0, out, p, hp => z9w hp ⟨[], by simp, rfl, rfl, fun s hs => by cases hs⟩
 | k + 1, out, p, hp => by
  refine z1h (zaa hn hp) fun s q t hq ⟨ht, s1⟩ => ?_
  subst ht
  refine zb5 (z8j hn k (out ++ [s]) q hq.1) fun r t2 ⟨h, e1, e2, e3, e4⟩ => ?_
  refine ⟨s :: h, by rw [e1, List.append_assoc]; rfl, by rw [List.length_cons, e2], by rw [e3]; rfl, fun x hx => ?_⟩
  rcases List.mem_cons.1 hx with rfl | hx
  ·exact s1
  ·exact e4 x hx
theorem z36 {b : List UInt8} {n : Int} {p : Nat} (hn : 0 ≤ n ∧ n ≤ 100000) (hp : p ≤ b.length) : GoodP b p (z1v b n (p : Int)) (fun l t => t = prT l ∧ z34 n l = true) := by
 refine z1h (z1i hp) fun _ q1 t1 h1 e1 => ?_
 subst e1
 refine z1h (z2r h1.1) fun m q2 t2 h2 ⟨e2, m0, m1⟩ => ?_
 subst e2
 refine z1h (z1i h2.1) fun _ q3 t3 h3 e3 => ?_
 subst e3
 refine zb5 (z8j hn.1 m.toNat [] q3 h3.1) fun l t4 ⟨h, e1, e2, e3, e4⟩ => ?_
 rw [List.nil_append] at e1
 subst e1
 refine ⟨?_, zc8.2 ⟨⟨hn.1, hn.2, by omega⟩, e4⟩⟩
 unfold prT
 rw [e3, e2, show ((m.toNat : Nat) : Int) = m by omega]
 simp [List.append_assoc]
theorem zns {a : Ag} (ha : RightA a) {b : List UInt8} : (∀ c e, certP a b = .inr (c, e) → e = b.length ∧ b = certT c ∧ z3s a c = true) ∧ (∀ x e, certP a b = .inl (x, e) → ErP b x e) := by
 unfold certP
 by_cases hb : 100000 < b.length
 ·rw [if_pos hb]
  refine ⟨fun c e h => (by cases h), fun x e h => ?_⟩
  simp only [Sum.inl.injEq, Prod.mk.injEq] at h
  exact ⟨by omega, by omega, .inr h.2.symm⟩
 rw [if_neg hb]
 have hv := ha.v1
 have hv0 : 0 ≤ varsA a := by
  have := ha.i0
  unfold varsA
  omega
 have hG : GoodP b 0 (bodyP a b) (fun c t => t = certT c ∧ z3s a c = true ∧ t.length = b.length) := by
  unfold bodyP
  rw [show (0 : Int) = ((0 : Nat) : Int) from rfl]
  refine z1h (z1i (Nat.zero_le _)) fun _ q1 t1 h1 e1 => ?_
  have l1 := h1.len (Nat.zero_le _)
  refine z1h (z2r h1.1) fun m q2 t2 h2 ⟨e2, m0, m1⟩ => ?_
  have l2 := h2.len h1.1
  refine z1h (z1i h2.1) fun _ q3 t3 h3 e3 => ?_
  have l3 := h3.len h2.1
  refine z1h (z2r h3.1) fun inv q4 t4 h4 ⟨e4, i0, i1⟩ => ?_
  have l4 := h4.len h3.1
  refine z1h (z1i h4.1) fun _ q5 t5 h5 e5 => ?_
  have l5 := h5.len h4.1
  refine z1h (z6t m.toNat [] q5 h5.1) fun g q6 t6 h6 ⟨h, e6, e7, e8, e9⟩ => ?_
  have l6 := h6.len h5.1
  rw [List.nil_append] at e6
  subst e6
  rw [List.length_nil] at e9
  have hml : (g.length : Int) = m := by omega
  by_cases hh : z2y { a with g := a.g ++ g } inv = true
  ·rw [if_pos hh]
   have := h3.1
   exact ⟨fun c e h => (by cases h), fun x e h => by
    simp only [Sum.inl.injEq, Prod.mk.injEq] at h
    exact ⟨by omega, by omega, .inl h.2.symm⟩⟩
  rw [if_neg hh]
  rw [Bool.not_eq_true] at hh
  unfold restP
  refine z1h (z36 ⟨by omega, by omega⟩ h6.1) fun x q7 t7 h7 ⟨f7, r7⟩ => ?_
  have l7 := h7.len h6.1
  refine z1h (z36 ⟨by omega, by omega⟩ h7.1) fun y q8 t8 h8 ⟨f8, r8⟩ => ?_
  have l8 := h8.len h7.1
  refine z1h (z36 ⟨by omega, by omega⟩ h8.1) fun z q9 t9 h9 ⟨f9, r9⟩ => ?_
  have l9 := h9.len h8.1
  have h9b := h9.1
  by_cases hlt : (q9 : Int) < b.length
  ·rw [if_pos hlt]
   exact ⟨fun c e h => (by cases h), fun x e h => by
    simp only [Sum.inl.injEq, Prod.mk.injEq] at h
    exact ⟨by omega, by omega, .inl h.2.symm⟩⟩
  rw [if_neg hlt]
  refine z9w h9.1 ⟨?_, ?_, ?_⟩
  ·unfold certT
   simp only
   rw [hml, ← e2, ← e4, ← e8, ← f7, ← f8, ← f9, e1, e3, e5]
   simp [List.append_assoc]
  ·have hgr := z5u (a := a) (c := ⟨g, inv, x, y, z⟩) ha (by simp only; omega) (by simpa using e9)
   have hvg : varsA (zu a ⟨g, inv, x, y, z⟩) = varsA a + g.length := z2i _ _
   refine z40.2 ⟨by simp only; omega, z13.2 hgr, ⟨i0, by rw [hvg]; simp only; omega⟩, hh, ?_, ?_, ?_⟩
   ·rw [hvg]
    exact r7
   ·rw [hvg]
    exact r8
   ·rw [hvg]
    exact r9
  ·simp only [List.length_append, List.length_nil]
   omega
 constructor
 ·intro c e h
  obtain ⟨q, t, h1, h2, h3, h4, h5⟩ := hG.ok c e h
  have hl := h2.len (Nat.zero_le _)
  obtain rfl : q = b.length := by omega
  refine ⟨h1, ?_, h4⟩
  have := h2.2
  rw [List.drop_zero, List.drop_length, List.append_nil] at this
  rw [this, h3]
 ·exact hG.er
end Go.Proofs.YtkemmijjpclckaaGreatDoor
namespace Go.Proofs.YtkemmijjpclckaaGreatDoor
open Go Ab Go.RowKit
@[reducible] def nm (l : List Nm) (i : Nat) : Nm := l.getD i (0, 0, [])
def prevN (l : List Nm) (i : Nat) : Option Nm := if i = 0 then none else some (nm l (i - 1))
theorem zqa {l : List Nm} {i : Nat} (h : i < l.length) : l.drop i = nm l i :: l.drop (i + 1) := by
 rw [List.drop_eq_getElem_cons h]
 congr 1
 simp [nm, h]
theorem zjq (l : List Nm) (i : Nat) : prevN l (i + 1) = some (nm l i) := by
 unfold prevN
 rw [if_neg (by omega), Nat.add_sub_cancel]
theorem zib (a : Ag) {l : List Nm} {i : Nat} (h : i < l.length) : nmsOk a (prevN l i) (l.drop i) = ((decide (0 ≤ (nm l i).2.1 ∧ (nm l i).2.1 < manyN a (kindN (nm l i).1)) && z61 (nm l i).2.2) && (decide (i = 0) || behB (nm l (i - 1)) (nm l i)) && nmsOk a (prevN l (i + 1)) (l.drop (i + 1))) := by
 rw [zqa h, zjq]
 unfold prevN
 by_cases h0 : i = 0
 ·rw [if_pos h0, decide_eq_true h0]
  rfl
 ·rw [if_neg h0, decide_eq_false h0]
  rfl
theorem zhu (a : Ag) (hl : a.names.length ≤ 1000000) (hs : ∀ x ∈ a.names, x.2.2.length ≤ 1000000) : ACall Tryz.prog 92 [.d (eAg a)] [] (fun r o => r = vB (nmsOk a none a.names && decide (a.names.length ≤ 2000))) := by
 refine z8 Tryz.func92 rfl rfl (Nat.le_of_ble_eq_true rfl) fun C hC hCl hDs hGk => ?_
 refine za tabOk Tryz.func92 rfl trivial ?_
 refine zj (α := Nat) (fun i => [(1, .ptr 0 0), (6, .d (eNms a.names)), (7, vI .i64 (a.names.length : Int)), (8, vI .i64 (i : Int))]) (fun i => [some (bAg a)]) (fun i => i ≤ a.names.length ∧ nmsOk a none a.names = nmsOk a (prevN a.names i) (a.names.drop i)) (fun i => a.names.length - i) 0 ⟨Nat.zero_le _, rfl⟩ ?_ ?_
 ·exact fun h => zg h hC hCl ⟨⟨_, rfl, .refl _⟩, ⟨_, rfl, .refl _⟩, ⟨_, rfl, .of (by rw [List.length_map])⟩, ⟨_, rfl, .refl _⟩, trivial⟩ ⟨.refl _, trivial⟩ rfl rfl (Nat.zero_le _)
 rintro i ⟨hi, hN⟩ ih
 refine z6 tabOk Tryz.func92 rfl trivial (fun hb => ?_) (fun hb => ?_)
 rotate_left
 ·have hb : decide ((i : Int) < (a.names.length : Int)) = false := hb
  rw [decide_eq_false_iff_not] at hb
  obtain rfl : i = a.names.length := by omega
  refine z7 tabOk Tryz.func92 rfl trivial ?_
  rw [hN, List.drop_length]
  show vB (decide ((((a.names.map eNm).length : Nat) : Int) ≤ 2000)) = vB (true && _)
  rw [Bool.true_and, List.length_map]
  congr 2
  rw [eq_iff_iff]
  omega
 have hb : decide ((i : Int) < (a.names.length : Int)) = true := hb
 rw [decide_eq_true_eq] at hb
 have hlt : i < a.names.length := by omega
 have hst := zib a hlt
 have hsx : (nm a.names i).2.2.length ≤ 1000000 := hs _ (by rw [show nm a.names i = a.names[i] by simp [nm, hlt]]; exact List.getElem_mem hlt)
 rw [← hN] at hst
 have ih := fun h => ih (i + 1) ⟨by omega, h⟩ (by omega)
 have hw : IntKind.i64.wrap ((i : Int) + 1) = ((i + 1 : Nat) : Int) := by rw [zb (by omega) (by omega)]; omega
 have hxx : a.names.getD i (0, 0, []) = nm a.names i := rfl
 refine zh 12 tabOk Tryz.func92 rfl (by simp only [andP, and_true, true_and, Int.toNat_natCast, List.length_map, List.length_append, List.length_cons, List.length_nil, List.length_replicate]; omega) ?_
 refine zg (env' := [(1, .ptr 0 0), (6, .d (eNms a.names)), (7, vI .i64 (a.names.length : Int)), (8, vI .i64 (i : Int)), (3, vI .i64 (i : Int)), (4, .ptr 1 0)]) (objs' := [some (bAg a), some (bNm (nm a.names i))]) ?_ hC hCl ⟨⟨_, rfl, .refl _⟩, ⟨_, rfl, .refl _⟩, ⟨_, rfl, .refl _⟩, ⟨_, rfl, .refl _⟩, ⟨_, rfl, .refl _⟩, ⟨_, rfl, .refl _⟩, trivial⟩ ⟨.refl _, .refl _, trivial⟩ rfl rfl (Nat.zero_le _)
 have hgi : i ≠ 0 → a.names.getD (IntKind.i64.wrap ((i : Int) - 1)).toNat (0, 0, []) = nm a.names (i - 1) := fun h0 => by
  rw [zb (by omega) (by omega), show ((i : Int) - 1).toNat = i - 1 by omega]
 have hnd : i ≠ 0 → (0 ≤ IntKind.i64.wrap ((i : Int) - 1) ∧ IntKind.i64.wrap ((i : Int) - 1) < (((a.names.map eNm).length : Nat) : Int)) := fun h0 => by
  rw [zb (by omega) (by omega), List.length_map]
  omega
 generalize hx : nm a.names i = x at *
 refine zn 29 tabOk Tryz.func92 rfl rfl trivial (by kernel_rfl) ?_
 refine z14 tabOk rfl trivial (fun h1 => ?_) (fun h1 => ?_)
 ·have h1 : decide (x.2.1 < 0) = true := h1
  rw [decide_eq_true_eq] at h1
  rw [decide_eq_false (fun h => by omega)] at hst
  repeat refine z14 tabOk rfl trivial (fun _ => ?_) (fun h => by cases h)
  refine zo tabOk rfl trivial ?_
  repeat refine z6 tabOk Tryz.func92 rfl trivial (fun _ => ?_) (fun h => by cases h)
  refine z7 tabOk Tryz.func92 rfl trivial ?_
  rw [hst]
  rfl
 have h1 : decide (x.2.1 < 0) = false := h1
 rw [decide_eq_false_iff_not] at h1
 refine zx tabOk rfl trivial (zkq a x.1) (zf Tryz.func132 rfl rfl) (by rintro r o rfl; rfl) (.refl _) rfl rfl ⟨_, rfl⟩ ?_
 refine z14 tabOk rfl trivial (fun h2 => ?_) (fun h2 => ?_)
 ·have h2 : decide (x.2.1 ≥ manyN a (kindN x.1)) = true := h2
  rw [decide_eq_true_eq] at h2
  rw [decide_eq_false (fun h => by omega)] at hst
  repeat refine z14 tabOk rfl trivial (fun _ => ?_) (fun h => by cases h)
  refine zo tabOk rfl trivial ?_
  repeat refine z6 tabOk Tryz.func92 rfl trivial (fun _ => ?_) (fun h => by cases h)
  refine z7 tabOk Tryz.func92 rfl trivial ?_
  rw [hst]
  rfl
 have h2 : decide (x.2.1 ≥ manyN a (kindN x.1)) = false := h2
 rw [decide_eq_false_iff_not] at h2
 rw [decide_eq_true (by omega), Bool.true_and] at hst
 refine zx tabOk rfl trivial (zhx x.2.2 hsx) (zf Tryz.func133 rfl rfl) (by rintro r o rfl; rfl) (.refl _) rfl rfl ⟨_, rfl⟩ ?_
 cases hok : z61 x.2.2 with
 | false =>
  rw [hok] at hst
  repeat refine z14 tabOk rfl trivial (fun _ => ?_) (fun h => by cases h)
  refine zo tabOk rfl trivial ?_
  repeat refine z6 tabOk Tryz.func92 rfl trivial (fun _ => ?_) (fun h => by cases h)
  refine z7 tabOk Tryz.func92 rfl trivial ?_
  rw [hst]
  rfl
 | true =>
 rw [hok, Bool.true_and] at hst
 refine z14 tabOk rfl trivial (fun h => by cases h) (fun _ => ?_)
 refine z14 tabOk rfl trivial (fun h3 => ?_) (fun h3 => ?_)
 rotate_left
 ·have h3 : decide ((i : Int) > 0) = false := h3
  rw [decide_eq_false_iff_not] at h3
  obtain rfl : i = 0 := by omega
  rw [decide_eq_true rfl, Bool.true_or, Bool.true_and] at hst
  refine zo tabOk rfl trivial ?_
  refine z6 tabOk Tryz.func92 rfl trivial (fun h => by cases h) (fun _ => ?_)
  refine za tabOk Tryz.func92 rfl trivial ?_
  exact zg (ih hst) hC hCl ⟨⟨_, rfl, .refl _⟩, ⟨_, rfl, .refl _⟩, ⟨_, rfl, .refl _⟩, ⟨_, rfl, .of (by rw [zb (by omega) (by omega)]; rfl)⟩, trivial⟩ ⟨.refl _, trivial⟩ rfl rfl (Nat.zero_le _)
 have h3 : decide ((i : Int) > 0) = true := h3
 rw [decide_eq_true_eq] at h3
 rw [decide_eq_false (by omega), Bool.false_or] at hst
 refine zo tabOk rfl ⟨hnd (by omega), trivial⟩ ?_
 refine ze tabOk Tryz.func92 rfl trivial (zg9 (nm a.names (i - 1)) x) ⟨.of ?_, .refl _, trivial⟩ rfl ⟨_, rfl⟩ (by rintro r o rfl; rfl) ?_
 ·show AV.d (eNm (a.names.getD (IntKind.i64.wrap ((i : Int) - 1)).toNat (0, 0, []))) = _
  rw [hgi (by omega)]
 rintro _ o rfl
 cases hbh : behB (nm a.names (i - 1)) x with
 | false =>
  rw [hbh] at hst
  repeat refine z6 tabOk Tryz.func92 rfl trivial (fun _ => ?_) (fun h => by cases h)
  refine z7 tabOk Tryz.func92 rfl trivial ?_
  rw [hst]
  rfl
 | true =>
  rw [hbh, Bool.true_and] at hst
  refine z6 tabOk Tryz.func92 rfl trivial (fun h => by cases h) (fun _ => ?_)
  refine za tabOk Tryz.func92 rfl trivial ?_
  exact zg (ih hst) hC hCl ⟨⟨_, rfl, .refl _⟩, ⟨_, rfl, .refl _⟩, ⟨_, rfl, .refl _⟩, ⟨_, rfl, .of (by rw [zb (by omega) (by omega)]; rfl)⟩, trivial⟩ ⟨.refl _, trivial⟩ rfl rfl (Nat.zero_le _)
theorem zhq (n : Nat) (h1 : 1 ≤ n) (hn : n ≤ 1000000) (rd : Nat → D) : ACall Tryz.prog 143 [.d (.v (.slice none 0 0)), vI .i64 (n : Int)] [] (fun r o => r = .gs 0 ∧ o = [some (.grow 24 1 [] rd)]) := by
 intro X π w us hgk m hv
 refine .inl ⟨zf Tryz.func143 rfl rfl _ _, ?_⟩
 cases hv with | cons hv ht => cases ht with | cons hv2 ht => cases ht with | nil =>
 cases hv with | d hv => cases hv with | v _ =>
 cases hv2 with | d hv2 => cases hv2 with | v _ =>
 obtain rfl : π = [] := List.length_eq_zero_iff.1 m.len
 obtain ⟨i0, hi0, hz0, hs0, hb0⟩ : ∃ i0, Tryz.prog.info? (Tryz.growCL_ren.t 25) = some i0 ∧ i0.zero = some (Value.slice none 0 0) ∧ i0.size = 1 ∧ i0.bytes = 24 := by
  have h : (Tryz.prog.info? (Tryz.growCL_ren.t 25)).map (fun i => (i.zero, i.size, i.bytes)) = some (some (Value.slice none 0 0), 1, 24) := by kernel_rfl
  cases hi : Tryz.prog.info? (Tryz.growCL_ren.t 25) with
  | none => rw [hi] at h; cases h
  | some i =>
   rw [hi] at h
   simp only [Option.map_some, Option.some.injEq, Prod.mk.injEq] at h
   exact ⟨i, rfl, h.1, h.2.1, h.2.2⟩
 have hcall := Any8.slices_Grow_grow Tryz.growCL i0 (Value.slice none 0 0) hi0 hz0 (by omega) none 0 0 n [] w (Nat.le_refl _) (by omega) (by rw [hb0]; omega) (by omega) (by simp) (fun _ => rfl) (fun a e => by cases e)
 refine Calls.mono hcall ?_
 rintro e w' ⟨rfl, rfl⟩
 have hG1 := grownCap_ge w (0 + n) 0 (Tryz.growCL_ren.t 25)
 have hG2 := grownCap_le_maxLen w (0 + n) 0 (Tryz.growCL_ren.t 25) (by have hml : maxLen = 9223372036854775807 := rfl; omega)
 generalize grownCap w (0 + n) 0 (Tryz.growCL_ren.t 25) = G at *
 obtain ⟨c, rfl⟩ : ∃ c, G = c + 1 := ⟨G - 1, by omega⟩
 generalize hA : (#[] ++ Builtin.zeroCells (Value.slice none 0 0).cells (0 + n - 0) ++ Builtin.zeroCells (Value.slice none 0 0).cells (c + 1 - (0 + n)) : Array Value) = A
 have hAs : A.size = (c + 1) * 1 := by
  rw [← hA]
  simp only [Array.size_append, z26]
  show 0 + (0 + n - 0) * 1 + (c + 1 - (0 + n)) * 1 = (c + 1) * 1
  omega
 obtain ⟨A⟩ := A
 have hAs : A.length = (c + 1) * 1 := hAs
 have hnew : (w.drew.alloc (.cells A.toArray (Tryz.growCL_ren.t 25))).heap[w.heap.size]? = some (.cells A.toArray 24 (0, 0)) := by
  show (w.heap.push _)[w.heap.size]? = _
  simp
  rfl
 have t := z2m (w' := w.drew.alloc (.cells A.toArray (Tryz.growCL_ren.t 25))) m rfl rfl ⟨rfl, zv (Nat.le_succ _)⟩ (by show w.heap.size ≤ (w.heap.push _).size; simp) (fun b hb => z15 _ hb) (.slice (some ⟨w.heap.size, 0, none⟩) 0 (c + 1)) (.grow 24 1 [] rd)
  (by intro b e; cases e; exact Nat.le_refl _)
  (.grow (xs := []) (us := []) hnew (fun i _ h => by omega) .nil (fun i h => absurd h (Nat.not_lt_zero i)) (Nat.zero_le _) hG2 (by rw [hAs]; omega) (fun i h => absurd h (Nat.not_lt_zero i)))
 exact ⟨_, _, _, _, rfl, ⟨rfl, rfl⟩, t.mem, .gs rfl, t.hist⟩
theorem zg3 : ACall Tryz.prog 143 [.d (.v (.slice none 0 0)), vI .i64 0] [] (fun r o => r = .d (.v (.slice none 0 0))) :=
 z3n (fun _ _ => Nat.le_refl _) rfl (vs := [.slice none 0 0, .int .i64 0]) (fun w ok π us h => by
  cases h with | cons h1 h => cases h with | cons h2 h => cases h with | nil =>
  cases h1 with | d h1 => cases h1 with | v _ => cases h2 with | d h2 => cases h2 with | v _ => rfl) (fun args w => zf Tryz.func143 rfl rfl args w) fun w ht => (Any8.slices_Grow_room Tryz.growCL none 0 0 0 w (Nat.le_refl _) (by omega) (by omega) (by omega)).mono fun e w' ⟨he, hw⟩ => ⟨he, hw ▸ ⟨rfl, rfl, rfl, Nat.le_refl _, fun b hb => rfl⟩⟩
@[reducible] def cCEs (l : List (List Int)) : D := eL 1 eIs [] l
@[reducible] def cCEss (l : List (List (List Int))) : D := eL 1 cCEs [] l
theorem z91 (L : List (List (List Int))) (hLl : L.length ≤ 5) (hrow : ∀ r ∈ L, r.length ≤ 100000) : ACall Tryz.prog 106 [.d (cCEss L)] [] (fun r o => r = .d (cCEs L.flatten)) := by
 refine z8 Tryz.func106 rfl rfl (Nat.le_of_ble_eq_true rfl) fun C hC hCl hDs hGk => ?_
 refine za tabOk Tryz.func106 rfl trivial ?_
 have rows : ∀ i : Nat, i < L.length → (L.getD i []).length ≤ 100000 := fun i hi => by
  rw [show L.getD i [] = L[i] by simp [hi]]
  exact hrow _ (List.getElem_mem hi)
 have hsum : ∀ i : Nat, i < L.length → (L.take (i + 1)).flatten = (L.take i).flatten ++ L.getD i [] := fun i hi => by
  rw [List.take_succ_eq_append_getElem hi, List.flatten_append, show L.getD i [] = L[i] by simp [hi]]
  simp
 have hle : ∀ i : Nat, i ≤ L.length → (L.take i).flatten.length ≤ 100000 * i := by
  intro i
  induction i with
  | zero => simp
  | succ i ih =>
   intro hi
   rw [hsum i (by omega), List.length_append]
   have h1 := rows i (by omega)
   have h2 := ih (by omega)
   omega
 refine zj (α := Nat) (fun i => [(0, .d (cCEss L)), (9, .d (cCEss L)), (10, vI .i64 (L.length : Int)), (11, vI .i64 (i : Int)), (3, vI .i64 (((L.take i).flatten.length : Nat) : Int))]) (fun i => []) (fun i => i ≤ L.length) (fun i => L.length - i) 0 (Nat.zero_le _) ?_ ?_
 ·exact fun h => zg h hC hCl ⟨⟨_, rfl, .refl _⟩, ⟨_, rfl, .refl _⟩, ⟨_, rfl, .of (by rw [List.length_map])⟩, ⟨_, rfl, .refl _⟩, ⟨_, rfl, .of (by simp)⟩, trivial⟩ trivial rfl rfl (Nat.zero_le _)
 rintro i hi ih
 refine z6 tabOk Tryz.func106 rfl trivial (fun h => ?_) (fun h => ?_)
 ·have h : decide ((i : Int) < (L.length : Int)) = true := h
  rw [decide_eq_true_eq] at h
  have h1 := rows i (by omega)
  have h2 := hsum i (by omega)
  have h3 := hle i hi
  have hw : IntKind.i64.wrap ((((L.take i).flatten.length : Nat) : Int) + ((((L.getD i []).map eIs).length : Nat) : Int)) = (((L.take (i + 1)).flatten.length : Nat) : Int) := by
   rw [h2, List.length_append, List.length_map, zb (by omega) (by omega)]
   omega
  refine z6 tabOk Tryz.func106 rfl ?nd (fun h4 => ?_) (fun h4 => ?_)
  case nd => exact ⟨⟨by omega, by rw [List.length_map]; omega⟩, trivial⟩
  ·have h4 : decide (IntKind.i64.wrap ((((L.take i).flatten.length : Nat) : Int) + ((((L.getD i []).map eIs).length : Nat) : Int)) < 0) = true := h4
   rw [hw, decide_eq_true_eq] at h4
   omega
  refine za tabOk Tryz.func106 rfl trivial ?_
  exact zg (ih (i + 1) (by omega) (by omega)) hC hCl ⟨⟨_, rfl, .refl _⟩, ⟨_, rfl, .refl _⟩, ⟨_, rfl, .refl _⟩, ⟨_, rfl, .of (by rw [zb (by omega) (by omega)]; rfl)⟩, ⟨_, rfl, .of (by rw [← hw]; rfl)⟩, trivial⟩ trivial rfl rfl (Nat.zero_le _)
 have h : decide ((i : Int) < (L.length : Int)) = false := h
 rw [decide_eq_false_iff_not] at h
 obtain rfl : i = L.length := by omega
 have hf : (L.take L.length).flatten = L.flatten := by rw [List.take_length]
 have hT := hle L.length (Nat.le_refl _)
 apply letK (p := ASat Tryz.prog 106 Tryz.f106.ntmps C _ [(25, .d (cCEss L)), (26, vI .i64 (L.length : Int)), (27, vI .i64 0), (6, .gs 0)] [some (.grow 24 1 (([] : List (List Int)).map eIs) (fun i => eIs (([] : List (List Int)).getD i [])))] (fun r o => r = .d (cCEs L.flatten)))
 ·intro key
  by_cases hz : (L.take L.length).flatten.length = 0
  ·refine ze tabOk Tryz.func106 rfl trivial zg3 ⟨.refl _, .of (by rw [hz]; rfl), trivial⟩ rfl ⟨_, rfl⟩ (by rintro r o rfl; rfl) ?_
   rintro _ o rfl
   refine za tabOk Tryz.func106 rfl trivial ?_
   refine z3r (t := 6) (e := 24) (s := 1) (.inl rfl) (fun i => eIs (([] : List (List Int)).getD i [])) ?_
   exact zg key hC hCl ⟨⟨_, rfl, .refl _⟩, ⟨_, rfl, .of (by rw [List.length_map])⟩, ⟨_, rfl, .refl _⟩, ⟨_, rfl, .refl _⟩, trivial⟩ ⟨.refl _, trivial⟩ rfl rfl (Nat.zero_le _)
  ·refine zm [] tabOk Tryz.func106 rfl trivial (zhq (L.take L.length).flatten.length (by omega) (by omega) (fun i => eIs (([] : List (List Int)).getD i []))) trivial (.refl _) rfl rfl rfl ⟨_, rfl⟩ ?_
   rintro _ o ⟨rfl, rfl⟩
   refine za tabOk Tryz.func106 rfl trivial ?_
   exact zg key hC hCl ⟨⟨_, rfl, .refl _⟩, ⟨_, rfl, .of (by rw [List.length_map])⟩, ⟨_, rfl, .refl _⟩, ⟨_, rfl, .refl _⟩, trivial⟩ ⟨.refl _, trivial⟩ rfl rfl (Nat.zero_le _)
 refine zj (α := Nat) (fun i => [(25, .d (cCEss L)), (26, vI .i64 (L.length : Int)), (27, vI .i64 (i : Int)), (6, .gs 0)]) (fun i => [some (.grow 24 1 ((L.take i).flatten.map eIs) (fun j => eIs ((L.take i).flatten.getD j [])))]) (fun i => i ≤ L.length) (fun i => L.length - i) 0 (Nat.zero_le _) ?_ ?_
 ·exact fun h => zg h hC hCl ⟨⟨_, rfl, .refl _⟩, ⟨_, rfl, .refl _⟩, ⟨_, rfl, .refl _⟩, ⟨_, rfl, .refl _⟩, trivial⟩ ⟨.of (by simp), trivial⟩ rfl rfl (Nat.zero_le _)
 rintro i hi ih
 refine z6 tabOk Tryz.func106 rfl trivial (fun h => ?_) (fun h => ?_)
 ·have h : decide ((i : Int) < (L.length : Int)) = true := h
  rw [decide_eq_true_eq] at h
  have h1 := rows i (by omega)
  have h2 := hsum i (by omega)
  have h3 := hle i hi
  refine za tabOk Tryz.func106 rfl ?nd ?_
  case nd =>
   refine ⟨?_, ⟨by omega, by rw [List.length_map]; omega⟩, trivial⟩
   rw [List.length_map, List.length_map, Int.toNat_natCast]
   show ((L.take i).flatten.length + (L.getD i []).length) * 24 ≤ _
   omega
  refine zg (ih (i + 1) (by omega) (by omega)) hC hCl ⟨⟨_, rfl, .refl _⟩, ⟨_, rfl, .refl _⟩, ⟨_, rfl, .of (by rw [zb (by omega) (by omega)]; rfl)⟩, ⟨_, rfl, .refl _⟩, trivial⟩ ⟨.grow ?_ (z2v eIs [] _), trivial⟩ rfl rfl (Nat.zero_le _)
  rw [h2, List.map_append]
  rfl
 have h : decide ((i : Int) < (L.length : Int)) = false := h
 rw [decide_eq_false_iff_not] at h
 obtain rfl : i = L.length := by omega
 refine zy 0 rfl ?_
 refine z7 tabOk Tryz.func106 rfl trivial ?_
 rw [hf]
 rfl
end Go.Proofs.YtkemmijjpclckaaGreatDoor
