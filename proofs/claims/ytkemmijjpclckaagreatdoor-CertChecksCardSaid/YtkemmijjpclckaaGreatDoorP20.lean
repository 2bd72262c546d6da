/- A part of the proof. -/
import Derived.Test.YtkemmijjpclckaaGreatDoorP19
set_option linter.unusedVariables false
set_option linter.unusedSimpArgs false
set_option linter.unusedSectionVars false
set_option maxRecDepth 100000
set_option maxHeartbeats 8000000
namespace Go.Proofs.YtkemmijjpclckaaGreatDoor
open Go Ab Go.RowKit
theorem zpz (g : FuncId) (p : Int → Bool) (a : Ag) (l : List Int) (hp : ∀ x ∈ l, ACall Tryz.prog g [vI .i64 x, .ptr 0 0] [some (bAg a)] (fun r o => r = vB (p x) ∧ o = [some (bAg a)])) :
  ACall Tryz.prog 131 [.d (eIs l), .fn (.func g) [.ptr 0 0]] [some (bAg a)] (fun r o => r = vI .i64 (idP p l) ∧ o = [some (bAg a)]) := by
 refine za Tryz.func131 rfl rfl (Nat.le_of_ble_eq_true rfl) fun C hC hCl hDs hGk => ?_
 refine z2x (t := 0) rfl fun hlen => ?_
 rw [List.length_map] at hlen
 refine z8 tabOk Tryz.func131 rfl trivial ?_
 refine zh (α := Nat) (fun i => [(0, .d (eIs l)), (1, .fn (.func g) [.ptr 0 0]), (7, vI .i64 l.length), (8, vI .i64 (i : Int))]) (fun i => [some (bAg a)]) (fun i => i ≤ l.length ∧ ∀ q (hq : q < l.length), q < i → p l[q] = false) (fun i => l.length - i) 0 ⟨Nat.zero_le _, fun q _ h => absurd h (Nat.not_lt_zero q)⟩ ?_ ?_
 ·exact fun h => zg h hC hCl ⟨⟨_, rfl, .refl _⟩, ⟨_, rfl, .refl _⟩, ⟨_, rfl, .of (by rw [List.length_map])⟩, ⟨_, rfl, .refl _⟩, trivial⟩ ⟨.refl _, trivial⟩ rfl rfl (Nat.le_refl _)
 rintro i ⟨hi, hno⟩ ih
 refine z6 tabOk Tryz.func131 rfl trivial (fun h => ?_) (fun h => ?_)
 ·have h : decide ((i : Int) < (l.length : Int)) = true := h
  rw [decide_eq_true_eq] at h
  have hlt : i < l.length := by omega
  have eg : l.getD i 0 = l[i] := by simp [hlt]
  refine zn [0] tabOk Tryz.func131 rfl (by simp only [andP, and_true, true_and, Int.toNat_natCast, List.length_map, List.length_append, List.length_cons, List.length_nil, List.length_replicate]; omega) (hp (l.getD i 0) (by rw [eg]; exact List.getElem_mem hlt)) ⟨⟨_, rfl, .refl _⟩, trivial⟩ (.refl _) rfl rfl rfl ⟨_, rfl⟩ ?_
  rintro r o ⟨rfl, rfl⟩
  refine z6 tabOk Tryz.func131 rfl trivial (fun h2 => ?_) (fun h2 => ?_)
  ·have h2 : p (l.getD i 0) = true := h2
   rw [eg] at h2
   refine zq tabOk Tryz.func131 rfl trivial hC hCl (.of ?_) (o2 := [some (bAg a)]) ⟨.refl _, trivial⟩ rfl rfl (Nat.le_refl _) ⟨rfl, rfl⟩
   rw [z8u hlt h2 hno]
   rfl
  ·have h2 : p (l.getD i 0) = false := h2
   rw [eg] at h2
   refine z8 tabOk Tryz.func131 rfl trivial ?_
   refine zg (ih (i + 1) ⟨by omega, fun q hq hqi => ?_⟩ (by omega)) hC hCl ⟨⟨_, rfl, .refl _⟩, ⟨_, rfl, .refl _⟩, ⟨_, rfl, .refl _⟩, ⟨_, rfl, .of (by rw [zb (by omega) (by omega)]; rfl)⟩, trivial⟩ ⟨.refl _, trivial⟩ rfl rfl (Nat.le_refl _)
   rcases Nat.lt_or_ge q i with h3 | h3
   ·exact hno q hq h3
   ·obtain rfl : q = i := by omega
    exact h2
 ·have h : decide ((i : Int) < (l.length : Int)) = false := h
  rw [decide_eq_false_iff_not] at h
  obtain rfl : i = l.length := by omega
  refine z7 tabOk Tryz.func131 rfl trivial ⟨?_, rfl⟩
  rw [z8v fun q hq => hno q hq hq]
  rfl
theorem zq5 (g : FuncId) (p : Int → Bool) (a : Ag) (l : List Int) (hp : ∀ x ∈ l, ACall Tryz.prog g [vI .i64 x, .ptr 0 0] [some (bAg a)] (fun r o => r = vB (p x) ∧ o = [some (bAg a)])) :
  ACall Tryz.prog 91 [.d (eIs l), .fn (.func g) [.ptr 0 0]] [some (bAg a)] (fun r o => r = vB (l.any p) ∧ o = [some (bAg a)]) := by
 refine za Tryz.func91 rfl rfl (Nat.le_of_ble_eq_true rfl) fun C hC hCl hDs hGk => ?_
 refine zn [0] tabOk Tryz.func91 rfl trivial (zpz g p a l hp) ⟨⟨_, rfl, .refl _⟩, trivial⟩ (.refl _) rfl rfl rfl ⟨_, rfl⟩ ?_
 rintro r o ⟨rfl, rfl⟩
 refine zq tabOk Tryz.func91 rfl trivial hC hCl (.of ?_) (o2 := [some (bAg a)]) ⟨.refl _, trivial⟩ rfl rfl (Nat.le_refl _) ⟨rfl, rfl⟩
 show vB (decide (idP p l ≥ 0)) = _
 rw [zk4]
def oddB (v x : Int) : Bool := decide (x < 0 ∨ x > 2 * v + 1)
theorem zjp (v x : Int) : (!oddB v x) = decide (0 ≤ x ∧ x ≤ 2 * v + 1) := by
 unfold oddB
 rw [Bool.eq_iff_iff, Bool.not_eq_true', decide_eq_false_iff_not, decide_eq_true_eq]
 omega
theorem z1z {a : Ag} (h : AgB a) : 0 ≤ varsA a ∧ varsA a ≤ 3000000 := by
 have h1 := h.i0
 have h2 := h.i1
 have h3 := h.l
 have h4 := h.g
 unfold varsA
 omega
theorem zjo (a : Ag) (x : Int) (h : AgB a) : ACall Tryz.prog 90 [vI .i64 x, .ptr 0 0] [some (bAg a)] (fun r o => r = vB (oddB (varsA a) x) ∧ o = [some (bAg a)]) := by
 refine za Tryz.func90 rfl rfl (Nat.le_of_ble_eq_true rfl) fun C hC hCl hDs hGk => ?_
 have hv := z1z h
 refine z6 tabOk Tryz.func90 rfl trivial (fun h1 => ?_) (fun h1 => ?_)
 ·have h1 : decide (x < 0) = true := h1
  rw [decide_eq_true_eq] at h1
  refine zq tabOk Tryz.func90 rfl trivial hC hCl (.of ?_) (o2 := [some (bAg a)]) ⟨.refl _, trivial⟩ rfl rfl (Nat.le_refl _) ⟨rfl, rfl⟩
  unfold oddB
  rw [decide_eq_true (Or.inl h1)]
  rfl
 have h1 : decide (x < 0) = false := h1
 rw [decide_eq_false_iff_not] at h1
 refine ze tabOk Tryz.func90 rfl trivial (z4e a h) (.refl _) rfl ⟨_, rfl⟩ (by rintro r o rfl; rfl) ?_
 rintro _ o rfl
 refine zq tabOk Tryz.func90 rfl trivial hC hCl (.of ?_) (o2 := [some (bAg a)]) ⟨.refl _, trivial⟩ rfl rfl (Nat.le_refl _) ⟨rfl, rfl⟩
 have e1 : IntKind.i64.wrap (2 * varsA a) = 2 * varsA a := zb (by omega) (by omega)
 have e2 : IntKind.i64.wrap (2 * varsA a + 1) = 2 * varsA a + 1 := zb (by omega) (by omega)
 show vB (decide (x > IntKind.i64.wrap (IntKind.i64.wrap (2 * varsA a) + 1))) = vB (oddB (varsA a) x)
 rw [e1, e2]
 unfold oddB
 congr 2
 rw [eq_iff_iff]
 constructor
 ·exact fun h => .inr h
 ·exact fun h => h.resolve_left h1
theorem z2h {a : Ag} (h : ¬ (0 ≤ a.i ∧ a.i ≤ 20000 ∧ a.l.length ≤ 20000 ∧ a.g.length ≤ 20000 ∧ varsA a ≤ 20000)) : z2i a = false := by
 unfold z2i
 rw [decide_eq_false h]
 simp
theorem z42 {a : Ag} (h : ¬ (latOk a.i (varsA a) 0 a.l = true ∧ gatOk (a.i + a.l.length + 1) a.g = true ∧ z1m (varsA a) a.outs = true ∧ z1m (varsA a) a.bad = true ∧ z1m (varsA a) a.con = true)) : z2i a = false := by
 rw [← Bool.not_eq_true]
 intro hr
 have := z13.1 hr
 exact h ⟨this.lat, this.gat, this.outs, this.bad, this.con⟩
@[reducible] def p2 (l : List P2) (i : Nat) : P2 := l.getD i (0, 0)
theorem zny {l : List P2} {i : Nat} (h : i < l.length) : l.drop i = p2 l i :: l.drop (i + 1) := by
 rw [List.drop_eq_getElem_cons h]
 congr 1
 simp [p2, h]
theorem zk1 (i v : Int) {l : List P2} {j : Nat} (h : j < l.length) : latOk i v j (l.drop j) = (decide ((0 ≤ (p2 l j).1 ∧ (p2 l j).1 ≤ 2 * v + 1) ∧ ((p2 l j).2 = 0 ∨ (p2 l j).2 = 1 ∨ (p2 l j).2 = 2 * (i + 1 + j))) && latOk i v (j + 1) (l.drop (j + 1))) := by
 rw [zny h, latOk]
theorem zk8 (v : Int) {l : List P2} {j : Nat} (h : j < l.length) : gatOk (v + j) (l.drop j) = (decide (0 ≤ (p2 l j).2 ∧ (p2 l j).2 ≤ (p2 l j).1 ∧ (p2 l j).1 < 2 * (v + j)) && gatOk (v + ((j + 1 : Nat) : Int)) (l.drop (j + 1))) := by
 rw [zny h, gatOk, show v + ((j + 1 : Nat) : Int) = v + (j : Int) + 1 by omega]
@[reducible] def bP2 (t : TypeId) (p : P2) : AObj := .cells t [.d (eI p.1), .d (eI p.2)]
@[reducible] def fOdd : AV := .fn (.func 90) [.ptr 0 0]
theorem zj5 (a : Ag) (hl : a.names.length ≤ 1000000) (hs : ∀ x ∈ a.names, x.2.2.length ≤ 1000000) : ACall Tryz.prog 46 [.d (eAg a)] [] (fun r o => r = vB (z2i a)) := by
 refine za Tryz.func46 rfl rfl (Nat.le_of_ble_eq_true rfl) fun C hC hCl hDs hGk => ?_
 refine z6 tabOk Tryz.func46 rfl trivial (fun h1 => ?_) (fun h1 => ?_)
 ·have h1 : decide (a.i < 0) = true := h1
  rw [decide_eq_true_eq] at h1
  repeat refine z6 tabOk Tryz.func46 rfl trivial (fun _ => ?_) (fun h => by cases h)
  refine z7 tabOk Tryz.func46 rfl trivial ?_
  rw [z2h (fun h => by omega)]
  rfl
 have h1 : decide (a.i < 0) = false := h1
 rw [decide_eq_false_iff_not] at h1
 refine z6 tabOk Tryz.func46 rfl trivial (fun h2 => ?_) (fun h2 => ?_)
 ·have h2 : decide (a.i > 20000) = true := h2
  rw [decide_eq_true_eq] at h2
  repeat refine z6 tabOk Tryz.func46 rfl trivial (fun _ => ?_) (fun h => by cases h)
  refine z7 tabOk Tryz.func46 rfl trivial ?_
  rw [z2h (fun h => by omega)]
  rfl
 have h2 : decide (a.i > 20000) = false := h2
 rw [decide_eq_false_iff_not] at h2
 refine z6 tabOk Tryz.func46 rfl trivial (fun h3 => ?_) (fun h3 => ?_)
 ·have h3 : decide ((((a.l.map eP2).length : Nat) : Int) > 20000) = true := h3
  rw [decide_eq_true_eq, List.length_map] at h3
  repeat refine z6 tabOk Tryz.func46 rfl trivial (fun _ => ?_) (fun h => by cases h)
  refine z7 tabOk Tryz.func46 rfl trivial ?_
  rw [z2h (fun h => by omega)]
  rfl
 have h3 : decide ((((a.l.map eP2).length : Nat) : Int) > 20000) = false := h3
 rw [decide_eq_false_iff_not, List.length_map] at h3
 refine z6 tabOk Tryz.func46 rfl trivial (fun h4 => ?_) (fun h4 => ?_)
 ·have h4 : decide ((((a.g.map eP2).length : Nat) : Int) > 20000) = true := h4
  rw [decide_eq_true_eq, List.length_map] at h4
  repeat refine z6 tabOk Tryz.func46 rfl trivial (fun _ => ?_) (fun h => by cases h)
  refine z7 tabOk Tryz.func46 rfl trivial ?_
  rw [z2h (fun h => by omega)]
  rfl
 have h4 : decide ((((a.g.map eP2).length : Nat) : Int) > 20000) = false := h4
 rw [decide_eq_false_iff_not, List.length_map] at h4
 have hB : AgB a := ⟨by omega, by omega, by omega, by omega⟩
 have hv := z1z hB
 refine ze tabOk Tryz.func46 rfl trivial (z4e a hB) (.refl _) rfl ⟨_, rfl⟩ (by rintro r o rfl; rfl) ?_
 rintro _ o rfl
 refine z6 tabOk Tryz.func46 rfl trivial (fun h5 => ?_) (fun h5 => ?_)
 ·have h5 : decide (varsA a > 20000) = true := h5
  rw [decide_eq_true_eq] at h5
  refine z7 tabOk Tryz.func46 rfl trivial ?_
  rw [z2h (fun h => by omega)]
  rfl
 have h5 : decide (varsA a > 20000) = false := h5
 rw [decide_eq_false_iff_not] at h5
 refine z8 tabOk Tryz.func46 rfl trivial ?_
 refine zh (α := Nat) (fun j => [(1, .ptr 0 0), (3, fOdd), (37, .d (eP2s a.l)), (38, vI .i64 (a.l.length : Int)), (39, vI .i64 (j : Int))]) (fun _ => [some (bAg a)]) (fun j => j ≤ a.l.length ∧ latOk a.i (varsA a) 0 a.l = latOk a.i (varsA a) j (a.l.drop j)) (fun j => a.l.length - j) 0 ⟨Nat.zero_le _, rfl⟩ ?_ ?_
 ·exact fun h => zg h hC hCl ⟨⟨_, rfl, .refl _⟩, ⟨_, rfl, .refl _⟩, ⟨_, rfl, .refl _⟩, ⟨_, rfl, .of (by rw [List.length_map])⟩, ⟨_, rfl, .refl _⟩, trivial⟩ ⟨.refl _, trivial⟩ rfl rfl (Nat.zero_le _)
 rintro j ⟨hj, hL⟩ ih
 refine z6 tabOk Tryz.func46 rfl trivial (fun hb => ?_) (fun hb => ?_)
 ·have hb : decide ((j : Int) < (a.l.length : Int)) = true := hb
  rw [decide_eq_true_eq] at hb
  have hlt : j < a.l.length := by omega
  have hst := zk1 a.i (varsA a) hlt
  rw [← hL] at hst
  have ih := fun h => ih (j + 1) ⟨by omega, h⟩ (by omega)
  refine zj 12 tabOk Tryz.func46 rfl (by simp only [andP, and_true, true_and, Int.toNat_natCast, List.length_map, List.length_append, List.length_cons, List.length_nil, List.length_replicate]; omega) ?_
  refine zg (env' := [(1, .ptr 0 0), (3, fOdd), (37, .d (eP2s a.l)), (38, vI .i64 (a.l.length : Int)), (39, vI .i64 (j : Int)), (4, vI .i64 (j : Int)), (5, .ptr 1 0)]) (objs' := [some (bAg a), some (bP2 85 (p2 a.l j))]) ?_ hC hCl ⟨⟨_, rfl, .refl _⟩, ⟨_, rfl, .refl _⟩, ⟨_, rfl, .refl _⟩, ⟨_, rfl, .refl _⟩, ⟨_, rfl, .refl _⟩, ⟨_, rfl, .refl _⟩, ⟨_, rfl, .refl _⟩, trivial⟩ ⟨.refl _, .refl _, trivial⟩ rfl rfl (Nat.zero_le _)
  generalize p2 a.l j = p at *
  refine zn [0] tabOk Tryz.func46 rfl trivial (zjo a p.1 hB) ⟨⟨_, rfl, .refl _⟩, trivial⟩ (.refl _) rfl rfl rfl ⟨_, rfl⟩ ?_
  rintro r o ⟨rfl, rfl⟩
  have hob := zjp (varsA a) p.1
  cases ho : oddB (varsA a) p.1 with
  | true =>
   rw [ho] at hob
   have hob := of_decide_eq_false hob.symm
   repeat refine z6 tabOk Tryz.func46 rfl trivial (fun _ => ?_) (fun h => by cases h)
   refine z7 tabOk Tryz.func46 rfl trivial ?_
   rw [z42 (fun h => by rw [h.1, decide_eq_false (fun hh => hob hh.1)] at hst; cases hst)]
   rfl
  | false =>
  rw [ho] at hob
  have hob := of_decide_eq_true hob.symm
  have e1 : IntKind.i64.wrap (a.i + 1) = a.i + 1 := zb (by omega) (by omega)
  have e2 : IntKind.i64.wrap (a.i + 1 + (j : Int)) = a.i + 1 + (j : Int) := zb (by omega) (by omega)
  have e3 : IntKind.i64.wrap (2 * (a.i + 1 + (j : Int))) = 2 * (a.i + 1 + (j : Int)) := zb (by omega) (by omega)
  have next : (p.2 = 0 ∨ p.2 = 1 ∨ p.2 = 2 * (a.i + 1 + j)) → latOk a.i (varsA a) 0 a.l = latOk a.i (varsA a) (j + 1) (a.l.drop (j + 1)) := fun h => by
   rw [hst, decide_eq_true ⟨hob, h⟩, Bool.true_and]
  refine z6 tabOk Tryz.func46 rfl trivial (fun h => by cases h) (fun _ => ?_)
  refine z6 tabOk Tryz.func46 rfl trivial (fun h6 => ?_) (fun h6 => ?_)
  rotate_left
  ·have h6 : (p.2 != 0) = false := h6
   rw [bne_eq_false_iff_eq] at h6
   repeat refine z6 tabOk Tryz.func46 rfl trivial (fun h => by cases h) (fun _ => ?_)
   refine z8 tabOk Tryz.func46 rfl trivial ?_
   exact zg (ih (next (.inl h6))) hC hCl ⟨⟨_, rfl, .refl _⟩, ⟨_, rfl, .refl _⟩, ⟨_, rfl, .refl _⟩, ⟨_, rfl, .refl _⟩, ⟨_, rfl, .of (by rw [zb (by omega) (by omega)]; rfl)⟩, trivial⟩ ⟨.refl _, trivial⟩ rfl rfl (Nat.zero_le _)
  have h6 : (p.2 != 0) = true := h6
  rw [bne_iff_ne] at h6
  refine z6 tabOk Tryz.func46 rfl trivial (fun h7 => ?_) (fun h7 => ?_)
  rotate_left
  ·have h7 : (p.2 != 1) = false := h7
   rw [bne_eq_false_iff_eq] at h7
   repeat refine z6 tabOk Tryz.func46 rfl trivial (fun h => by cases h) (fun _ => ?_)
   refine z8 tabOk Tryz.func46 rfl trivial ?_
   exact zg (ih (next (.inr (.inl h7)))) hC hCl ⟨⟨_, rfl, .refl _⟩, ⟨_, rfl, .refl _⟩, ⟨_, rfl, .refl _⟩, ⟨_, rfl, .refl _⟩, ⟨_, rfl, .of (by rw [zb (by omega) (by omega)]; rfl)⟩, trivial⟩ ⟨.refl _, trivial⟩ rfl rfl (Nat.zero_le _)
  have h7 : (p.2 != 1) = true := h7
  rw [bne_iff_ne] at h7
  refine z6 tabOk Tryz.func46 rfl trivial (fun h8 => ?_) (fun h8 => ?_)
  ·have h8 : (p.2 != IntKind.i64.wrap (2 * IntKind.i64.wrap (IntKind.i64.wrap (a.i + 1) + (j : Int)))) = true := h8
   rw [e1, e2, e3, bne_iff_ne] at h8
   refine z7 tabOk Tryz.func46 rfl trivial ?_
   rw [z42 (fun h => by rw [h.1, decide_eq_false (fun hh => by rcases hh.2 with h | h | h; exact h6 h; exact h7 h; exact h8 h)] at hst; cases hst)]
   rfl
  ·have h8 : (p.2 != IntKind.i64.wrap (2 * IntKind.i64.wrap (IntKind.i64.wrap (a.i + 1) + (j : Int)))) = false := h8
   rw [e1, e2, e3, bne_eq_false_iff_eq] at h8
   refine z8 tabOk Tryz.func46 rfl trivial ?_
   exact zg (ih (next (.inr (.inr h8)))) hC hCl ⟨⟨_, rfl, .refl _⟩, ⟨_, rfl, .refl _⟩, ⟨_, rfl, .refl _⟩, ⟨_, rfl, .refl _⟩, ⟨_, rfl, .of (by rw [zb (by omega) (by omega)]; rfl)⟩, trivial⟩ ⟨.refl _, trivial⟩ rfl rfl (Nat.zero_le _)
 have hb : decide ((j : Int) < (a.l.length : Int)) = false := hb
 rw [decide_eq_false_iff_not] at hb
 obtain rfl : j = a.l.length := by omega
 rw [List.drop_length] at hL
 have hL : latOk a.i (varsA a) 0 a.l = true := hL
 clear ih
 refine z8 tabOk Tryz.func46 rfl trivial ?_
 refine zh (α := Nat) (fun j => [(1, .ptr 0 0), (3, fOdd), (71, .d (eP2s a.g)), (72, vI .i64 (a.g.length : Int)), (73, vI .i64 (j : Int))]) (fun _ => [some (bAg a)]) (fun j => j ≤ a.g.length ∧ gatOk (a.i + a.l.length + 1) a.g = gatOk (a.i + a.l.length + 1 + (j : Int)) (a.g.drop j)) (fun j => a.g.length - j) 0 ⟨Nat.zero_le _, by simp⟩ ?_ ?_
 ·exact fun h => zg h hC hCl ⟨⟨_, rfl, .refl _⟩, ⟨_, rfl, .refl _⟩, ⟨_, rfl, .refl _⟩, ⟨_, rfl, .of (by rw [List.length_map])⟩, ⟨_, rfl, .refl _⟩, trivial⟩ ⟨.refl _, trivial⟩ rfl rfl (Nat.zero_le _)
 rintro j ⟨hj, hG⟩ ih
 refine z6 tabOk Tryz.func46 rfl trivial (fun hb => ?_) (fun hb => ?_)
 ·have hb : decide ((j : Int) < (a.g.length : Int)) = true := hb
  rw [decide_eq_true_eq] at hb
  have hlt : j < a.g.length := by omega
  have hst := zk8 (a.i + a.l.length + 1) hlt
  rw [← hG] at hst
  have ih := fun h => ih (j + 1) ⟨by omega, h⟩ (by omega)
  refine zj 12 tabOk Tryz.func46 rfl (by simp only [andP, and_true, true_and, Int.toNat_natCast, List.length_map, List.length_append, List.length_cons, List.length_nil, List.length_replicate]; omega) ?_
  refine zg (env' := [(1, .ptr 0 0), (3, fOdd), (71, .d (eP2s a.g)), (72, vI .i64 (a.g.length : Int)), (73, vI .i64 (j : Int)), (6, vI .i64 (j : Int)), (7, .ptr 1 0)]) (objs' := [some (bAg a), some (bP2 98 (p2 a.g j))]) ?_ hC hCl ⟨⟨_, rfl, .refl _⟩, ⟨_, rfl, .refl _⟩, ⟨_, rfl, .refl _⟩, ⟨_, rfl, .refl _⟩, ⟨_, rfl, .refl _⟩, ⟨_, rfl, .refl _⟩, ⟨_, rfl, .refl _⟩, trivial⟩ ⟨.refl _, .refl _, trivial⟩ rfl rfl (Nat.zero_le _)
  generalize p2 a.g j = p at *
  have no : ¬ (0 ≤ p.2 ∧ p.2 ≤ p.1 ∧ p.1 < 2 * (a.i + a.l.length + 1 + (j : Int))) → z2i a = false := fun hn => z42 (fun h => by rw [h.2.1, decide_eq_false hn] at hst; cases hst)
  have e1 : IntKind.i64.wrap (a.i + (((a.l.map eP2).length : Nat) : Int)) = a.i + (a.l.length : Int) := by rw [List.length_map, zb (by omega) (by omega)]
  have e2 : IntKind.i64.wrap (a.i + (a.l.length : Int) + 1) = a.i + (a.l.length : Int) + 1 := zb (by omega) (by omega)
  have e3 : IntKind.i64.wrap (a.i + (a.l.length : Int) + 1 + (j : Int)) = a.i + (a.l.length : Int) + 1 + (j : Int) := zb (by omega) (by omega)
  have e4 : IntKind.i64.wrap (2 * (a.i + (a.l.length : Int) + 1 + (j : Int))) = 2 * (a.i + (a.l.length : Int) + 1 + (j : Int)) := zb (by omega) (by omega)
  refine z6 tabOk Tryz.func46 rfl trivial (fun h6 => ?_) (fun h6 => ?_)
  ·have h6 : decide (p.2 < 0) = true := h6
   rw [decide_eq_true_eq] at h6
   repeat refine z6 tabOk Tryz.func46 rfl trivial (fun _ => ?_) (fun h => by cases h)
   refine z7 tabOk Tryz.func46 rfl trivial ?_
   rw [no (fun h => by omega)]
   rfl
  have h6 : decide (p.2 < 0) = false := h6
  rw [decide_eq_false_iff_not] at h6
  refine z6 tabOk Tryz.func46 rfl trivial (fun h7 => ?_) (fun h7 => ?_)
  ·have h7 : decide (p.2 > p.1) = true := h7
   rw [decide_eq_true_eq] at h7
   repeat refine z6 tabOk Tryz.func46 rfl trivial (fun _ => ?_) (fun h => by cases h)
   refine z7 tabOk Tryz.func46 rfl trivial ?_
   rw [no (fun h => by omega)]
   rfl
  have h7 : decide (p.2 > p.1) = false := h7
  rw [decide_eq_false_iff_not] at h7
  refine z6 tabOk Tryz.func46 rfl trivial (fun h8 => ?_) (fun h8 => ?_)
  ·have h8 : decide (p.1 ≥ IntKind.i64.wrap (2 * IntKind.i64.wrap (IntKind.i64.wrap (IntKind.i64.wrap (a.i + (((a.l.map eP2).length : Nat) : Int)) + 1) + (j : Int)))) = true := h8
   rw [e1, e2, e3, e4, decide_eq_true_eq] at h8
   refine z7 tabOk Tryz.func46 rfl trivial ?_
   rw [no (fun h => by omega)]
   rfl
  ·have h8 : decide (p.1 ≥ IntKind.i64.wrap (2 * IntKind.i64.wrap (IntKind.i64.wrap (IntKind.i64.wrap (a.i + (((a.l.map eP2).length : Nat) : Int)) + 1) + (j : Int)))) = false := h8
   rw [e1, e2, e3, e4, decide_eq_false_iff_not] at h8
   refine z8 tabOk Tryz.func46 rfl trivial ?_
   exact zg (ih (by rw [hst, decide_eq_true (by omega), Bool.true_and])) hC hCl ⟨⟨_, rfl, .refl _⟩, ⟨_, rfl, .refl _⟩, ⟨_, rfl, .refl _⟩, ⟨_, rfl, .refl _⟩, ⟨_, rfl, .of (by rw [zb (by omega) (by omega)]; rfl)⟩, trivial⟩ ⟨.refl _, trivial⟩ rfl rfl (Nat.zero_le _)
 have hb : decide ((j : Int) < (a.g.length : Int)) = false := hb
 rw [decide_eq_false_iff_not] at hb
 obtain rfl : j = a.g.length := by omega
 rw [List.drop_length] at hG
 have hG : gatOk (a.i + a.l.length + 1) a.g = true := hG
 clear ih
 refine z8 tabOk Tryz.func46 rfl trivial ?_
 refine zh (α := Nat) (fun j => [(1, .ptr 0 0), (3, fOdd), (110, .d (cCEs [a.outs, a.bad, a.con])), (111, vI .i64 3), (112, vI .i64 (j : Int))]) (fun _ => [some (bAg a)]) (fun j => j ≤ 3 ∧ ∀ q, q < j → z1m (varsA a) (([a.outs, a.bad, a.con] : List (List Int)).getD q []) = true) (fun j => 3 - j) 0 ⟨Nat.zero_le _, fun q hq => by omega⟩ ?_ ?_
 ·exact fun h => zg h hC hCl ⟨⟨_, rfl, .refl _⟩, ⟨_, rfl, .refl _⟩, ⟨_, rfl, VLe.eL rfl⟩, ⟨_, rfl, .refl _⟩, ⟨_, rfl, .refl _⟩, trivial⟩ ⟨.refl _, trivial⟩ rfl rfl (Nat.zero_le _)
 rintro j ⟨hj, hR⟩ ih
 refine z6 tabOk Tryz.func46 rfl trivial (fun hb => ?_) (fun hb => ?_)
 ·have hb : decide ((j : Int) < 3) = true := hb
  rw [decide_eq_true_eq] at hb
  have ih := fun h => ih (j + 1) ⟨by omega, h⟩ (by omega)
  have no : z1m (varsA a) (([a.outs, a.bad, a.con] : List (List Int)).getD j []) = false → z2i a = false := fun hn => z42 (fun h => by
   rcases (by omega : j = 0 ∨ j = 1 ∨ j = 2) with rfl | rfl | rfl
   ·exact absurd (h.2.2.1.symm.trans hn) (by decide)
   ·exact absurd (h.2.2.2.1.symm.trans hn) (by decide)
   ·exact absurd (h.2.2.2.2.symm.trans hn) (by decide))
  have hlk : ∀ l : List Int, z1m (varsA a) l = (decide (l.length ≤ 2000) && !(l.any (oddB (varsA a)))) := fun l => by
   unfold z1m
   rw [List.not_any_eq_all_not]
   congr 2
   funext x
   exact (zjp _ _).symm
  have next : z1m (varsA a) (([a.outs, a.bad, a.con] : List (List Int)).getD j []) = true → ∀ q, q < j + 1 → z1m (varsA a) (([a.outs, a.bad, a.con] : List (List Int)).getD q []) = true := fun hn q hq => by
   rcases Nat.lt_succ_iff_lt_or_eq.1 hq with h | rfl
   ·exact hR q h
   ·exact hn
  rw [hlk] at no next
  obtain ⟨row, hrow⟩ : ∃ row, ([a.outs, a.bad, a.con] : List (List Int)).getD j [] = row := ⟨_, rfl⟩
  rw [hrow] at no next
  have hnd : (0 ≤ (j : Int) ∧ (j : Int) < ((([a.outs, a.bad, a.con] : List (List Int)).map eIs).length : Int)) ∧ True := ⟨⟨by omega, by show (j : Int) < 3; omega⟩, trivial⟩
  refine z6 tabOk Tryz.func46 rfl hnd (fun h6 => ?_) (fun h6 => ?_)
  ·have h6 : decide (((((([a.outs, a.bad, a.con] : List (List Int)).getD j []).map eI).length : Nat) : Int) > 2000) = true := h6
   rw [hrow, decide_eq_true_eq, List.length_map] at h6
   repeat refine z6 tabOk Tryz.func46 rfl trivial (fun _ => ?_) (fun h => by cases h)
   refine z7 tabOk Tryz.func46 rfl trivial ?_
   rw [no (by rw [decide_eq_false (by omega)]; rfl)]
   rfl
  have h6 : decide (((((([a.outs, a.bad, a.con] : List (List Int)).getD j []).map eI).length : Nat) : Int) > 2000) = false := h6
  rw [hrow, decide_eq_false_iff_not, List.length_map] at h6
  rw [decide_eq_true (show row.length ≤ 2000 by omega), Bool.true_and] at no next
  refine zn [0] tabOk Tryz.func46 rfl trivial (zq5 90 (oddB (varsA a)) a row (fun x _ => zjo a x hB)) ⟨⟨_, rfl, .refl _⟩, trivial⟩ ⟨.of ?vl, .refl _, trivial⟩ rfl rfl rfl ⟨_, rfl⟩ ?_
  case vl =>
   show AV.d (eIs (([a.outs, a.bad, a.con] : List (List Int)).getD j [])) = _
   rw [hrow]
   rfl
  rintro r o ⟨rfl, rfl⟩
  cases hany : row.any (oddB (varsA a)) with
  | true =>
   rw [hany] at no
   refine z6 tabOk Tryz.func46 rfl trivial (fun _ => ?_) (fun h => by cases h)
   refine z7 tabOk Tryz.func46 rfl trivial ?_
   rw [no rfl]
   rfl
  | false =>
   rw [hany] at next
   refine z6 tabOk Tryz.func46 rfl trivial (fun h => by cases h) (fun _ => ?_)
   refine z8 tabOk Tryz.func46 rfl trivial ?_
   exact zg (ih (next rfl)) hC hCl ⟨⟨_, rfl, .refl _⟩, ⟨_, rfl, .refl _⟩, ⟨_, rfl, .refl _⟩, ⟨_, rfl, .refl _⟩, ⟨_, rfl, .of (by rw [zb (by omega) (by omega)]; rfl)⟩, trivial⟩ ⟨.refl _, trivial⟩ rfl rfl (Nat.zero_le _)
 have hb : decide ((j : Int) < 3) = false := hb
 rw [decide_eq_false_iff_not] at hb
 obtain rfl : j = 3 := by omega
 have r0 := hR 0 (by decide)
 have r1 := hR 1 (by decide)
 have r2 := hR 2 (by decide)
 refine ze tabOk Tryz.func46 rfl trivial (zj6 a hl hs) (.refl _) rfl ⟨_, rfl⟩ (by rintro r o rfl; rfl) ?_
 rintro _ o rfl
 refine z7 tabOk Tryz.func46 rfl trivial ?_
 have r0 : z1m (varsA a) a.outs = true := r0
 have r1 : z1m (varsA a) a.bad = true := r1
 have r2 : z1m (varsA a) a.con = true := r2
 have hd : 0 ≤ a.i ∧ a.i ≤ 20000 ∧ a.l.length ≤ 20000 ∧ a.g.length ≤ 20000 ∧ varsA a ≤ 20000 := by omega
 unfold z2i
 rw [hL, hG, r0, r1, r2, decide_eq_true hd]
 rfl
theorem z3j (a : Ag) (h : AgB a) : ACall Tryz.prog 35 [.d (eAg a)] [] (fun r o => r = vI .i64 (varsA a)) := by
 refine za Tryz.func35 rfl rfl (Nat.le_of_ble_eq_true rfl) fun C hC hCl hDs hGk => ?_
 refine z7 tabOk Tryz.func35 rfl trivial ?_
 show vI .i64 _ = _
 rw [← zfd h]
@[reducible] def zby : List UInt8 := [105, 108, 111, 98, 99]
theorem zoh {c : UInt8} (h : ∀ q, q < 5 → zby.getD q 0 ≠ c) : kindN c = -1 := by
 have h0 : (105 : UInt8) ≠ c := h 0 (by decide)
 have h1 : (108 : UInt8) ≠ c := h 1 (by decide)
 have h2 : (111 : UInt8) ≠ c := h 2 (by decide)
 have h3 : (98 : UInt8) ≠ c := h 3 (by decide)
 have h4 : (99 : UInt8) ≠ c := h 4 (by decide)
 unfold kindN
 rw [if_neg h0.symm, if_neg h1.symm, if_neg h2.symm, if_neg h3.symm, if_neg h4.symm]
theorem zog {i : Nat} (h : i < 5) : kindN (zby.getD i 0) = (i : Int) := by
 rcases (by omega : i = 0 ∨ i = 1 ∨ i = 2 ∨ i = 3 ∨ i = 4) with rfl | rfl | rfl | rfl | rfl <;> rfl
theorem z9b (c : UInt8) : ACall Tryz.prog 83 [vI .u8 (c.toNat : Int)] [] (fun r o => r = vI .i64 (kindN c)) := by
 refine za Tryz.func83 rfl rfl (Nat.le_of_ble_eq_true rfl) fun C hC hCl hDs hGk => ?_
 refine z8 tabOk Tryz.func83 rfl trivial ?_
 refine zh (α := Nat) (fun i => [(0, vI .u8 (c.toNat : Int)), (3, .d (eBy zby)), (4, vI .i64 (i : Int))]) (fun _ => []) (fun i => i ≤ 5 ∧ ∀ q, q < i → zby.getD q 0 ≠ c) (fun i => 5 - i) 0 ⟨Nat.zero_le _, fun q h => absurd h (Nat.not_lt_zero q)⟩ ?_ ?_
 ·exact fun h => zg h hC hCl ⟨⟨_, rfl, .refl _⟩, ⟨_, rfl, VLe.eL rfl⟩, ⟨_, rfl, .refl _⟩, trivial⟩ trivial rfl rfl (Nat.zero_le _)
 rintro i ⟨hi, hq⟩ ih
 refine z6 tabOk Tryz.func83 rfl trivial (fun hb => ?_) (fun hb => ?_)
 ·have hb : decide ((i : Int) < 5) = true := hb
  rw [decide_eq_true_eq] at hb
  have hlt : i < 5 := by omega
  refine z6 tabOk Tryz.func83 rfl ⟨⟨by omega, by show (i : Int) < 5; omega⟩, trivial⟩ (fun h2 => ?_) (fun h2 => ?_)
  ·have h2 : (((zby.getD i 0).toNat : Int) == (c.toNat : Int)) = true := h2
   rw [beq_iff_eq] at h2
   have h3 : zby.getD i 0 = c := UInt8.toNat_inj.1 (by omega)
   refine z7 tabOk Tryz.func83 rfl trivial ?_
   rw [← h3, zog hlt]
   rfl
  ·have h2 : (((zby.getD i 0).toNat : Int) == (c.toNat : Int)) = false := h2
   rw [beq_eq_false_iff_ne] at h2
   refine z8 tabOk Tryz.func83 rfl trivial ?_
   refine zg (ih (i + 1) ⟨by omega, fun q hqi => ?_⟩ (by omega)) hC hCl ⟨⟨_, rfl, .refl _⟩, ⟨_, rfl, .refl _⟩, ⟨_, rfl, .of (by rw [zb (by omega) (by omega)]; rfl)⟩, trivial⟩ trivial rfl rfl (Nat.zero_le _)
   rcases Nat.lt_or_ge q i with h3 | h3
   ·exact hq q h3
   ·obtain rfl : q = i := by omega
    exact fun e => h2 (by rw [e])
 ·have hb : decide ((i : Int) < 5) = false := hb
  rw [decide_eq_false_iff_not] at hb
  obtain rfl : i = 5 := by omega
  refine z7 tabOk Tryz.func83 rfl trivial ?_
  rw [zoh hq]
  rfl
theorem zhz (a : Ag) (k : Int) : ACall Tryz.prog 82 [.d (eAg a), vI .i64 k] [] (fun r o => r = vI .i64 (manyN a k)) := by
 refine za Tryz.func82 rfl rfl (Nat.le_of_ble_eq_true rfl) fun C hC hCl hDs hGk => ?_
 unfold manyN
 refine z6 tabOk Tryz.func82 rfl trivial (fun h => ?_) (fun h => ?_)
 ·have h : (k == 0) = true := h
  rw [if_pos (beq_iff_eq.1 h)]
  exact z7 tabOk Tryz.func82 rfl trivial rfl
 have h : (k == 0) = false := h
 rw [if_neg (beq_eq_false_iff_ne.1 h)]
 refine z6 tabOk Tryz.func82 rfl trivial (fun h => ?_) (fun h => ?_)
 ·have h : (k == 1) = true := h
  rw [if_pos (beq_iff_eq.1 h)]
  refine z7 tabOk Tryz.func82 rfl trivial ?_
  show vI .i64 (((a.l.map eP2).length : Nat) : Int) = _
  rw [List.length_map]
 have h : (k == 1) = false := h
 rw [if_neg (beq_eq_false_iff_ne.1 h)]
 refine z6 tabOk Tryz.func82 rfl trivial (fun h => ?_) (fun h => ?_)
 ·have h : (k == 2) = true := h
  rw [if_pos (beq_iff_eq.1 h)]
  refine z7 tabOk Tryz.func82 rfl trivial ?_
  show vI .i64 (((a.outs.map eI).length : Nat) : Int) = _
  rw [List.length_map]
 have h : (k == 2) = false := h
 rw [if_neg (beq_eq_false_iff_ne.1 h)]
 refine z6 tabOk Tryz.func82 rfl trivial (fun h => ?_) (fun h => ?_)
 ·have h : (k == 3) = true := h
  rw [if_pos (beq_iff_eq.1 h)]
  refine z7 tabOk Tryz.func82 rfl trivial ?_
  show vI .i64 (((a.bad.map eI).length : Nat) : Int) = _
  rw [List.length_map]
 have h : (k == 3) = false := h
 rw [if_neg (beq_eq_false_iff_ne.1 h)]
 refine z6 tabOk Tryz.func82 rfl trivial (fun h => ?_) (fun h => ?_)
 ·have h : (k == 4) = true := h
  rw [if_pos (beq_iff_eq.1 h)]
  refine z7 tabOk Tryz.func82 rfl trivial ?_
  show vI .i64 (((a.con.map eI).length : Nat) : Int) = _
  rw [List.length_map]
 have h : (k == 4) = false := h
 rw [if_neg (beq_eq_false_iff_ne.1 h)]
 exact z7 tabOk Tryz.func82 rfl trivial rfl
theorem zg5 (x y : Nm) : ACall Tryz.prog 84 [.d (eNm x), .d (eNm y)] [] (fun r o => r = vB (behB x y)) := by
 refine za Tryz.func84 rfl rfl (Nat.le_of_ble_eq_true rfl) fun C hC hCl hDs hGk => ?_
 refine ze tabOk Tryz.func84 rfl trivial (z9b x.1) (.refl _) rfl ⟨_, rfl⟩ (by rintro r o rfl; rfl) ?_
 rintro _ o rfl
 refine ze tabOk Tryz.func84 rfl trivial (z9b y.1) (.refl _) rfl ⟨_, rfl⟩ (by rintro r o rfl; rfl) ?_
 rintro _ o rfl
 unfold behB
 generalize kindN x.1 = k
 generalize kindN y.1 = j
 refine z6 tabOk Tryz.func84 rfl trivial (fun h1 => ?_) (fun h1 => ?_)
 ·have h1 : decide (k < j) = true := h1
  rw [decide_eq_true_eq] at h1
  refine z7 tabOk Tryz.func84 rfl trivial ?_
  rw [decide_eq_true (Or.inl h1)]
  rfl
 have h1 : decide (k < j) = false := h1
 rw [decide_eq_false_iff_not] at h1
 refine z6 tabOk Tryz.func84 rfl trivial (fun h2 => ?_) (fun h2 => ?_)
 ·have h2 : (k == j) = true := h2
  rw [beq_iff_eq] at h2
  refine z7 tabOk Tryz.func84 rfl trivial ?_
  show vB (decide (x.2.1 < y.2.1)) = _
  congr 2
  rw [eq_iff_iff]
  constructor
  ·exact fun h => .inr ⟨h2, h⟩
  ·exact fun h => h.elim (fun h => absurd h h1) (fun h => h.2)
 ·have h2 : (k == j) = false := h2
  rw [beq_eq_false_iff_ne] at h2
  refine z7 tabOk Tryz.func84 rfl trivial ?_
  rw [decide_eq_false (fun h => h.elim h1 fun h => h2 h.1)]
  rfl
theorem z7t (l : List Int) (v : Int) (hv : 0 ≤ v ∧ v ≤ 3000000) (hl : l.length ≤ maxLen) : ACall Tryz.prog 80 [.d (eIs l), vI .i64 v] [] (fun r o => r = vB (z1m v l)) := by
 refine za Tryz.func80 rfl rfl (Nat.le_of_ble_eq_true rfl) fun C hC hCl hDs hGk => ?_
 have hml : maxLen = 9223372036854775807 := rfl
 unfold z1m
 have e1 : IntKind.i64.wrap (2 * v) = 2 * v := zb (by omega) (by omega)
 have e2 : IntKind.i64.wrap (2 * v + 1) = 2 * v + 1 := zb (by omega) (by omega)
 have no : ∀ {i : Nat} (h : i < l.length), ¬ (0 ≤ l.getD i 0 ∧ l.getD i 0 ≤ 2 * v + 1) → l.all (fun x => decide (0 ≤ x ∧ x ≤ 2 * v + 1)) = false := fun {i} h hn => by
  rw [z9m (d := 0) h] at hn
  rw [← Bool.not_eq_true, List.all_eq_true]
  exact fun hh => hn (of_decide_eq_true (hh _ (List.getElem_mem h)))
 refine z8 tabOk Tryz.func80 rfl trivial ?_
 refine zh (α := Nat) (fun i => [(0, .d (eIs l)), (1, vI .i64 v), (5, vI .i64 (i : Int))]) (fun _ => []) (fun i => i ≤ l.length ∧ ∀ q (h : q < l.length), q < i → 0 ≤ l[q] ∧ l[q] ≤ 2 * v + 1) (fun i => l.length - i) 0 ⟨Nat.zero_le _, fun q _ h => absurd h (Nat.not_lt_zero q)⟩ ?_ ?_
 ·exact fun h => zg h hC hCl ⟨⟨_, rfl, .refl _⟩, ⟨_, rfl, .refl _⟩, ⟨_, rfl, .refl _⟩, trivial⟩ trivial rfl rfl (Nat.zero_le _)
 rintro i ⟨hi, hq⟩ ih
 refine z6 tabOk Tryz.func80 rfl trivial (fun hb => ?_) (fun hb => ?_)
 ·have hb : decide ((i : Int) < (((l.map eI).length : Nat) : Int)) = true := hb
  rw [decide_eq_true_eq, List.length_map] at hb
  have hlt : i < l.length := by omega
  refine z6 tabOk Tryz.func80 rfl (by simp only [andP, and_true, true_and, Int.toNat_natCast, List.length_map, List.length_append, List.length_cons, List.length_nil, List.length_replicate]; omega) (fun h1 => ?_) (fun h1 => ?_)
  ·have h1 : decide (l.getD i 0 < 0) = true := h1
   rw [decide_eq_true_eq] at h1
   refine z6 tabOk Tryz.func80 rfl trivial (fun _ => ?_) (fun h => by cases h)
   refine z7 tabOk Tryz.func80 rfl trivial ?_
   rw [no hlt (by omega), Bool.and_false]
   rfl
  have h1 : decide (l.getD i 0 < 0) = false := h1
  rw [decide_eq_false_iff_not] at h1
  refine z6 tabOk Tryz.func80 rfl (by simp only [andP, and_true, true_and, Int.toNat_natCast, List.length_map, List.length_append, List.length_cons, List.length_nil, List.length_replicate]; omega) (fun h2 => ?_) (fun h2 => ?_)
  ·have h2 : decide (l.getD i 0 > IntKind.i64.wrap (IntKind.i64.wrap (2 * v) + 1)) = true := h2
   rw [e1, e2, decide_eq_true_eq] at h2
   refine z7 tabOk Tryz.func80 rfl trivial ?_
   rw [no hlt (by omega), Bool.and_false]
   rfl
  have h2 : decide (l.getD i 0 > IntKind.i64.wrap (IntKind.i64.wrap (2 * v) + 1)) = false := h2
  rw [e1, e2, decide_eq_false_iff_not] at h2
  refine z8 tabOk Tryz.func80 rfl trivial ?_
  refine zg (ih (i + 1) ⟨by omega, fun q hq2 hqi => ?_⟩ (by omega)) hC hCl ⟨⟨_, rfl, .refl _⟩, ⟨_, rfl, .refl _⟩, ⟨_, rfl, .of (by rw [zb (by omega) (by omega)]; rfl)⟩, trivial⟩ trivial rfl rfl (Nat.zero_le _)
  rcases Nat.lt_or_ge q i with h3 | h3
  ·exact hq q hq2 h3
  ·obtain rfl : q = i := by omega
   rw [z9m (d := 0) hlt] at h1 h2
   omega
 ·have hb : decide ((i : Int) < (((l.map eI).length : Nat) : Int)) = false := hb
  rw [decide_eq_false_iff_not, List.length_map] at hb
  obtain rfl : i = l.length := by omega
  have hall : l.all (fun x => decide (0 ≤ x ∧ x ≤ 2 * v + 1)) = true := by
   rw [List.all_eq_true]
   intro x hx
   obtain ⟨q, hq2, rfl⟩ := List.mem_iff_getElem.1 hx
   exact decide_eq_true (hq q hq2 hq2)
  refine z7 tabOk Tryz.func80 rfl trivial ?_
  rw [hall, Bool.and_true]
  show vB (decide ((((l.map eI).length : Nat) : Int) ≤ 2000)) = _
  rw [List.length_map]
  congr 2
  rw [eq_iff_iff]
  omega
theorem z8j {a : Ag} (h : nmsOk a none a.names = false) : z2i a = false := by
 rw [← Bool.not_eq_true]
 intro hr
 have := (z13.1 hr).nms
 rw [h] at this
 cases this
theorem za3 (a : Ag) (ho : a.outs.length ≤ maxLen ∧ a.bad.length ≤ maxLen ∧ a.con.length ≤ maxLen) (hs : ∀ x ∈ a.names, x.2.2.length ≤ maxLen) : ACall Tryz.prog 36 [.d (eAg a)] [] (fun r o => r = vB (z2i a)) := by
 refine za Tryz.func36 rfl rfl (Nat.le_of_ble_eq_true rfl) fun C hC hCl hDs hGk => ?_
 refine z6 tabOk Tryz.func36 rfl trivial (fun h1 => ?_) (fun h1 => ?_)
 ·have h1 : decide (a.i < 0) = true := h1
  rw [decide_eq_true_eq] at h1
  repeat refine z6 tabOk Tryz.func36 rfl trivial (fun _ => ?_) (fun h => by cases h)
  refine z7 tabOk Tryz.func36 rfl trivial ?_
  rw [z2h (fun h => by omega)]
  rfl
 have h1 : decide (a.i < 0) = false := h1
 rw [decide_eq_false_iff_not] at h1
 refine z6 tabOk Tryz.func36 rfl trivial (fun h2 => ?_) (fun h2 => ?_)
 ·have h2 : decide (a.i > 20000) = true := h2
  rw [decide_eq_true_eq] at h2
  repeat refine z6 tabOk Tryz.func36 rfl trivial (fun _ => ?_) (fun h => by cases h)
  refine z7 tabOk Tryz.func36 rfl trivial ?_
  rw [z2h (fun h => by omega)]
  rfl
 have h2 : decide (a.i > 20000) = false := h2
 rw [decide_eq_false_iff_not] at h2
 refine z6 tabOk Tryz.func36 rfl trivial (fun h3 => ?_) (fun h3 => ?_)
 ·have h3 : decide ((((a.l.map eP2).length : Nat) : Int) > 20000) = true := h3
  rw [decide_eq_true_eq, List.length_map] at h3
  repeat refine z6 tabOk Tryz.func36 rfl trivial (fun _ => ?_) (fun h => by cases h)
  refine z7 tabOk Tryz.func36 rfl trivial ?_
  rw [z2h (fun h => by omega)]
  rfl
 have h3 : decide ((((a.l.map eP2).length : Nat) : Int) > 20000) = false := h3
 rw [decide_eq_false_iff_not, List.length_map] at h3
 refine z6 tabOk Tryz.func36 rfl trivial (fun h4 => ?_) (fun h4 => ?_)
 ·have h4 : decide ((((a.g.map eP2).length : Nat) : Int) > 20000) = true := h4
  rw [decide_eq_true_eq, List.length_map] at h4
  repeat refine z6 tabOk Tryz.func36 rfl trivial (fun _ => ?_) (fun h => by cases h)
  refine z7 tabOk Tryz.func36 rfl trivial ?_
  rw [z2h (fun h => by omega)]
  rfl
 have h4 : decide ((((a.g.map eP2).length : Nat) : Int) > 20000) = false := h4
 rw [decide_eq_false_iff_not, List.length_map] at h4
 have hB : AgB a := ⟨by omega, by omega, by omega, by omega⟩
 have hv := z1z hB
 refine ze tabOk Tryz.func36 rfl trivial (z3j a hB) (.refl _) rfl ⟨_, rfl⟩ (by rintro r o rfl; rfl) ?_
 rintro _ o rfl
 refine z6 tabOk Tryz.func36 rfl trivial (fun h5 => ?_) (fun h5 => ?_)
 ·have h5 : decide (varsA a > 20000) = true := h5
  rw [decide_eq_true_eq] at h5
  repeat refine z6 tabOk Tryz.func36 rfl trivial (fun _ => ?_) (fun h => by cases h)
  refine z7 tabOk Tryz.func36 rfl trivial ?_
  rw [z2h (fun h => by omega)]
  rfl
 have h5 : decide (varsA a > 20000) = false := h5
 rw [decide_eq_false_iff_not] at h5
 refine z6 tabOk Tryz.func36 rfl trivial (fun h6 => ?_) (fun h6 => ?_)
 ·have h6 : decide ((((a.names.map eNm).length : Nat) : Int) > 2000) = true := h6
  rw [decide_eq_true_eq, List.length_map] at h6
  refine z7 tabOk Tryz.func36 rfl trivial ?_
  have : z2i a = false := by
   rw [← Bool.not_eq_true]
   intro hr
   have := (z13.1 hr).nml
   omega
  rw [this]
  rfl
 have h6 : decide ((((a.names.map eNm).length : Nat) : Int) > 2000) = false := h6
 rw [decide_eq_false_iff_not, List.length_map] at h6
 refine ze tabOk Tryz.func36 rfl trivial (z3j a hB) (.refl _) rfl ⟨_, rfl⟩ (by rintro r o rfl; rfl) ?_
 rintro _ o rfl
 refine ze tabOk Tryz.func36 rfl trivial (z7t a.outs (varsA a) hv ho.1) (.refl _) rfl ⟨_, rfl⟩ (by rintro r o rfl; rfl) ?_
 rintro _ o rfl
 refine ze tabOk Tryz.func36 rfl trivial (z7t a.bad (varsA a) hv ho.2.1) (.refl _) rfl ⟨_, rfl⟩ (by rintro r o rfl; rfl) ?_
 rintro _ o rfl
 refine ze tabOk Tryz.func36 rfl trivial (z7t a.con (varsA a) hv ho.2.2) (.refl _) rfl ⟨_, rfl⟩ (by rintro r o rfl; rfl) ?_
 rintro _ o rfl
 cases q1 : z1m (varsA a) a.outs with
 | false =>
  repeat refine z6 tabOk Tryz.func36 rfl trivial (fun _ => ?_) (fun h => by cases h)
  refine z7 tabOk Tryz.func36 rfl trivial ?_
  rw [z42 (fun h => by rw [h.2.2.1] at q1; cases q1)]
  rfl
 | true =>
 refine z6 tabOk Tryz.func36 rfl trivial (fun h => by cases h) (fun _ => ?_)
 cases q2 : z1m (varsA a) a.bad with
 | false =>
  repeat refine z6 tabOk Tryz.func36 rfl trivial (fun _ => ?_) (fun h => by cases h)
  refine z7 tabOk Tryz.func36 rfl trivial ?_
  rw [z42 (fun h => by rw [h.2.2.2.1] at q2; cases q2)]
  rfl
 | true =>
 refine z6 tabOk Tryz.func36 rfl trivial (fun h => by cases h) (fun _ => ?_)
 cases q3 : z1m (varsA a) a.con with
 | false =>
  repeat refine z6 tabOk Tryz.func36 rfl trivial (fun _ => ?_) (fun h => by cases h)
  refine z7 tabOk Tryz.func36 rfl trivial ?_
  rw [z42 (fun h => by rw [h.2.2.2.2] at q3; cases q3)]
  rfl
 | true =>
 refine z6 tabOk Tryz.func36 rfl trivial (fun h => by cases h) (fun _ => ?_)
 refine z8 tabOk Tryz.func36 rfl trivial ?_
 refine zh (α := Nat) (fun j => [(1, .ptr 0 0), (3, vI .i64 (varsA a)), (7, vI .i64 (j : Int))]) (fun _ => [some (bAg a)]) (fun j => j ≤ a.l.length ∧ latOk a.i (varsA a) 0 a.l = latOk a.i (varsA a) j (a.l.drop j)) (fun j => a.l.length - j) 0 ⟨Nat.zero_le _, rfl⟩ ?_ ?_
 ·exact fun h => zg h hC hCl ⟨⟨_, rfl, .refl _⟩, ⟨_, rfl, .refl _⟩, ⟨_, rfl, .refl _⟩, trivial⟩ ⟨.refl _, trivial⟩ rfl rfl (Nat.zero_le _)
 rintro j ⟨hj, hL⟩ ih
 refine z6 tabOk Tryz.func36 rfl trivial (fun hb => ?_) (fun hb => ?_)
 ·have hb : decide ((j : Int) < (((a.l.map eP2).length : Nat) : Int)) = true := hb
  rw [decide_eq_true_eq, List.length_map] at hb
  have hlt : j < a.l.length := by omega
  have hst := zk1 a.i (varsA a) hlt
  rw [← hL] at hst
  have ih := fun h => ih (j + 1) ⟨by omega, h⟩ (by omega)
  have e0 : IntKind.i64.wrap (2 * varsA a) = 2 * varsA a := zb (by omega) (by omega)
  have e0' : IntKind.i64.wrap (2 * varsA a + 1) = 2 * varsA a + 1 := zb (by omega) (by omega)
  have e1 : IntKind.i64.wrap (a.i + (j : Int)) = a.i + (j : Int) := zb (by omega) (by omega)
  have e2 : IntKind.i64.wrap (a.i + (j : Int) + 1) = a.i + (j : Int) + 1 := zb (by omega) (by omega)
  have e3 : IntKind.i64.wrap (2 * (a.i + (j : Int) + 1)) = 2 * (a.i + 1 + (j : Int)) := by rw [zb (by omega) (by omega)]; omega
  refine zj 13 tabOk Tryz.func36 rfl (by simp only [andP, and_true, true_and, Int.toNat_natCast, List.length_map, List.length_append, List.length_cons, List.length_nil, List.length_replicate]; omega) ?_
  refine zg (env' := [(1, .ptr 0 0), (3, vI .i64 (varsA a)), (7, vI .i64 (j : Int)), (8, .ptr 1 0)]) (objs' := [some (bAg a), some (bP2 85 (p2 a.l j))]) ?_ hC hCl ⟨⟨_, rfl, .refl _⟩, ⟨_, rfl, .refl _⟩, ⟨_, rfl, .refl _⟩, ⟨_, rfl, .refl _⟩, trivial⟩ ⟨.refl _, .refl _, trivial⟩ rfl rfl (Nat.zero_le _)
  generalize p2 a.l j = p at *
  have no : ¬ ((0 ≤ p.1 ∧ p.1 ≤ 2 * varsA a + 1) ∧ (p.2 = 0 ∨ p.2 = 1 ∨ p.2 = 2 * (a.i + 1 + (j : Int)))) → z2i a = false := fun hn => z42 (fun h => by rw [h.1, decide_eq_false hn] at hst; cases hst)
  refine z6 tabOk Tryz.func36 rfl trivial (fun h7 => ?_) (fun h7 => ?_)
  ·have h7 : decide (p.1 < 0) = true := h7
   rw [decide_eq_true_eq] at h7
   repeat refine z6 tabOk Tryz.func36 rfl trivial (fun _ => ?_) (fun h => by cases h)
   refine z7 tabOk Tryz.func36 rfl trivial ?_
   rw [no (by omega)]
   rfl
  have h7 : decide (p.1 < 0) = false := h7
  rw [decide_eq_false_iff_not] at h7
  refine z6 tabOk Tryz.func36 rfl trivial (fun h8 => ?_) (fun h8 => ?_)
  ·have h8 : decide (p.1 > IntKind.i64.wrap (IntKind.i64.wrap (2 * varsA a) + 1)) = true := h8
   rw [e0, e0', decide_eq_true_eq] at h8
   repeat refine z6 tabOk Tryz.func36 rfl trivial (fun _ => ?_) (fun h => by cases h)
   refine z7 tabOk Tryz.func36 rfl trivial ?_
   rw [no (by omega)]
   rfl
  have h8 : decide (p.1 > IntKind.i64.wrap (IntKind.i64.wrap (2 * varsA a) + 1)) = false := h8
  rw [e0, e0', decide_eq_false_iff_not] at h8
  have next : (p.2 = 0 ∨ p.2 = 1 ∨ p.2 = 2 * (a.i + 1 + j)) → latOk a.i (varsA a) 0 a.l = latOk a.i (varsA a) (j + 1) (a.l.drop (j + 1)) := fun h => by
   rw [hst, decide_eq_true ⟨by omega, h⟩, Bool.true_and]
  refine z6 tabOk Tryz.func36 rfl trivial (fun h9 => ?_) (fun h9 => ?_)
  rotate_left
  ·have h9 : (p.2 != 0) = false := h9
   rw [bne_eq_false_iff_eq] at h9
   repeat refine z6 tabOk Tryz.func36 rfl trivial (fun h => by cases h) (fun _ => ?_)
   refine z8 tabOk Tryz.func36 rfl trivial ?_
   exact zg (ih (next (.inl h9))) hC hCl ⟨⟨_, rfl, .refl _⟩, ⟨_, rfl, .refl _⟩, ⟨_, rfl, .of (by rw [zb (by omega) (by omega)]; rfl)⟩, trivial⟩ ⟨.refl _, trivial⟩ rfl rfl (Nat.zero_le _)
  have h9 : (p.2 != 0) = true := h9
  rw [bne_iff_ne] at h9
  refine z6 tabOk Tryz.func36 rfl trivial (fun h10 => ?_) (fun h10 => ?_)
  rotate_left
  ·have h10 : (p.2 != 1) = false := h10
   rw [bne_eq_false_iff_eq] at h10
   repeat refine z6 tabOk Tryz.func36 rfl trivial (fun h => by cases h) (fun _ => ?_)
   refine z8 tabOk Tryz.func36 rfl trivial ?_
   exact zg (ih (next (.inr (.inl h10)))) hC hCl ⟨⟨_, rfl, .refl _⟩, ⟨_, rfl, .refl _⟩, ⟨_, rfl, .of (by rw [zb (by omega) (by omega)]; rfl)⟩, trivial⟩ ⟨.refl _, trivial⟩ rfl rfl (Nat.zero_le _)
  have h10 : (p.2 != 1) = true := h10
  rw [bne_iff_ne] at h10
  refine z6 tabOk Tryz.func36 rfl trivial (fun h11 => ?_) (fun h11 => ?_)
  ·have h11 : (p.2 != IntKind.i64.wrap (2 * IntKind.i64.wrap (IntKind.i64.wrap (a.i + (j : Int)) + 1))) = true := h11
   rw [e1, e2, e3, bne_iff_ne] at h11
   refine z7 tabOk Tryz.func36 rfl trivial ?_
   rw [no (by omega)]
   rfl
  ·have h11 : (p.2 != IntKind.i64.wrap (2 * IntKind.i64.wrap (IntKind.i64.wrap (a.i + (j : Int)) + 1))) = false := h11
   rw [e1, e2, e3, bne_eq_false_iff_eq] at h11
   refine z8 tabOk Tryz.func36 rfl trivial ?_
   exact zg (ih (next (.inr (.inr h11)))) hC hCl ⟨⟨_, rfl, .refl _⟩, ⟨_, rfl, .refl _⟩, ⟨_, rfl, .of (by rw [zb (by omega) (by omega)]; rfl)⟩, trivial⟩ ⟨.refl _, trivial⟩ rfl rfl (Nat.zero_le _)
 have hb : decide ((j : Int) < (((a.l.map eP2).length : Nat) : Int)) = false := hb
 rw [decide_eq_false_iff_not, List.length_map] at hb
 obtain rfl : j = a.l.length := by omega
 rw [List.drop_length] at hL
 have hL : latOk a.i (varsA a) 0 a.l = true := hL
 clear ih
 refine z8 tabOk Tryz.func36 rfl trivial ?_
 refine zh (α := Nat) (fun j => [(1, .ptr 0 0), (9, vI .i64 (j : Int))]) (fun _ => [some (bAg a)]) (fun j => j ≤ a.g.length ∧ gatOk (a.i + a.l.length + 1) a.g = gatOk (a.i + a.l.length + 1 + (j : Int)) (a.g.drop j)) (fun j => a.g.length - j) 0 ⟨Nat.zero_le _, by simp⟩ ?_ ?_
 ·exact fun h => zg h hC hCl ⟨⟨_, rfl, .refl _⟩, ⟨_, rfl, .refl _⟩, trivial⟩ ⟨.refl _, trivial⟩ rfl rfl (Nat.zero_le _)
 rintro j ⟨hj, hG⟩ ih
 refine z6 tabOk Tryz.func36 rfl trivial (fun hb => ?_) (fun hb => ?_)
 ·have hb : decide ((j : Int) < (((a.g.map eP2).length : Nat) : Int)) = true := hb
  rw [decide_eq_true_eq, List.length_map] at hb
  have hlt : j < a.g.length := by omega
  have hst := zk8 (a.i + a.l.length + 1) hlt
  rw [← hG] at hst
  have ih := fun h => ih (j + 1) ⟨by omega, h⟩ (by omega)
  have e1 : IntKind.i64.wrap (a.i + (((a.l.map eP2).length : Nat) : Int)) = a.i + (a.l.length : Int) := by rw [List.length_map, zb (by omega) (by omega)]
  have e2 : IntKind.i64.wrap (a.i + (a.l.length : Int) + (j : Int)) = a.i + (a.l.length : Int) + (j : Int) := zb (by omega) (by omega)
  have e3 : IntKind.i64.wrap (a.i + (a.l.length : Int) + (j : Int) + 1) = a.i + (a.l.length : Int) + (j : Int) + 1 := zb (by omega) (by omega)
  have e4 : IntKind.i64.wrap (2 * (a.i + (a.l.length : Int) + (j : Int) + 1)) = 2 * (a.i + (a.l.length : Int) + 1 + (j : Int)) := by rw [zb (by omega) (by omega)]; omega
  refine zj 13 tabOk Tryz.func36 rfl (by simp only [andP, and_true, true_and, Int.toNat_natCast, List.length_map, List.length_append, List.length_cons, List.length_nil, List.length_replicate]; omega) ?_
  refine zg (env' := [(1, .ptr 0 0), (9, vI .i64 (j : Int)), (10, .ptr 1 0)]) (objs' := [some (bAg a), some (bP2 98 (p2 a.g j))]) ?_ hC hCl ⟨⟨_, rfl, .refl _⟩, ⟨_, rfl, .refl _⟩, ⟨_, rfl, .refl _⟩, trivial⟩ ⟨.refl _, .refl _, trivial⟩ rfl rfl (Nat.zero_le _)
  generalize p2 a.g j = p at *
  have no : ¬ (0 ≤ p.2 ∧ p.2 ≤ p.1 ∧ p.1 < 2 * (a.i + a.l.length + 1 + (j : Int))) → z2i a = false := fun hn => z42 (fun h => by rw [h.2.1, decide_eq_false hn] at hst; cases hst)
  refine z6 tabOk Tryz.func36 rfl trivial (fun h7 => ?_) (fun h7 => ?_)
  ·have h7 : decide (p.2 < 0) = true := h7
   rw [decide_eq_true_eq] at h7
   repeat refine z6 tabOk Tryz.func36 rfl trivial (fun _ => ?_) (fun h => by cases h)
   refine z7 tabOk Tryz.func36 rfl trivial ?_
   rw [no (fun h => by omega)]
   rfl
  have h7 : decide (p.2 < 0) = false := h7
  rw [decide_eq_false_iff_not] at h7
  refine z6 tabOk Tryz.func36 rfl trivial (fun h8 => ?_) (fun h8 => ?_)
  ·have h8 : decide (p.2 > p.1) = true := h8
   rw [decide_eq_true_eq] at h8
   repeat refine z6 tabOk Tryz.func36 rfl trivial (fun _ => ?_) (fun h => by cases h)
   refine z7 tabOk Tryz.func36 rfl trivial ?_
   rw [no (fun h => by omega)]
   rfl
  have h8 : decide (p.2 > p.1) = false := h8
  rw [decide_eq_false_iff_not] at h8
  refine z6 tabOk Tryz.func36 rfl trivial (fun h9 => ?_) (fun h9 => ?_)
  ·have h9 : decide (p.1 ≥ IntKind.i64.wrap (2 * IntKind.i64.wrap (IntKind.i64.wrap (IntKind.i64.wrap (a.i + (((a.l.map eP2).length : Nat) : Int)) + (j : Int)) + 1))) = true := h9
   rw [e1, e2, e3, e4, decide_eq_true_eq] at h9
   refine z7 tabOk Tryz.func36 rfl trivial ?_
   rw [no (fun h => by omega)]
   rfl
  ·have h9 : decide (p.1 ≥ IntKind.i64.wrap (2 * IntKind.i64.wrap (IntKind.i64.wrap (IntKind.i64.wrap (a.i + (((a.l.map eP2).length : Nat) : Int)) + (j : Int)) + 1))) = false := h9
   rw [e1, e2, e3, e4, decide_eq_false_iff_not] at h9
   refine z8 tabOk Tryz.func36 rfl trivial ?_
   exact zg (ih (by rw [hst, decide_eq_true (by omega), Bool.true_and])) hC hCl ⟨⟨_, rfl, .refl _⟩, ⟨_, rfl, .of (by rw [zb (by omega) (by omega)]; rfl)⟩, trivial⟩ ⟨.refl _, trivial⟩ rfl rfl (Nat.zero_le _)
 have hb : decide ((j : Int) < (((a.g.map eP2).length : Nat) : Int)) = false := hb
 rw [decide_eq_false_iff_not, List.length_map] at hb
 obtain rfl : j = a.g.length := by omega
 rw [List.drop_length] at hG
 have hG : gatOk (a.i + a.l.length + 1) a.g = true := hG
 clear ih
 refine z8 tabOk Tryz.func36 rfl trivial ?_
 refine zh (α := Nat) (fun i => [(1, .ptr 0 0), (11, vI .i64 (i : Int))]) (fun _ => [some (bAg a)]) (fun i => i ≤ a.names.length ∧ nmsOk a none a.names = nmsOk a (prevN a.names i) (a.names.drop i)) (fun i => a.names.length - i) 0 ⟨Nat.zero_le _, rfl⟩ ?_ ?_
 ·exact fun h => zg h hC hCl ⟨⟨_, rfl, .refl _⟩, ⟨_, rfl, .refl _⟩, trivial⟩ ⟨.refl _, trivial⟩ rfl rfl (Nat.zero_le _)
 rintro i ⟨hi, hN⟩ ih
 refine z6 tabOk Tryz.func36 rfl trivial (fun hb => ?_) (fun hb => ?_)
 rotate_left
 ·have hb : decide ((i : Int) < (((a.names.map eNm).length : Nat) : Int)) = false := hb
  rw [decide_eq_false_iff_not, List.length_map] at hb
  obtain rfl : i = a.names.length := by omega
  rw [List.drop_length] at hN
  refine z7 tabOk Tryz.func36 rfl trivial ?_
  have hv1 : varsA a ≤ 20000 := by omega
  rw [z13.2 ⟨by omega, hv1, hL, hG, q1, q2, q3, hN, by omega⟩]
  rfl
 have hb : decide ((i : Int) < (((a.names.map eNm).length : Nat) : Int)) = true := hb
 rw [decide_eq_true_eq, List.length_map] at hb
 have hlt : i < a.names.length := by omega
 have hst := zjr a hlt
 have hsx : (nm a.names i).2.2.length ≤ maxLen := hs _ (by rw [show nm a.names i = a.names[i] by simp [nm, hlt]]; exact List.getElem_mem hlt)
 rw [← hN] at hst
 have ih := fun h => ih (i + 1) ⟨by omega, h⟩ (by omega)
 have hgi : i ≠ 0 → a.names.getD (IntKind.i64.wrap ((i : Int) - 1)).toNat (0, 0, []) = nm a.names (i - 1) := fun h0 => by
  rw [zb (by omega) (by omega), show ((i : Int) - 1).toNat = i - 1 by omega]
 have hnd : i ≠ 0 → (0 ≤ IntKind.i64.wrap ((i : Int) - 1) ∧ IntKind.i64.wrap ((i : Int) - 1) < (((a.names.map eNm).length : Nat) : Int)) := fun h0 => by
  rw [zb (by omega) (by omega), List.length_map]
  omega
 refine zj 13 tabOk Tryz.func36 rfl (by simp only [andP, and_true, true_and, Int.toNat_natCast, List.length_map, List.length_append, List.length_cons, List.length_nil, List.length_replicate]; omega) ?_
 refine zg (env' := [(1, .ptr 0 0), (11, vI .i64 (i : Int)), (12, .ptr 1 0)]) (objs' := [some (bAg a), some (bNm (nm a.names i))]) ?_ hC hCl ⟨⟨_, rfl, .refl _⟩, ⟨_, rfl, .refl _⟩, ⟨_, rfl, .refl _⟩, trivial⟩ ⟨.refl _, .refl _, trivial⟩ rfl rfl (Nat.zero_le _)
 generalize hx : nm a.names i = x at *
 refine ze tabOk Tryz.func36 rfl trivial (zg2 x.2.2 hsx) (.refl _) rfl ⟨_, rfl⟩ (by rintro r o rfl; rfl) ?_
 rintro _ o rfl
 cases hok : z6f x.2.2 with
 | false =>
  rw [hok, Bool.and_false, Bool.false_and, Bool.false_and] at hst
  refine zp 15 tabOk Tryz.func36 rfl rfl trivial (by kernel_rfl) ?_
  repeat refine z12 tabOk rfl trivial (fun _ => ?_) (fun h => by cases h)
  refine zo tabOk rfl trivial ?_
  repeat refine z6 tabOk Tryz.func36 rfl trivial (fun _ => ?_) (fun h => by cases h)
  refine z7 tabOk Tryz.func36 rfl trivial ?_
  rw [z8j hst]
  rfl
 | true =>
 rw [hok, Bool.and_true] at hst
 refine zp 15 tabOk Tryz.func36 rfl rfl trivial (by kernel_rfl) ?_
 refine z12 tabOk rfl trivial (fun h => by cases h) (fun _ => ?_)
 refine z12 tabOk rfl trivial (fun h7 => ?_) (fun h7 => ?_)
 ·have h7 : decide (x.2.1 < 0) = true := h7
  rw [decide_eq_true_eq] at h7
  rw [decide_eq_false (fun h => by omega), Bool.false_and, Bool.false_and] at hst
  repeat refine z12 tabOk rfl trivial (fun _ => ?_) (fun h => by cases h)
  refine zo tabOk rfl trivial ?_
  repeat refine z6 tabOk Tryz.func36 rfl trivial (fun _ => ?_) (fun h => by cases h)
  refine z7 tabOk Tryz.func36 rfl trivial ?_
  rw [z8j hst]
  rfl
 have h7 : decide (x.2.1 < 0) = false := h7
 rw [decide_eq_false_iff_not] at h7
 repeat refine z12 tabOk rfl trivial (fun h => by cases h) (fun _ => ?_)
 refine zv tabOk rfl trivial (z9b x.1) (zf Tryz.func83 rfl rfl) (by rintro r o rfl; rfl) (.refl _) rfl rfl ⟨_, rfl⟩ ?_
 refine zv tabOk rfl trivial (zhz a (kindN x.1)) (zf Tryz.func82 rfl rfl) (by rintro r o rfl; rfl) (.refl _) rfl rfl ⟨_, rfl⟩ ?_
 refine zo tabOk rfl trivial ?_
 refine z6 tabOk Tryz.func36 rfl trivial (fun h8 => ?_) (fun h8 => ?_)
 ·have h8 : decide (x.2.1 ≥ manyN a (kindN x.1)) = true := h8
  rw [decide_eq_true_eq] at h8
  rw [decide_eq_false (fun h => by omega), Bool.false_and, Bool.false_and] at hst
  refine z7 tabOk Tryz.func36 rfl trivial ?_
  rw [z8j hst]
  rfl
 have h8 : decide (x.2.1 ≥ manyN a (kindN x.1)) = false := h8
 rw [decide_eq_false_iff_not] at h8
 rw [decide_eq_true (by omega), Bool.true_and] at hst
 refine z6 tabOk Tryz.func36 rfl trivial (fun h9 => ?_) (fun h9 => ?_)
 rotate_left
 ·have h9 : decide ((i : Int) > 0) = false := h9
  rw [decide_eq_false_iff_not] at h9
  rw [decide_eq_true (show i = 0 by omega), Bool.true_or, Bool.true_and] at hst
  refine z8 tabOk Tryz.func36 rfl trivial ?_
  exact zg (ih hst) hC hCl ⟨⟨_, rfl, .refl _⟩, ⟨_, rfl, .of (by rw [zb (by omega) (by omega)]; rfl)⟩, trivial⟩ ⟨.refl _, trivial⟩ rfl rfl (Nat.zero_le _)
 have h9 : decide ((i : Int) > 0) = true := h9
 rw [decide_eq_true_eq] at h9
 rw [decide_eq_false (show i ≠ 0 by omega), Bool.false_or] at hst
 refine zp 7 tabOk Tryz.func36 rfl rfl trivial (by kernel_rfl) ?_
 refine zo tabOk rfl ⟨hnd (by omega), trivial⟩ ?_
 refine ze tabOk Tryz.func36 rfl trivial (zg5 (nm a.names (i - 1)) x) ⟨.of ?vl, .refl _, trivial⟩ rfl ⟨_, rfl⟩ (by rintro r o rfl; rfl) ?_
 case vl =>
  show AV.d (eNm (a.names.getD (IntKind.i64.wrap ((i : Int) - 1)).toNat (0, 0, []))) = _
  rw [hgi (by omega)]
 rintro _ o rfl
 cases hbh : behB (nm a.names (i - 1)) x with
 | false =>
  rw [hbh, Bool.false_and] at hst
  refine z6 tabOk Tryz.func36 rfl trivial (fun _ => ?_) (fun h => by cases h)
  refine z7 tabOk Tryz.func36 rfl trivial ?_
  rw [z8j hst]
  rfl
 | true =>
  rw [hbh, Bool.true_and] at hst
  refine z6 tabOk Tryz.func36 rfl trivial (fun h => by cases h) (fun _ => ?_)
  refine z8 tabOk Tryz.func36 rfl trivial ?_
  exact zg (ih hst) hC hCl ⟨⟨_, rfl, .refl _⟩, ⟨_, rfl, .of (by rw [zb (by omega) (by omega)]; rfl)⟩, trivial⟩ ⟨.refl _, trivial⟩ rfl rfl (Nat.zero_le _)
structure SmA (a : Ag) (m : Int) : Prop where
 i : a.i ≤ m
 l : (a.l.length : Int) ≤ m
 g : (a.g.length : Int) ≤ m
 outs : (a.outs.length : Int) ≤ m
 bad : (a.bad.length : Int) ≤ m
 con : (a.con.length : Int) ≤ m
 names : (a.names.length : Int) ≤ m
 s : ∀ x ∈ a.names, x.2.2.length ≤ 200
theorem gt_no {n : Nat} {α : Type} {e : α → D} {l : List α} {m : Int} (h : decide ((((l.map e).length : Nat) : Int) > m) = false) : (l.length : Int) ≤ m := by
 rw [decide_eq_false_iff_not, List.length_map] at h
 omega
theorem zg0 (a : Ag) (m : Int) (hn : a.names.length ≤ maxLen) : ACall Tryz.prog 57 [.d (eAg a), vI .i64 m] [] (fun r o => ∃ x : Bool, r = vB x ∧ (x = true → SmA a m)) := by
 have hml : maxLen = 9223372036854775807 := rfl
 refine za Tryz.func57 rfl rfl (Nat.le_of_ble_eq_true rfl) fun C hC hCl hDs hGk => ?_
 refine z6 tabOk Tryz.func57 rfl trivial (fun h1 => ?_) (fun h1 => ?_)
 ·repeat refine z6 tabOk Tryz.func57 rfl trivial (fun _ => ?_) (fun h => by cases h)
  exact z7 tabOk Tryz.func57 rfl trivial ⟨false, rfl, fun h => by cases h⟩
 refine z6 tabOk Tryz.func57 rfl trivial (fun h2 => ?_) (fun h2 => ?_)
 ·repeat refine z6 tabOk Tryz.func57 rfl trivial (fun _ => ?_) (fun h => by cases h)
  exact z7 tabOk Tryz.func57 rfl trivial ⟨false, rfl, fun h => by cases h⟩
 refine z6 tabOk Tryz.func57 rfl trivial (fun h3 => ?_) (fun h3 => ?_)
 ·repeat refine z6 tabOk Tryz.func57 rfl trivial (fun _ => ?_) (fun h => by cases h)
  exact z7 tabOk Tryz.func57 rfl trivial ⟨false, rfl, fun h => by cases h⟩
 refine z6 tabOk Tryz.func57 rfl trivial (fun h4 => ?_) (fun h4 => ?_)
 ·repeat refine z6 tabOk Tryz.func57 rfl trivial (fun _ => ?_) (fun h => by cases h)
  exact z7 tabOk Tryz.func57 rfl trivial ⟨false, rfl, fun h => by cases h⟩
 refine z6 tabOk Tryz.func57 rfl trivial (fun h5 => ?_) (fun h5 => ?_)
 ·repeat refine z6 tabOk Tryz.func57 rfl trivial (fun _ => ?_) (fun h => by cases h)
  exact z7 tabOk Tryz.func57 rfl trivial ⟨false, rfl, fun h => by cases h⟩
 refine z6 tabOk Tryz.func57 rfl trivial (fun h6 => ?_) (fun h6 => ?_)
 ·repeat refine z6 tabOk Tryz.func57 rfl trivial (fun _ => ?_) (fun h => by cases h)
  exact z7 tabOk Tryz.func57 rfl trivial ⟨false, rfl, fun h => by cases h⟩
 refine z6 tabOk Tryz.func57 rfl trivial (fun h7 => ?_) (fun h7 => ?_)
 ·exact z7 tabOk Tryz.func57 rfl trivial ⟨false, rfl, fun h => by cases h⟩
 have h1 : decide (a.i > m) = false := h1
 rw [decide_eq_false_iff_not] at h1
 have h2 := gt_no (n := 0) (e := eP2) (l := a.l) h2
 have h3 := gt_no (n := 0) (e := eP2) (l := a.g) h3
 have h4 := gt_no (n := 0) (e := eI) (l := a.outs) h4
 have h5 := gt_no (n := 0) (e := eI) (l := a.bad) h5
 have h6 := gt_no (n := 0) (e := eI) (l := a.con) h6
 have h7 := gt_no (n := 0) (e := eNm) (l := a.names) h7
 refine z8 tabOk Tryz.func57 rfl trivial ?_
 refine zh (α := Nat) (fun i => [(2, .ptr 0 0), (5, vI .i64 (i : Int))]) (fun _ => [some (bAg a)]) (fun i => i ≤ a.names.length ∧ ∀ q (h : q < a.names.length), q < i → a.names[q].2.2.length ≤ 200) (fun i => a.names.length - i) 0 ⟨Nat.zero_le _, fun q _ h => absurd h (Nat.not_lt_zero q)⟩ ?_ ?_
 ·exact fun h => zg h hC hCl ⟨⟨_, rfl, .refl _⟩, ⟨_, rfl, .refl _⟩, trivial⟩ ⟨.refl _, trivial⟩ rfl rfl (Nat.zero_le _)
 rintro i ⟨hi, hq⟩ ih
 refine z6 tabOk Tryz.func57 rfl trivial (fun hb => ?_) (fun hb => ?_)
 ·have hb : decide ((i : Int) < (((a.names.map eNm).length : Nat) : Int)) = true := hb
  rw [decide_eq_true_eq, List.length_map] at hb
  have hlt : i < a.names.length := by omega
  refine z6 tabOk Tryz.func57 rfl (by simp only [andP, and_true, true_and, Int.toNat_natCast, List.length_map, List.length_append, List.length_cons, List.length_nil, List.length_replicate]; omega) (fun h8 => ?_) (fun h8 => ?_)
  ·exact z7 tabOk Tryz.func57 rfl trivial ⟨false, rfl, fun h => by cases h⟩
  have h8 : decide (((⟨(a.names.getD i (0, 0, [])).2.2.toArray⟩ : ByteArray).size : Int) > 200) = false := h8
  rw [decide_eq_false_iff_not, z3e, z9m (d := (0, 0, [])) hlt] at h8
  refine z8 tabOk Tryz.func57 rfl trivial ?_
  refine zg (ih (i + 1) ⟨by omega, fun q hq2 hqi => ?_⟩ (by omega)) hC hCl ⟨⟨_, rfl, .refl _⟩, ⟨_, rfl, .of (by rw [zb (by omega) (by omega)]; rfl)⟩, trivial⟩ ⟨.refl _, trivial⟩ rfl rfl (Nat.zero_le _)
  rcases Nat.lt_or_ge q i with h9 | h9
  ·exact hq q hq2 h9
  ·obtain rfl : q = i := by omega
   omega
 ·have hb : decide ((i : Int) < (((a.names.map eNm).length : Nat) : Int)) = false := hb
  rw [decide_eq_false_iff_not, List.length_map] at hb
  obtain rfl : i = a.names.length := by omega
  refine z7 tabOk Tryz.func57 rfl trivial ⟨true, rfl, fun _ => ⟨by omega, h2, h3, h4, h5, h6, h7, fun x hx => ?_⟩⟩
  obtain ⟨q, hq2, rfl⟩ := List.mem_iff_getElem.1 hx
  exact hq q hq2 hq2
structure AgM (a : Ag) : Prop where
 outs : a.outs.length ≤ maxLen
 bad : a.bad.length ≤ maxLen
 con : a.con.length ≤ maxLen
 names : a.names.length ≤ maxLen
 s : ∀ x ∈ a.names, x.2.2.length ≤ maxLen
theorem zle (a : Ag) (h : AgM a) : ACall Tryz.prog 22 [.d (eAg a)] [] (fun r o => ∃ x : Bool, r = vB x ∧ (x = true → SmA a 40 ∧ RightA a)) := by
 refine za Tryz.func22 rfl rfl (Nat.le_of_ble_eq_true rfl) fun C hC hCl hDs hGk => ?_
 refine ze tabOk Tryz.func22 rfl trivial (zg0 a 40 h.names) (.refl _) rfl ⟨_, rfl⟩ (by rintro r o ⟨x, rfl, _⟩; rfl) ?_
 rintro _ o ⟨x, rfl, hx⟩
 refine ze tabOk Tryz.func22 rfl trivial (za3 a ⟨h.outs, h.bad, h.con⟩ h.s) (.refl _) rfl ⟨_, rfl⟩ (by rintro r o rfl; rfl) ?_
 rintro _ o rfl
 cases x with
 | false =>
  refine z6 tabOk Tryz.func22 rfl trivial (fun h => by cases h) (fun _ => ?_)
  exact z7 tabOk Tryz.func22 rfl trivial ⟨false, rfl, fun h => by cases h⟩
 | true =>
  refine z6 tabOk Tryz.func22 rfl trivial (fun _ => ?_) (fun h => by cases h)
  exact z7 tabOk Tryz.func22 rfl trivial ⟨_, rfl, fun h => ⟨hx rfl, z13.1 h⟩⟩
structure SmC (c : Ct) (m : Int) : Prop where
 p0 : z56 c.p0 m = true
 p1 : z56 c.p1 m = true
 p2 : z56 c.p2 m = true
 g : (c.g.length : Int) ≤ m
theorem ze4 (c : Ct) (m : Int) : ACall Tryz.prog 37 [.d (eCt c), vI .i64 m] [] (fun r o => ∃ x : Bool, r = vB x ∧ (x = true → SmC c m)) := by
 refine za Tryz.func37 rfl rfl (Nat.le_of_ble_eq_true rfl) fun C hC hCl hDs hGk => ?_
 refine ze tabOk Tryz.func37 rfl trivial (z7w c.p0 m) (.refl _) rfl ⟨_, rfl⟩ (by rintro r o rfl; rfl) ?_
 rintro _ o rfl
 refine ze tabOk Tryz.func37 rfl trivial (z7w c.p1 m) (.refl _) rfl ⟨_, rfl⟩ (by rintro r o rfl; rfl) ?_
 rintro _ o rfl
 refine ze tabOk Tryz.func37 rfl trivial (z7w c.p2 m) (.refl _) rfl ⟨_, rfl⟩ (by rintro r o rfl; rfl) ?_
 rintro _ o rfl
 cases q0 : z56 c.p0 m with
 | false =>
  repeat refine z6 tabOk Tryz.func37 rfl trivial (fun h => by cases h) (fun _ => ?_)
  exact z7 tabOk Tryz.func37 rfl trivial ⟨false, rfl, fun h => by cases h⟩
 | true =>
 refine z6 tabOk Tryz.func37 rfl trivial (fun _ => ?_) (fun h => by cases h)
 cases q1 : z56 c.p1 m with
 | false =>
  repeat refine z6 tabOk Tryz.func37 rfl trivial (fun h => by cases h) (fun _ => ?_)
  exact z7 tabOk Tryz.func37 rfl trivial ⟨false, rfl, fun h => by cases h⟩
 | true =>
 refine z6 tabOk Tryz.func37 rfl trivial (fun _ => ?_) (fun h => by cases h)
 cases q2 : z56 c.p2 m with
 | false =>
  repeat refine z6 tabOk Tryz.func37 rfl trivial (fun h => by cases h) (fun _ => ?_)
  exact z7 tabOk Tryz.func37 rfl trivial ⟨false, rfl, fun h => by cases h⟩
 | true =>
 refine z6 tabOk Tryz.func37 rfl trivial (fun _ => ?_) (fun h => by cases h)
 refine z7 tabOk Tryz.func37 rfl trivial ⟨_, rfl, fun h => ⟨q0, q1, q2, ?_⟩⟩
 have h : decide ((((c.g.map eP2).length : Nat) : Int) ≤ m) = true := h
 rw [decide_eq_true_eq, List.length_map] at h
 exact h
theorem zpk (a : Ag) (c : Ct) (h : AgM a) : ACall Tryz.prog 12 [.d (eAg a), .d (eCt c)] [] (fun r o => ∃ x : Bool, r = vB x ∧ (x = true → (SmA a 40 ∧ RightA a) ∧ SmC c 20)) := by
 refine za Tryz.func12 rfl rfl (Nat.le_of_ble_eq_true rfl) fun C hC hCl hDs hGk => ?_
 refine ze tabOk Tryz.func12 rfl trivial (zle a h) (.refl _) rfl ⟨_, rfl⟩ (by rintro r o ⟨x, rfl, _⟩; rfl) ?_
 rintro _ o ⟨x, rfl, hx⟩
 cases x with
 | false =>
  refine z6 tabOk Tryz.func12 rfl trivial (fun h => by cases h) (fun _ => ?_)
  exact z7 tabOk Tryz.func12 rfl trivial ⟨false, rfl, fun h => by cases h⟩
 | true =>
  refine z6 tabOk Tryz.func12 rfl trivial (fun _ => ?_) (fun h => by cases h)
  refine ze tabOk Tryz.func12 rfl trivial (ze4 c 20) (.refl _) rfl ⟨_, rfl⟩ (by rintro r o ⟨x, rfl, _⟩; rfl) ?_
  rintro _ o ⟨y, rfl, hy⟩
  exact z7 tabOk Tryz.func12 rfl trivial ⟨y, rfl, fun h => ⟨hx rfl, hy h⟩⟩
theorem z7g (a : Ag) (c : Ct) (h1 : a.g.length ≤ 100000) (h2 : c.g.length ≤ 100000) : ACall Tryz.prog 16 [.d (eAg a), .d (eCt c)] [] (fun r o => r = .d (eAg (zk a c))) := by
 refine za Tryz.func16 rfl rfl (Nat.le_of_ble_eq_true rfl) fun C hC hCl hDs hGk => ?_
 refine ze tabOk Tryz.func16 rfl trivial (zmb [a.g, c.g] (Nat.le_of_ble_eq_true rfl) (by
  intro r hr
  simp only [List.mem_cons, List.not_mem_nil, or_false] at hr
  rcases hr with rfl | rfl
  ·exact h1
  ·exact h2)) ⟨VLe.eL rfl, trivial⟩ rfl ⟨_, rfl⟩ (by rintro r o rfl; rfl) ?_
 rintro _ o rfl
 refine z7 tabOk Tryz.func16 rfl trivial ?_
 show tupOf _ = _
 simp only [List.flatten_cons, List.flatten_nil, List.append_nil]
 rfl
theorem z9p (a : Ag) (k : Int) (h : AgB a) (hk : 0 ≤ k ∧ k ≤ 1000) : ACall Tryz.prog 93 [.d (eAg a), vI .i64 k] [] (fun r o => r = vI .i64 (k * (varsA a + 1))) := by
 refine za Tryz.func93 rfl rfl (Nat.le_of_ble_eq_true rfl) fun C hC hCl hDs hGk => ?_
 have hv := z1z h
 have e1 : IntKind.i64.wrap (varsA a + 1) = varsA a + 1 := zb (by omega) (by omega)
 have hp : 0 ≤ k * (varsA a + 1) ∧ k * (varsA a + 1) ≤ 1000 * 3000001 := ⟨Int.mul_nonneg hk.1 (by omega), Int.mul_le_mul hk.2 (by omega) (by omega) (by decide)⟩
 have e2 : IntKind.i64.wrap (k * (varsA a + 1)) = k * (varsA a + 1) := zb (by omega) (by omega)
 refine ze tabOk Tryz.func93 rfl trivial (z4e a h) (.refl _) rfl ⟨_, rfl⟩ (by rintro r o rfl; rfl) ?_
 rintro _ o rfl
 refine z7 tabOk Tryz.func93 rfl trivial ?_
 show vI .i64 (IntKind.i64.wrap (k * IntKind.i64.wrap (varsA a + 1))) = _
 rw [e1, e2]
@[reducible] def dV3 (a : Ag) : D := .ag [eI (varsA a + 1), eI (2 * (varsA a + 1)), eI (varsA a + 1)]
theorem zdt (a : Ag) (h : AgB a) : ACall Tryz.prog 49 [.d (eAg a)] [] (fun r o => r = .d (dV3 a)) := by
 refine za Tryz.func49 rfl rfl (Nat.le_of_ble_eq_true rfl) fun C hC hCl hDs hGk => ?_
 have hc := fun k hk => z9p a k h hk
 refine zp 5 tabOk Tryz.func49 rfl rfl trivial (by kernel_rfl) ?_
 refine zv tabOk rfl trivial (hc 1 (by decide)) (zf Tryz.func93 rfl rfl) (by rintro r o rfl; rfl) (.refl _) rfl rfl ⟨_, rfl⟩ ?_
 refine zv tabOk rfl trivial (hc 2 (by decide)) (zf Tryz.func93 rfl rfl) (by rintro r o rfl; rfl) (.refl _) rfl rfl ⟨_, rfl⟩ ?_
 refine zo tabOk rfl trivial ?_
 refine ze tabOk Tryz.func49 rfl trivial (hc 1 (by decide)) (.refl _) rfl ⟨_, rfl⟩ (by rintro r o rfl; rfl) ?_
 rintro _ o rfl
 refine z7 tabOk Tryz.func49 rfl trivial ?_
 show tupOf _ = _
 rw [Int.one_mul]
 rfl
def hSt (H : List Bool) (v : Nat) : List Bool := H.take v ++ List.replicate (H.length - v) false
theorem zsj (H : List Bool) (v : Nat) (h : v ≤ H.length) : (hSt H v).length = H.length := by
 unfold hSt
 rw [List.length_append, List.length_take, List.length_replicate]
 omega
theorem zsk {H : List Bool} {v j : Nat} (h : v ≤ H.length) (hj : j < v) : (hSt H v).getD j false = H.getD j false := by
 unfold hSt
 rw [z75 false (by rw [List.length_take]; omega)]
 simp [List.getD_eq_getElem?_getD, List.getElem?_take, hj]
theorem zrs {H : List Bool} {v : Nat} (h : v < H.length) : hSt H v = H.take v ++ (false :: List.replicate (H.length - (v + 1)) false) := by
 unfold hSt
 rw [show H.length - v = (H.length - (v + 1)) + 1 by omega, List.replicate_succ]
theorem zk6 {H : List Bool} {v : Nat} (h : v < H.length) : hSt H (v + 1) = H.take v ++ (H.getD v false :: List.replicate (H.length - (v + 1)) false) := by
 unfold hSt
 rw [List.take_succ_eq_append_getElem h, List.append_assoc, show H.getD v false = H[v] by simp [h]]
 rfl
theorem zmv : ∀ (p t : List Bool) (x b : Bool), (p ++ x :: t).set p.length b = p ++ b :: t
 | [], t, x, b => rfl
 | y :: p, t, x, b => by
  rw [List.cons_append, List.length_cons, List.set_cons_succ, zmv p t x b]
  rfl
theorem zsi {H : List Bool} {v : Nat} {b : Bool} (h : v < H.length) (hb : H.getD v false = b) : (hSt H v).set v b = hSt H (v + 1) := by
 have := zmv (H.take v) (List.replicate (H.length - (v + 1)) false) false b
 rw [List.length_take, Nat.min_eq_left (by omega)] at this
 rw [zrs h, zk6 h, hb, this]
theorem zr5 {H : List Bool} {v : Nat} (h : v < H.length) (hb : H.getD v false = false) : hSt H v = hSt H (v + 1) := by
 rw [zrs h, zk6 h, hb]
theorem zsl (H : List Bool) : hSt H H.length = H := by
 unfold hSt
 rw [List.take_length, Nat.sub_self]
 simp
theorem zc1 : ∀ (g : List P2) (v : List Bool), ∃ t, hangG g v = v ++ t
 | [], v => ⟨[], by simp [hangG]⟩
 | p :: g, v => by
  obtain ⟨t, h⟩ := zc1 g (v ++ [v.getD (p.1 / 2).toNat false || v.getD (p.2 / 2).toNat false])
  exact ⟨_, by rw [hangG, h, List.append_assoc]⟩
theorem zgl {i s : Nat} {g : List P2} {v : Nat} (h : v < i + s + 1) : (hangA i s g).getD v false = decide (1 ≤ v ∧ v ≤ i) := by
 obtain ⟨t, ht⟩ := zc1 g (hang0 i s)
 unfold hangA
 rw [ht, z75 false (by rw [z5g]; exact h)]
 unfold hang0
 rcases v with _ | v
 ·rw [decide_eq_false (by omega)]
  rfl
 ·simp only [List.getD_eq_getElem?_getD, List.getElem?_cons_succ]
  rcases Nat.lt_or_ge v i with h2 | h2
  ·rw [List.getElem?_append_left (by simpa using h2), List.getElem?_replicate, if_pos h2, decide_eq_true (by omega)]
   rfl
  ·rw [List.getElem?_append_right (by simpa using h2), List.length_replicate, List.getElem?_replicate, if_pos (by omega), decide_eq_false (by omega)]
   rfl
theorem zc2 : ∀ (g : List P2) (v : List Bool) (j : Nat) (h : j < g.length), GOkF v.length g → (hangG g v).getD (v.length + j) false = ((hangG g v).getD (g[j].1 / 2).toNat false || (hangG g v).getD (g[j].2 / 2).toNat false)
 | p :: g, v, 0, _, hg => by
  obtain ⟨⟨g1, g2, g3⟩, _⟩ := hg
  obtain ⟨t, ht⟩ := zc1 g (v ++ [v.getD (p.1 / 2).toNat false || v.getD (p.2 / 2).toNat false])
  rw [hangG, ht]
  have l1 : (p.1 / 2).toNat < v.length := by omega
  have l2 : (p.2 / 2).toNat < v.length := by omega
  rw [List.getElem_cons_zero, Nat.add_zero, List.append_assoc, z75 (j := (p.1 / 2).toNat) false l1, z75 (j := (p.2 / 2).toNat) false l2]
  simp [List.getD_eq_getElem?_getD]
 | p :: g, v, j + 1, h, hg => by
  have ih := zc2 g (v ++ [v.getD (p.1 / 2).toNat false || v.getD (p.2 / 2).toNat false]) j (by simpa using h) (by simpa using hg.2)
  rw [hangG]
  rw [List.length_append, List.length_singleton, show v.length + 1 + j = v.length + (j + 1) by omega] at ih
  simpa using ih
@[reducible] def eBo (b : Bool) : D := .v (.bool b)
@[reducible] def gBo (l : List Bool) : AObj := gL 4 1 eBo false l
theorem zdi (a : Ag) (l : Int) (h : AgB a) (hg : gatOk (a.i + a.l.length + 1) a.g = true) (hl : 0 ≤ l ∧ l ≤ 2 * varsA a + 1) : ACall Tryz.prog 48 [.d (eAg a), vI .i64 l] [] (fun r o => r = vB (z3y a l)) := by
 refine za Tryz.func48 rfl rfl (Nat.le_of_ble_eq_true rfl) fun C hC hCl hDs hGk => ?_
 have hv := z1z h
 have hi0 := h.i0
 have hi1 := h.i1
 have hll := h.l
 have hgl := h.g
 have hit : ((a.i.toNat : Nat) : Int) = a.i := by omega
 have hF : GOkF (a.i.toNat + a.l.length + 1) a.g := zet (by rw [show ((a.i.toNat + a.l.length + 1 : Nat) : Int) = a.i + a.l.length + 1 by omega]; exact hg)
 have hHl := zgn a.i.toNat a.l.length a.g
 have hg0 := fun v => @zgl a.i.toNat a.l.length a.g v
 have hgg := fun j hj => zc2 a.g (hang0 a.i.toNat a.l.length) j hj (by rw [z5g]; exact hF)
 rw [z5g] at hgg
 have hNN : ((hangA a.i.toNat a.l.length a.g).length : Int) = varsA a + 1 := by rw [hHl]; unfold varsA; omega
 unfold z3y
 change ∀ j (hj : j < a.g.length), (hangA a.i.toNat a.l.length a.g).getD (a.i.toNat + a.l.length + 1 + j) false = ((hangA a.i.toNat a.l.length a.g).getD (a.g[j].1 / 2).toNat false || (hangA a.i.toNat a.l.length a.g).getD (a.g[j].2 / 2).toNat false) at hgg
 generalize hangA a.i.toNat a.l.length a.g = H at *
 have e1 : IntKind.i64.wrap (varsA a + 1) = varsA a + 1 := zb (by omega) (by omega)
 refine ze tabOk Tryz.func48 rfl trivial (z4e a h) (.refl _) rfl ⟨_, rfl⟩ (by rintro r o rfl; rfl) ?_
 rintro _ o rfl
 refine z8 tabOk Tryz.func48 rfl ?nd ?_
 case nd =>
  rw [e1]
  refine ⟨⟨by omega, Int.le_refl _, ?_⟩, trivial⟩
  show (varsA a + 1) * 1 ≤ 281474976710656
  omega
 refine zh (α := Nat) (fun v => [(1, vI .i64 l), (2, .ptr 0 0), (5, .gs 1), (13, vI .i64 (H.length : Int)), (14, vI .i64 (v : Int))]) (fun v => [some (bAg a), some (gBo (hSt H v))]) (fun v => v ≤ H.length) (fun v => H.length - v) 0 (Nat.zero_le _) ?_ ?_
 ·refine fun h => zg h hC hCl ⟨⟨_, rfl, .refl _⟩, ⟨_, rfl, .refl _⟩, ⟨_, rfl, .refl _⟩, ⟨_, rfl, .of ?_⟩, ⟨_, rfl, .refl _⟩, trivial⟩ ⟨.refl _, .gL ?_, trivial⟩ rfl rfl (Nat.zero_le _)
  ·rw [List.length_replicate, e1, ← hNN, Int.toNat_natCast]
  ·rw [e1, ← hNN, Int.toNat_natCast]
   unfold hSt
   rw [List.take_zero, List.nil_append, Nat.sub_zero, List.map_replicate]
   rfl
 rintro v hvl ih
 have hsl := zsj H v hvl
 refine z6 tabOk Tryz.func48 rfl trivial (fun hb => ?_) (fun hb => ?_)
 rotate_left
 ·have hb : decide ((v : Int) < (H.length : Int)) = false := hb
  rw [decide_eq_false_iff_not] at hb
  obtain rfl : v = H.length := by omega
  have hq : Int.tdiv l 2 = l / 2 := Int.tdiv_eq_ediv_of_nonneg hl.1
  have e2 : IntKind.i64.wrap (Int.tdiv l 2) = l / 2 := by rw [hq, zb (by omega) (by omega)]
  refine z7 tabOk Tryz.func48 rfl ?_ ?_
  ·rw [e2, List.length_map, hsl]
   exact ⟨by omega, ⟨by omega, by omega⟩, by decide, trivial⟩
  ·rw [e2, zsl]
   rfl
 have hb : decide ((v : Int) < (H.length : Int)) = true := hb
 rw [decide_eq_true_eq] at hb
 have hlt : v < H.length := by omega
 have ih := ih (v + 1) (by omega) (by omega)
 have hset := fun b => @zsi H v b hlt
 have hsame := @zr5 H v hlt
 have hget := fun j => @zsk H v j hvl
 apply letK (p := ASat Tryz.prog 48 Tryz.f48.ntmps C _ [(1, vI .i64 l), (2, .ptr 0 0), (5, .gs 1), (13, vI .i64 (H.length : Int)), (14, vI .i64 (v : Int)), (6, vI .i64 (v : Int))] [some (bAg a), some (gBo (if v < a.i.toNat + a.l.length + 1 then hSt H (v + 1) else hSt H v))] (fun r o => r = vB (H.getD (l / 2).toNat false)))
 ·intro key
  refine z6 tabOk Tryz.func48 rfl trivial (fun h1 => ?_) (fun h1 => ?_)
  ·have h1 : decide ((v : Int) ≥ 1) = true := h1
   rw [decide_eq_true_eq] at h1
   refine z6 tabOk Tryz.func48 rfl trivial (fun h2 => ?_) (fun h2 => ?_)
   ·have h2 : decide ((v : Int) ≤ a.i) = true := h2
    rw [decide_eq_true_eq] at h2
    rw [if_pos (by omega), ← hset true (by rw [hg0 v (by omega), decide_eq_true (by omega)])] at key
    refine zj 7 tabOk Tryz.func48 rfl ?nd1 ?_
    case nd1 =>
     rw [List.length_map, hsl, Int.toNat_natCast]
     exact ⟨by omega, ⟨by omega, by omega⟩, trivial⟩
    refine zg key hC hCl ⟨⟨_, rfl, .refl _⟩, ⟨_, rfl, .refl _⟩, ⟨_, rfl, .refl _⟩, ⟨_, rfl, .refl _⟩, ⟨_, rfl, .refl _⟩, ⟨_, rfl, .refl _⟩, trivial⟩ ⟨.refl _, .gL ?_, trivial⟩ rfl rfl (Nat.zero_le _)
    rw [List.map_set]
    rfl
   ·have h2 : decide ((v : Int) ≤ a.i) = false := h2
    rw [decide_eq_false_iff_not] at h2
    have key2 : (if v < a.i.toNat + a.l.length + 1 then hSt H (v + 1) else hSt H v) = hSt H v := by
     split
     ·exact (hsame (by rw [hg0 v (by assumption), decide_eq_false (by omega)])).symm
     ·rfl
    rw [key2] at key
    refine zj 2 tabOk Tryz.func48 rfl trivial ?_
    exact zg key hC hCl ⟨⟨_, rfl, .refl _⟩, ⟨_, rfl, .refl _⟩, ⟨_, rfl, .refl _⟩, ⟨_, rfl, .refl _⟩, ⟨_, rfl, .refl _⟩, ⟨_, rfl, .refl _⟩, trivial⟩ ⟨.refl _, .refl _, trivial⟩ rfl rfl (Nat.zero_le _)
  ·have h1 : decide ((v : Int) ≥ 1) = false := h1
   rw [decide_eq_false_iff_not] at h1
   have key2 : (if v < a.i.toNat + a.l.length + 1 then hSt H (v + 1) else hSt H v) = hSt H v := by
    rw [if_pos (by omega)]
    exact (hsame (by rw [hg0 v (by omega), decide_eq_false (by omega)])).symm
   rw [key2] at key
   refine z6 tabOk Tryz.func48 rfl trivial (fun h => by cases h) (fun _ => ?_)
   refine zj 2 tabOk Tryz.func48 rfl trivial ?_
   exact zg key hC hCl ⟨⟨_, rfl, .refl _⟩, ⟨_, rfl, .refl _⟩, ⟨_, rfl, .refl _⟩, ⟨_, rfl, .refl _⟩, ⟨_, rfl, .refl _⟩, ⟨_, rfl, .refl _⟩, trivial⟩ ⟨.refl _, .refl _, trivial⟩ rfl rfl (Nat.zero_le _)
 have e3 : IntKind.i64.wrap ((v : Int) - a.i) = (v : Int) - a.i := zb (by omega) (by omega)
 have e4 : IntKind.i64.wrap ((v : Int) - a.i - (((a.l.map eP2).length : Nat) : Int)) = (v : Int) - a.i - (a.l.length : Int) := by rw [List.length_map, zb (by omega) (by omega)]
 have e5 : IntKind.i64.wrap ((v : Int) - a.i - (a.l.length : Int) - 1) = (v : Int) - a.i - (a.l.length : Int) - 1 := zb (by omega) (by omega)
 have eJ : IntKind.i64.wrap (IntKind.i64.wrap (IntKind.i64.wrap ((v : Int) - a.i) - (((a.l.map eP2).length : Nat) : Int)) - 1) = (v : Int) - a.i - (a.l.length : Int) - 1 := by rw [e3, e4, e5]
 refine z6 tabOk Tryz.func48 rfl trivial (fun h1 => ?_) (fun h1 => ?_)
 rotate_left
 ·have h1 : decide (IntKind.i64.wrap (IntKind.i64.wrap (IntKind.i64.wrap ((v : Int) - a.i) - (((a.l.map eP2).length : Nat) : Int)) - 1) ≥ 0) = false := h1
  rw [eJ, decide_eq_false_iff_not] at h1
  rw [if_pos (by omega)]
  refine z8 tabOk Tryz.func48 rfl trivial ?_
  exact zg ih hC hCl ⟨⟨_, rfl, .refl _⟩, ⟨_, rfl, .refl _⟩, ⟨_, rfl, .refl _⟩, ⟨_, rfl, .refl _⟩, ⟨_, rfl, .of (by rw [zb (by omega) (by omega)]; rfl)⟩, trivial⟩ ⟨.refl _, .refl _, trivial⟩ rfl rfl (Nat.zero_le _)
 have h1 : decide (IntKind.i64.wrap (IntKind.i64.wrap (IntKind.i64.wrap ((v : Int) - a.i) - (((a.l.map eP2).length : Nat) : Int)) - 1) ≥ 0) = true := h1
 rw [eJ, decide_eq_true_eq] at h1
 rw [if_neg (by omega)]
 obtain ⟨j, hj, hjl⟩ : ∃ j : Nat, v = a.i.toNat + a.l.length + 1 + j ∧ j < a.g.length := ⟨v - (a.i.toNat + a.l.length + 1), by omega, by omega⟩
 have hJ : IntKind.i64.wrap (IntKind.i64.wrap (IntKind.i64.wrap ((v : Int) - a.i) - (((a.l.map eP2).length : Nat) : Int)) - 1) = (j : Int) := by rw [eJ]; omega
 have hpg : p2 a.g j = a.g[j] := by simp [p2, hjl]
 have hgj := (z5h _ _).1 hg j hjl
 have hHv := hgg j hjl
 rw [← hj, ← hpg] at hHv
 rw [← hpg] at hgj
 have hga : (a.g.getD j (0, 0)) = p2 a.g j := rfl
 generalize hp : p2 a.g j = p at *
 have q1 : IntKind.i64.wrap (Int.tdiv p.1 2) = p.1 / 2 := by rw [Int.tdiv_eq_ediv_of_nonneg (by omega), zb (by omega) (by omega)]
 have q2 : IntKind.i64.wrap (Int.tdiv p.2 2) = p.2 / 2 := by rw [Int.tdiv_eq_ediv_of_nonneg (by omega), zb (by omega) (by omega)]
 have g1 := hget (p.1 / 2).toNat (by omega)
 have g2 := hget (p.2 / 2).toNat (by omega)
 refine z6 tabOk Tryz.func48 rfl ?nd (fun h2 => ?_) (fun h2 => ?_)
 case nd =>
  rw [hJ, Int.toNat_natCast, show a.g.getD j (0, 0) = p from hp, q1, List.length_map, List.length_map, hsl]
  exact ⟨by omega, ⟨by omega, by omega⟩, by decide, ⟨by omega, by omega⟩, trivial⟩
 ·have h2 : (hSt H v).getD (IntKind.i64.wrap (Int.tdiv (a.g.getD (IntKind.i64.wrap (IntKind.i64.wrap (IntKind.i64.wrap ((v : Int) - a.i) - (((a.l.map eP2).length : Nat) : Int)) - 1)).toNat (0, 0)).1 2)).toNat false = true := h2
  rw [hJ, Int.toNat_natCast, show a.g.getD j (0, 0) = p from hp, q1, g1] at h2
  rw [← hset true (by rw [hHv, h2]; rfl)] at ih
  refine z8 tabOk Tryz.func48 rfl ?nd2 ?_
  case nd2 =>
   rw [List.length_map, hsl, Int.toNat_natCast]
   exact ⟨by omega, ⟨by omega, by omega⟩, trivial⟩
  refine zg ih hC hCl ⟨⟨_, rfl, .refl _⟩, ⟨_, rfl, .refl _⟩, ⟨_, rfl, .refl _⟩, ⟨_, rfl, .refl _⟩, ⟨_, rfl, .of (by rw [zb (by omega) (by omega)]; rfl)⟩, trivial⟩ ⟨.refl _, .gL ?_, trivial⟩ rfl rfl (Nat.zero_le _)
  rw [List.map_set]
  rfl
 ·have h2 : (hSt H v).getD (IntKind.i64.wrap (Int.tdiv (a.g.getD (IntKind.i64.wrap (IntKind.i64.wrap (IntKind.i64.wrap ((v : Int) - a.i) - (((a.l.map eP2).length : Nat) : Int)) - 1)).toNat (0, 0)).1 2)).toNat false = false := h2
  rw [hJ, Int.toNat_natCast, show a.g.getD j (0, 0) = p from hp, q1, g1] at h2
  rw [← hset (H.getD (p.2 / 2).toNat false) (by rw [hHv, h2]; rfl)] at ih
  refine z8 tabOk Tryz.func48 rfl ?nd3 ?_
  case nd3 =>
   rw [hJ]
   simp only [Int.toNat_natCast]
   rw [show a.g.getD j (0, 0) = p from hp, q2, List.length_map, List.length_map, hsl]
   exact ⟨by omega, ⟨by omega, by omega⟩, by omega, ⟨by omega, by omega⟩, by decide, ⟨by omega, by omega⟩, trivial⟩
  refine zg ih hC hCl ⟨⟨_, rfl, .refl _⟩, ⟨_, rfl, .refl _⟩, ⟨_, rfl, .refl _⟩, ⟨_, rfl, .refl _⟩, ⟨_, rfl, .of (by rw [zb (by omega) (by omega)]; rfl)⟩, trivial⟩ ⟨.refl _, .gL ?_, trivial⟩ rfl rfl (Nat.zero_le _)
  rw [List.map_set]
  show ((hSt H v).map eBo).set v (eBo ((hSt H v).getD (IntKind.i64.wrap (Int.tdiv (a.g.getD (IntKind.i64.wrap (IntKind.i64.wrap (IntKind.i64.wrap ((v : Int) - a.i) - (((a.l.map eP2).length : Nat) : Int)) - 1)).toNat (0, 0)).2 2)).toNat false)) = _
  rw [hJ, Int.toNat_natCast, show a.g.getD j (0, 0) = p from hp, q2, g2]
end Go.Proofs.YtkemmijjpclckaaGreatDoor
namespace Ab
open Go
variable [Draws]
section
variable {P : Program} [Globals P] {T : Tab} {f : FuncId} {fn : Func} {n : Nat} {C : Cx} {R : AV → List (Option AObj) → Prop} {todo todo' k : List Item} {env env' : Env} {objs objs' : List (Option AObj)} {ops : Array Oper}
theorem zfb {w : World} {ok : Nat → Prop} {π : List Value} {t el : TypeId} {rw_ re : TRow} {m j : Nat} {ki : IntKind} {cs : List AV} {a : AV} {us : List Value} (hT : TabOk P T) (h1 : tlook T t = some rw_) (h2 : rw_.kd = .array m el) (h3 : tlook T el = some re)
  (hr : RelVs w ok π cs us) (hf : ∀ v ∈ us, flat v = true) (hj : j < m) (hc : cut1 re.isAgg re.size (j * re.size) cs = .ok a) : Yields P w ok π a (Instr.index t (.agg us.toArray) (.int ki ((j : Nat) : Int))) := by
 have hu := z9w hT h1 h2
 obtain ⟨⟨ie, de, hie, hde, hse, _⟩, _⟩ := zu hT h3
 have hag : re.isAgg = Pagg P el := by
  have e1 := (zu hT h3).agg (default : World)
  have e2 := z64 hde (default : World)
  rw [e1] at e2
  exact (Result.ok.inj e2).1
 rw [hag, ← hse] at hc
 obtain ⟨u, d1, d2⟩ := zf2 (P := P) hie hde hr hf hc
 refine ⟨u, d1, fun w' hw' => ?_⟩
 have hj' : (0 : Int) ≤ (j : Int) ∧ (j : Int) < (m : Int) := ⟨by omega, by omega⟩
 simp [Instr.index, asIntOf, run_underlying hu, hj', z47 hie, Result.andThen, d2 w' hw']
 intro hle
 omega
theorem z1c {i : Nat} {r : List Nat} {o : Oper} {e : Env} {t el : TypeId} {x ix : Operand} {rw_ re : TRow} {m j : Nat} {ki : IntKind} {cs : List D} {a : AV} (hT : TabOk P T) (ho : ops[i]? = some o) (hw : wantE ops env o = .yes) (hop : o.op = .index t x ix)
  (h1 : tlook T t = some rw_) (h2 : rw_.kd = .array m el) (h3 : tlook T el = some re) (hx : opnd env x = some (.d (.ag cs))) (hi : opnd env ix = some (.d (.v (.int ki ((j : Nat) : Int))))) (hj : j < m)
  (hc : cut1 re.isAgg re.size (j * re.size) (cs.map .d) = .ok a) (hput : putE n o.dst a env = some e)
  (h : ASat P f n C (.inRegion ops r :: k) e objs R) : ASat P f n C (.inRegion ops (i :: r) :: k) env objs R := by
 refine z2g a ho hw (fun X π w tmps mm he => ?_) hput h
 have hay := z52 (P := P) he hi
 have hv := zm (ds := []) he hx
 generalize hvx : Act.eval ⟨tmps, []⟩ x = vx at hv
 cases hv with | d hd => cases hd with | ag hd =>
 obtain ⟨u, d1, d2⟩ := zfb (ki := ki) hT h1 h2 h3 (hd.toVs (π := π)) hd.flat hj hc
 refine ⟨u, ?_, d1⟩
 unfold execOp
 simp only [hop, hvx, hay]
 simp [d2 w (.refl w)]
end
end Ab
namespace Go.Proofs.YtkemmijjpclckaaGreatDoor
open Go Ab Go.RowKit
@[reducible] def bCt (c : Ct) : AObj := .cells 31 [.d (eP2s c.g), .d (eI c.inv), .d (eSps c.p0), .d (eSps c.p1), .d (eSps c.p2)]
structure AcB (a : Ag) (c : Ct) : Prop where
 ag : a.g.length ≤ 100000
 cg : c.g.length ≤ 100000
 nl : a.names.length ≤ 1000000
 ns : ∀ x ∈ a.names, x.2.2.length ≤ 1000000
 p0 : c.p0.length ≤ 20000
 p1 : c.p1.length ≤ 20000
 p2 : c.p2.length ≤ 20000
theorem z6t {a : Ag} (h : z2i a = true) : AgB a := by
 have h := z13.1 h
 have h0 := h.i0
 have h1 := h.v1
 unfold varsA at h1
 exact ⟨h0, by omega, by omega, by omega⟩
theorem z9a {n : Int} {p : List Sp} (hn : 0 ≤ n ∧ n ≤ 100000) (hl : p.length ≤ 20000) : z1l n p = p.all (fun s => clOk n s.2.1) := by
 unfold z1l
 rw [decide_eq_true ⟨hn.1, hn.2, hl⟩, Bool.true_and]
theorem z6r (a : Ag) (c : Ct) (h : AcB a c) : ACall Tryz.prog 18 [.d (eAg a), .d (eCt c)] [] (fun r o => r = vB (z2z a c)) := by
 refine za Tryz.func18 rfl rfl (Nat.le_of_ble_eq_true rfl) fun C hC hCl hDs hGk => ?_
 refine ze tabOk Tryz.func18 rfl trivial (z7g a c h.ag h.cg) (.refl _) rfl ⟨_, rfl⟩ (by rintro r o rfl; rfl) ?_
 rintro _ o rfl
 have hRc := zj5 (zk a c) h.nl h.ns
 have hp0 := h.p0
 have hp1 := h.p1
 have hp2 := h.p2
 have hrc : z2z a c = (decide (c.g.length ≤ 20000) && z2i (zk a c) && decide (0 ≤ c.inv ∧ c.inv ≤ 2 * varsA (zk a c) + 1) && !(z3y (zk a c) c.inv) && z1l (varsA (zk a c) + 1) c.p0 && z1l (2 * (varsA (zk a c) + 1)) c.p1 && z1l (varsA (zk a c) + 1) c.p2) := rfl
 rw [hrc]
 generalize zk a c = g at *
 refine zp 27 tabOk Tryz.func18 rfl rfl trivial (by kernel_rfl) ?_
 refine z12 tabOk rfl trivial (fun h1 => ?_) (fun h1 => ?_)
 ·have h1 : decide ((((c.g.map eP2).length : Nat) : Int) > 20000) = true := h1
  rw [decide_eq_true_eq, List.length_map] at h1
  rw [decide_eq_false (show ¬ c.g.length ≤ 20000 by omega)]
  repeat refine z12 tabOk rfl trivial (fun _ => ?_) (fun h => by cases h)
  refine zo tabOk rfl trivial ?_
  repeat refine z6 tabOk Tryz.func18 rfl trivial (fun _ => ?_) (fun h => by cases h)
  exact z7 tabOk Tryz.func18 rfl trivial rfl
 have h1 : decide ((((c.g.map eP2).length : Nat) : Int) > 20000) = false := h1
 rw [decide_eq_false_iff_not, List.length_map] at h1
 rw [decide_eq_true (show c.g.length ≤ 20000 by omega), Bool.true_and]
 refine zv tabOk rfl trivial hRc (zf Tryz.func46 rfl rfl) (by rintro r o rfl; rfl) (.refl _) rfl rfl ⟨_, rfl⟩ ?_
 cases hR : z2i g with
 | false =>
  repeat refine z12 tabOk rfl trivial (fun _ => ?_) (fun h => by cases h)
  refine zo tabOk rfl trivial ?_
  repeat refine z6 tabOk Tryz.func18 rfl trivial (fun _ => ?_) (fun h => by cases h)
  exact z7 tabOk Tryz.func18 rfl trivial rfl
 | true =>
 rw [Bool.true_and]
 have hB := z6t hR
 have hA := z13.1 hR
 have hv := z1z hB
 have hv1 := hA.v1
 refine z12 tabOk rfl trivial (fun h => by cases h) (fun _ => ?_)
 refine z12 tabOk rfl trivial (fun h2 => ?_) (fun h2 => ?_)
 ·have h2 : decide (c.inv < 0) = true := h2
  rw [decide_eq_true_eq] at h2
  rw [decide_eq_false (show ¬ (0 ≤ c.inv ∧ c.inv ≤ 2 * varsA g + 1) by omega)]
  repeat refine z12 tabOk rfl trivial (fun _ => ?_) (fun h => by cases h)
  refine zo tabOk rfl trivial ?_
  repeat refine z6 tabOk Tryz.func18 rfl trivial (fun _ => ?_) (fun h => by cases h)
  exact z7 tabOk Tryz.func18 rfl trivial rfl
 have h2 : decide (c.inv < 0) = false := h2
 rw [decide_eq_false_iff_not] at h2
 have e1 : IntKind.i64.wrap (2 * varsA g) = 2 * varsA g := zb (by omega) (by omega)
 have e2 : IntKind.i64.wrap (2 * varsA g + 1) = 2 * varsA g + 1 := zb (by omega) (by omega)
 refine zv tabOk rfl trivial (z4e g hB) (zf Tryz.func47 rfl rfl) (by rintro r o rfl; rfl) (.refl _) rfl rfl ⟨_, rfl⟩ ?_
 refine z12 tabOk rfl trivial (fun h3 => ?_) (fun h3 => ?_)
 ·have h3 : decide (c.inv > IntKind.i64.wrap (IntKind.i64.wrap (2 * varsA g) + 1)) = true := h3
  rw [e1, e2, decide_eq_true_eq] at h3
  rw [decide_eq_false (show ¬ (0 ≤ c.inv ∧ c.inv ≤ 2 * varsA g + 1) by omega)]
  repeat refine z12 tabOk rfl trivial (fun _ => ?_) (fun h => by cases h)
  refine zo tabOk rfl trivial ?_
  repeat refine z6 tabOk Tryz.func18 rfl trivial (fun _ => ?_) (fun h => by cases h)
  exact z7 tabOk Tryz.func18 rfl trivial rfl
 have h3 : decide (c.inv > IntKind.i64.wrap (IntKind.i64.wrap (2 * varsA g) + 1)) = false := h3
 rw [e1, e2, decide_eq_false_iff_not] at h3
 rw [decide_eq_true (show 0 ≤ c.inv ∧ c.inv ≤ 2 * varsA g + 1 by omega), Bool.true_and]
 refine zo tabOk rfl trivial ?_
 refine ze tabOk Tryz.func18 rfl trivial (zdi g c.inv hB hA.gat ⟨by omega, by omega⟩) (.refl _) rfl ⟨_, rfl⟩ (by rintro r o rfl; rfl) ?_
 rintro _ o rfl
 cases hH : z3y g c.inv with
 | true =>
  refine z6 tabOk Tryz.func18 rfl trivial (fun _ => ?_) (fun h => by cases h)
  exact z7 tabOk Tryz.func18 rfl trivial rfl
 | false =>
 refine z6 tabOk Tryz.func18 rfl trivial (fun h => by cases h) (fun _ => ?_)
 refine ze tabOk Tryz.func18 rfl trivial (zdt g hB) (.refl _) rfl ⟨_, rfl⟩ (by rintro r o rfl; rfl) ?_
 rintro _ o rfl
 rw [z9a ⟨by omega, by omega⟩ hp0, z9a ⟨by omega, by omega⟩ hp1, z9a ⟨by omega, by omega⟩ hp2]
 refine z8 tabOk Tryz.func18 rfl trivial ?_
 refine z3n ?_
 refine z6 tabOk Tryz.func18 rfl trivial (fun _ => ?_) (fun h => by cases h)
 refine zj 60 tabOk Tryz.func18 rfl trivial ?_
 refine z1c (j := 0) tabOk rfl rfl rfl rfl rfl rfl rfl rfl (by decide) rfl rfl ?_
 refine ze tabOk Tryz.func18 rfl trivial (z88 (varsA g + 1) c.p0 ⟨by omega, by omega⟩ hp0) (.refl _) rfl ⟨_, rfl⟩ (by rintro r o rfl; rfl) ?_
 rintro _ o rfl
 cases hq0 : c.p0.all (fun s => clOk (varsA g + 1) s.2.1) with
 | false =>
  refine z6 tabOk Tryz.func18 rfl trivial (fun _ => ?_) (fun h => by cases h)
  exact z7 tabOk Tryz.func18 rfl trivial rfl
 | true =>
 refine z6 tabOk Tryz.func18 rfl trivial (fun h => by cases h) (fun _ => ?_)
 refine z8 tabOk Tryz.func18 rfl trivial ?_
 refine z1v ?_
 refine z6 tabOk Tryz.func18 rfl trivial (fun _ => ?_) (fun h => by cases h)
 refine zj 60 tabOk Tryz.func18 rfl trivial ?_
 refine z1c (j := 1) tabOk rfl rfl rfl rfl rfl rfl rfl rfl (by decide) rfl rfl ?_
 refine ze tabOk Tryz.func18 rfl trivial (z88 (2 * (varsA g + 1)) c.p1 ⟨by omega, by omega⟩ hp1) (.refl _) rfl ⟨_, rfl⟩ (by rintro r o rfl; rfl) ?_
 rintro _ o rfl
 cases hq1 : c.p1.all (fun s => clOk (2 * (varsA g + 1)) s.2.1) with
 | false =>
  refine z6 tabOk Tryz.func18 rfl trivial (fun _ => ?_) (fun h => by cases h)
  exact z7 tabOk Tryz.func18 rfl trivial rfl
 | true =>
 refine z6 tabOk Tryz.func18 rfl trivial (fun h => by cases h) (fun _ => ?_)
 refine z8 tabOk Tryz.func18 rfl trivial ?_
 refine z1v ?_
 refine z6 tabOk Tryz.func18 rfl trivial (fun _ => ?_) (fun h => by cases h)
 refine zj 60 tabOk Tryz.func18 rfl trivial ?_
 refine z1c (j := 2) tabOk rfl rfl rfl rfl rfl rfl rfl rfl (by decide) rfl rfl ?_
 refine ze tabOk Tryz.func18 rfl trivial (z88 (varsA g + 1) c.p2 ⟨by omega, by omega⟩ hp2) (.refl _) rfl ⟨_, rfl⟩ (by rintro r o rfl; rfl) ?_
 rintro _ o rfl
 cases hq2 : c.p2.all (fun s => clOk (varsA g + 1) s.2.1) with
 | false =>
  refine z6 tabOk Tryz.func18 rfl trivial (fun _ => ?_) (fun h => by cases h)
  exact z7 tabOk Tryz.func18 rfl trivial rfl
 | true =>
 refine z6 tabOk Tryz.func18 rfl trivial (fun h => by cases h) (fun _ => ?_)
 refine z8 tabOk Tryz.func18 rfl trivial ?_
 refine z1v ?_
 refine z6 tabOk Tryz.func18 rfl trivial (fun h => by cases h) (fun _ => ?_)
 exact z7 tabOk Tryz.func18 rfl trivial rfl
theorem ztc (w : World) (d : Nat) (a c : Int) : (Op.equalIn (d + 1) 3 (.int .i64 a) (.int .i64 c)).run Tryz.prog w = .ok (a == c) w := by
 have ht : Tryz.prog.underlying 3 = some (.int .i64) := by kernel_rfl
 simp [Op.equalIn, run_underlying ht]
theorem znj (w : World) (t : TypeId) (x y : Value) (ht : t = 3) : (part t #[x, y] 0).run Tryz.prog w = .ok x w := by
 subst ht
 have hd : Tryz.prog.underlying 3 = some (.int .i64) := by kernel_rfl
 simp [part, z64 hd, Pagg, hd]
theorem zni (w : World) (t : TypeId) (x y : Value) (ht : t = 3) : (part t #[x, y] 1).run Tryz.prog w = .ok y w := by
 subst ht
 have hd : Tryz.prog.underlying 3 = some (.int .i64) := by kernel_rfl
 simp [part, z64 hd, Pagg, hd]
def pairB : Option TypeDesc → Bool
 | some (.struct ⟨[f, g]⟩) => f.type == 3 && g.type == 3 && f.offset == 0 && g.offset == 1 && f.name != "_" && g.name != "_"
 | _ => false
theorem zmd : ∃ f g : Field, Tryz.prog.underlying 98 = some (.struct ⟨[f, g]⟩) ∧ f.type = 3 ∧ g.type = 3 ∧ f.offset = 0 ∧ g.offset = 1 ∧ f.name ≠ "_" ∧ g.name ≠ "_" := by
 have h : pairB (Tryz.prog.underlying 98) = true := by kernel_rfl
 unfold pairB at h
 split at h
 ·rename_i f g hfg
  simp only [Bool.and_eq_true, beq_iff_eq, bne_iff_ne] at h
  obtain ⟨⟨⟨⟨⟨h1, h2⟩, h3⟩, h4⟩, h5⟩, h6⟩ := h
  exact ⟨f, g, hfg, h1, h2, h3, h4, h5, h6⟩
 ·cases h
theorem ztd (w : World) (a b c d : Int) : (Op.equal 98 (.agg #[.int .i64 a, .int .i64 b]) (.agg #[.int .i64 c, .int .i64 d])).run Tryz.prog w = .ok (a == c && b == d) w := by
 obtain ⟨f, g, h0, h1, h2, h3, h4, h5, h6⟩ := zmd
 have hs : Tryz.prog.stoodInHeld 98 = false := by kernel_rfl
 have key : ∀ D : Nat, (Op.equalIn (D + 1 + 1) 98 (.agg #[.int .i64 a, .int .i64 b]) (.agg #[.int .i64 c, .int .i64 d])).run Tryz.prog w = .ok (a == c && b == d) w := fun D => by
  have q := fun x y => ztc w D x y
  have p0 := fun x y => znj w 3 x y rfl
  have p1 := fun x y => zni w 3 x y rfl
  rw [Op.equalIn]
  generalize Op.equalIn (D + 1) = E at *
  cases e1 : (a == c) <;> cases e2 : (b == d) <;> simp [run_underlying h0, hs, h1, h2, h3, h4, h5, h6, p0, p1, q, e1, e2]
 exact key 9998
theorem zop (w : World) (x y : Operand) (u v : Value) (hu : ∃ us, u = .agg us) (hv : ∃ vs, v = .agg vs) : (eqGuard .neq 98 x y u v).run Tryz.prog w = .ok () w := by
 obtain ⟨us, rfl⟩ := hu
 obtain ⟨vs, rfl⟩ := hv
 have h : Tryz.prog.eqGuardType Tryz.prog.depth 98 = false := by kernel_rfl
 simp [eqGuard, h]
theorem znb {w : World} {ok : Nat → Prop} {π : List Value} {p : P2} {v : Value} (h : RelV w ok π (.d (eP2 p)) v) : v = .agg #[.int .i64 p.1, .int .i64 p.2] := by
 cases h with | d h => cases h with | ag h =>
 cases h with | cons h1 _ h => cases h with | cons h2 _ h => cases h with | nil =>
 cases h1 with | v _ => cases h2 with | v _ => rfl
end Go.Proofs.YtkemmijjpclckaaGreatDoor
namespace Go.Proofs.YtkemmijjpclckaaGreatDoor
open Go Ab Go.RowKit
section
variable {f : FuncId} {fn : Func} {n : Nat} {C : Cx} {R : AV → List (Option AObj) → Prop} {k : List Item} {env : Env} {objs : List (Option AObj)} {ops : Array Oper}
theorem zl1 {i : Nat} {r : List Nat} {o : Oper} {e : Env} {x y : Operand} {t2 : TypeId} {p q : P2} (ho : ops[i]? = some o) (hw : wantE ops env o = .yes) (hop : o.op = .binOp .neq 98 x y t2)
  (hx : opnd env x = some (.d (eP2 p))) (hy : opnd env y = some (.d (eP2 q))) (hput : putE n o.dst (vB (!(p.1 == q.1 && p.2 == q.2))) env = some e)
  (h : ASat Tryz.prog f n C (.inRegion ops r :: k) e objs R) : ASat Tryz.prog f n C (.inRegion ops (i :: r) :: k) env objs R := by
 refine z2g _ ho hw (fun X π w tmps m he => ?_) hput h
 have hv := znb (zm (ds := []) he hx)
 have hu := znb (zm (ds := []) he hy)
 refine ⟨.bool (!(p.1 == q.1 && p.2 == q.2)), ?_, .d (.v rfl)⟩
 have hg := zop w x y (.agg #[.int .i64 p.1, .int .i64 p.2]) (.agg #[.int .i64 q.1, .int .i64 q.2]) ⟨_, rfl⟩ ⟨_, rfl⟩
 have hq := ztd w p.1 p.2 q.1 q.2
 unfold execOp
 simp [hop, hv, hu, hg, binOp, hq]
end
theorem zrl (a b : List P2) (hla : a.length ≤ 1000000) : ACall Tryz.prog 55 [.d (eP2s a), .d (eP2s b)] [] (fun r o => r = vB (decide (a = b))) := by
 refine za Tryz.func55 rfl rfl (Nat.le_of_ble_eq_true rfl) fun C hC hCl hDs hGk => ?_
 refine z6 tabOk Tryz.func55 rfl trivial (fun h => ?_) (fun h => ?_) <;> simp only [bne_iff_ne, ne_eq, bne_eq_false_iff_eq, List.length_map] at h
 ·refine z7 tabOk Tryz.func55 rfl trivial ?_
  show vB false = vB _
  have : a ≠ b := by rintro rfl; exact h rfl
  simp [this]
 have hl : a.length = b.length := by omega
 refine z8 tabOk Tryz.func55 rfl trivial ?_
 refine zh (α := Nat) (fun i => [(0, .d (eP2s a)), (1, .d (eP2s b)), (12, vI .i64 a.length), (13, vI .i64 i)]) (fun _ => []) (fun i => i ≤ a.length ∧ a.take i = b.take i) (fun i => a.length - i) 0 ⟨Nat.zero_le _, rfl⟩ ?_ ?_
 ·exact fun h => zg h hC hCl ⟨⟨_, rfl, .refl _⟩, ⟨_, rfl, .refl _⟩, ⟨_, rfl, .of (by rw [List.length_map])⟩, ⟨_, rfl, .refl _⟩, trivial⟩ trivial rfl rfl (Nat.zero_le _)
 rintro i ⟨hi, hc⟩ ih
 refine z6 tabOk Tryz.func55 rfl trivial (fun hb => ?_) (fun hb => ?_) <;> simp only [decide_eq_true_eq, decide_eq_false_iff_not, List.length_map] at hb
 ·have hlt : i < a.length := by omega
  have hlb : i < b.length := by omega
  have ea : a.getD i (0, 0) = a[i] := by simp [hlt]
  have eb : b.getD i (0, 0) = b[i] := by simp [hlb]
  refine zp 8 tabOk Tryz.func55 rfl rfl trivial (by kernel_rfl) ?_
  refine zo tabOk rfl ?_ ?_
  ·exact (by simp only [andP, and_true, true_and, Int.toNat_natCast, List.length_map, List.length_append, List.length_cons, List.length_nil, List.length_replicate]; omega)
  refine zl1 (p := a.getD i (0, 0)) (q := b.getD i (0, 0)) rfl rfl rfl rfl rfl rfl ?_
  have hpq : ((a.getD i (0, 0)).1 == (b.getD i (0, 0)).1 && (a.getD i (0, 0)).2 == (b.getD i (0, 0)).2) = decide (a.getD i (0, 0) = b.getD i (0, 0)) := by
   rw [Bool.eq_iff_iff, Bool.and_eq_true, beq_iff_eq, beq_iff_eq, decide_eq_true_eq, Prod.ext_iff]
  rw [hpq]
  refine z6 tabOk Tryz.func55 rfl trivial (fun hb2 => ?_) (fun hb2 => ?_)
  ·rw [Bool.not_eq_true', decide_eq_false_iff_not] at hb2
   refine z7 tabOk Tryz.func55 rfl trivial ?_
   show vB false = vB _
   have : a ≠ b := by rintro rfl; exact hb2 rfl
   simp [this]
  ·rw [Bool.not_eq_false', decide_eq_true_eq, ea, eb] at hb2
   refine z8 tabOk Tryz.func55 rfl trivial ?_
   refine zg (ih (i + 1) ⟨by omega, ?_⟩ (by omega)) hC hCl ⟨⟨_, rfl, .refl _⟩, ⟨_, rfl, .refl _⟩, ⟨_, rfl, .refl _⟩, ⟨_, rfl, .of (by rw [zb (by omega) (by omega)]; rfl)⟩, trivial⟩ trivial rfl rfl (Nat.zero_le _)
   rw [List.take_add_one, List.take_add_one, hc, List.getElem?_eq_getElem hlt, List.getElem?_eq_getElem hlb, hb2]
 ·obtain rfl : i = a.length := by omega
  rw [List.take_length, hl, List.take_length] at hc
  refine z7 tabOk Tryz.func55 rfl trivial ?_
  show vB true = vB _
  simp [hc]
end Go.Proofs.YtkemmijjpclckaaGreatDoor
namespace Go.Proofs.YtkemmijjpclckaaGreatDoor
open Go Ab Go.RowKit
theorem zm9 (a b : Ct) (hl : a.g.length ≤ 1000000) : ACall Tryz.prog 20 [.d (eCt a), .d (eCt b)] [] (fun r o => r = vB (decide (a.p0 = b.p0) && decide (a.p1 = b.p1) && decide (a.p2 = b.p2) && (a.inv == b.inv && decide (a.g = b.g)))) := by
 refine za Tryz.func20 rfl rfl (Nat.le_of_ble_eq_true rfl) fun C hC hCl hDs hGk => ?_
 refine z8 tabOk Tryz.func20 rfl trivial ?_
 refine z3n ?_
 refine z6 tabOk Tryz.func20 rfl trivial (fun _ => ?_) (fun h => by cases h)
 refine zp 8 tabOk Tryz.func20 rfl rfl trivial (by kernel_rfl) ?_
 refine zo tabOk rfl trivial ?_
 refine ze tabOk Tryz.func20 rfl trivial (z9r a.p0 b.p0) (.refl _) rfl ⟨_, rfl⟩ (by rintro r o rfl; rfl) ?_
 rintro _ o rfl
 cases q0 : decide (a.p0 = b.p0) with
 | false =>
  refine z6 tabOk Tryz.func20 rfl trivial (fun _ => ?_) (fun h => by cases h)
  exact z7 tabOk Tryz.func20 rfl trivial rfl
 | true =>
 refine z6 tabOk Tryz.func20 rfl trivial (fun h => by cases h) (fun _ => ?_)
 refine z8 tabOk Tryz.func20 rfl trivial ?_
 refine z1v ?_
 refine z6 tabOk Tryz.func20 rfl trivial (fun _ => ?_) (fun h => by cases h)
 refine zp 8 tabOk Tryz.func20 rfl rfl trivial (by kernel_rfl) ?_
 refine zo tabOk rfl trivial ?_
 refine ze tabOk Tryz.func20 rfl trivial (z9r a.p1 b.p1) (.refl _) rfl ⟨_, rfl⟩ (by rintro r o rfl; rfl) ?_
 rintro _ o rfl
 cases q1 : decide (a.p1 = b.p1) with
 | false =>
  refine z6 tabOk Tryz.func20 rfl trivial (fun _ => ?_) (fun h => by cases h)
  exact z7 tabOk Tryz.func20 rfl trivial rfl
 | true =>
 refine z6 tabOk Tryz.func20 rfl trivial (fun h => by cases h) (fun _ => ?_)
 refine z8 tabOk Tryz.func20 rfl trivial ?_
 refine z1v ?_
 refine z6 tabOk Tryz.func20 rfl trivial (fun _ => ?_) (fun h => by cases h)
 refine zp 8 tabOk Tryz.func20 rfl rfl trivial (by kernel_rfl) ?_
 refine zo tabOk rfl trivial ?_
 refine ze tabOk Tryz.func20 rfl trivial (z9r a.p2 b.p2) (.refl _) rfl ⟨_, rfl⟩ (by rintro r o rfl; rfl) ?_
 rintro _ o rfl
 cases q2 : decide (a.p2 = b.p2) with
 | false =>
  refine z6 tabOk Tryz.func20 rfl trivial (fun _ => ?_) (fun h => by cases h)
  exact z7 tabOk Tryz.func20 rfl trivial rfl
 | true =>
 refine z6 tabOk Tryz.func20 rfl trivial (fun h => by cases h) (fun _ => ?_)
 refine z8 tabOk Tryz.func20 rfl trivial ?_
 refine z1v ?_
 refine z6 tabOk Tryz.func20 rfl trivial (fun h => by cases h) (fun _ => ?_)
 refine z6 tabOk Tryz.func20 rfl trivial (fun h => ?_) (fun h => ?_)
 ·have h : (a.inv == b.inv) = true := h
  rw [h]
  refine ze tabOk Tryz.func20 rfl trivial (zrl a.g b.g hl) (.refl _) rfl ⟨_, rfl⟩ (by rintro r o rfl; rfl) ?_
  rintro _ o rfl
  exact z7 tabOk Tryz.func20 rfl trivial rfl
 ·have h : (a.inv == b.inv) = false := h
  rw [h]
  exact z7 tabOk Tryz.func20 rfl trivial rfl
end Go.Proofs.YtkemmijjpclckaaGreatDoor
namespace Go.Proofs.YtkemmijjpclckaaGreatDoor
open Go Ab
theorem zf8 (l : List Int) (x : Int) : ACall Tryz.prog 176 [.d (eIs l), vI .i64 x] [] (fun r o => r = vB (l.contains x)) := by
 refine za Tryz.func176 rfl rfl (by show 2 ≤ 18; decide) fun C hC hCl hDs hGk => ?_
 refine z2x (t := 0) rfl fun hlen => ?_
 rw [List.length_map] at hlen
 refine z8 tabOk Tryz.func176 rfl trivial ?_
 refine zh (α := Nat) (fun i => [(0, .d (eIs l)), (1, vI .i64 x), (5, vI .i64 i)]) (fun _ => []) (fun i => i ≤ l.length ∧ l.contains x = (l.drop i).contains x) (fun i => l.length - i) 0 ⟨Nat.zero_le _, rfl⟩ ?_ ?_
 ·exact fun h => zg h hC hCl ⟨⟨_, rfl, .refl _⟩, ⟨_, rfl, .refl _⟩, ⟨_, rfl, .refl _⟩, trivial⟩ trivial rfl rfl (Nat.zero_le _)
 ·rintro i ⟨hi, hc⟩ ih
  refine z6 tabOk Tryz.func176 rfl trivial (fun hb => ?_) (fun hb => ?_)
  ·simp only [decide_eq_true_eq, List.length_map] at hb
   have hlt : i < l.length := by omega
   rw [List.drop_eq_getElem_cons hlt] at hc
   refine z6 tabOk Tryz.func176 rfl (by simp [hlt]) (fun hb2 => ?_) (fun hb2 => ?_)
   ·simp [hlt] at hb2
    refine z7 tabOk Tryz.func176 rfl trivial ?_
    show vB true = vB (l.contains x)
    rw [hc]
    simp [hb2]
   ·simp [hlt] at hb2
    refine z8 tabOk Tryz.func176 rfl trivial ?_
    refine zg (ih (i + 1) ⟨by omega, ?_⟩ (by omega)) hC hCl ⟨⟨_, rfl, .refl _⟩, ⟨_, rfl, .refl _⟩, ⟨_, rfl, .of (by rw [zb (by omega) (by omega)]; rfl)⟩, trivial⟩ trivial rfl rfl (Nat.zero_le _)
    have : (x == l[i]) = false := by simp; exact fun e => hb2 e.symm
    rw [hc, List.contains_cons, this, Bool.false_or]
  ·simp only [decide_eq_false_iff_not, List.length_map] at hb
   obtain rfl : i = l.length := by omega
   refine z7 tabOk Tryz.func176 rfl trivial ?_
   show vB false = vB (l.contains x)
   rw [hc]
   simp
def leftW (xs : List Int) : Int → List Int → Int × Int
 | only, [] => if only = 0 then (0, 0) else (only, 1)
 | only, y :: r => if y ∈ xs then (0, 2) else if -y ∈ xs ∨ y = only then leftW xs only r else if only ≠ 0 then (0, 2) else leftW xs y r
theorem zod (xs c : List Int) (hc : ∀ y ∈ c, -1000000 ≤ y ∧ y ≤ 1000000) : ACall Tryz.prog 177 [.d (eIs xs), .d (eIs c)] [] (fun r o => r = .tp [vI .i64 (leftW xs 0 c).1, vI .i64 (leftW xs 0 c).2]) := by
 refine za Tryz.func177 rfl rfl (Nat.le_of_ble_eq_true rfl) fun C hC hCl hDs hGk => ?_
 refine z2x (t := 1) rfl fun hlen => ?_
 rw [List.length_map] at hlen
 refine z8 tabOk Tryz.func177 rfl trivial ?_
 refine zh (α := Nat × Int) (fun s => [(0, .d (eIs xs)), (1, .d (eIs c)), (6, vI .i64 s.2), (7, vI .i64 s.1)]) (fun _ => []) (fun s => s.1 ≤ c.length ∧ leftW xs 0 c = leftW xs s.2 (c.drop s.1)) (fun s => c.length - s.1) (0, 0) ⟨Nat.zero_le _, rfl⟩ ?_ ?_
 ·exact fun h => zg h hC hCl ⟨⟨_, rfl, .refl _⟩, ⟨_, rfl, .refl _⟩, ⟨_, rfl, .refl _⟩, ⟨_, rfl, .refl _⟩, trivial⟩ trivial rfl rfl (Nat.zero_le _)
 rintro ⟨i, only⟩ ⟨hi, hcs⟩ ih
 simp only at hi hcs ⊢
 refine z6 tabOk Tryz.func177 rfl trivial (fun hb => ?_) (fun hb => ?_) <;> simp only [decide_eq_true_eq, decide_eq_false_iff_not, List.length_map] at hb
 ·have hlt : i < c.length := by omega
  obtain ⟨b1, b2⟩ := hc _ (List.getElem_mem hlt)
  rw [List.drop_eq_getElem_cons hlt, leftW] at hcs
  have hget : c.getD i 0 = c[i] := by simp [hlt]
  generalize hx : c[i] = x at *
  have e1 : IntKind.i64.wrap (0 - x) = -x := by rw [zb (by omega) (by omega), Int.zero_sub]
  refine ze tabOk Tryz.func177 rfl ?_ (zf8 xs x) ⟨.refl _, .of (by show vI .i64 (c.getD i 0) = _; rw [hget]), trivial⟩ rfl ⟨_, rfl⟩ (by rintro r o rfl; rfl) ?_
  ·simp only [Int.toNat_natCast, List.length_map]; exact ⟨⟨by omega, by omega⟩, trivial⟩
  rintro r o rfl
  refine ze tabOk Tryz.func177 rfl ?_ (zf8 xs (-x)) ⟨.refl _, .of (by show vI .i64 (IntKind.i64.wrap (0 - c.getD i 0)) = _; rw [hget, e1]), trivial⟩ rfl ⟨_, rfl⟩ (by rintro r o rfl; rfl) ?_
  ·simp only [Int.toNat_natCast, List.length_map]; exact ⟨⟨by omega, by omega⟩, trivial⟩
  rintro r o rfl
  refine z6 tabOk Tryz.func177 rfl trivial (fun h1 => ?_) (fun h1 => ?_)
  ·have h1 : x ∈ xs := by simpa using h1
   rw [if_pos h1] at hcs
   refine z7 tabOk Tryz.func177 rfl trivial ?_
   rw [hcs]
   rfl
  have h1 : x ∉ xs := by simpa using h1
  rw [if_neg h1] at hcs
  refine z6 tabOk Tryz.func177 rfl trivial (fun h2 => ?_) (fun h2 => ?_)
  ·have h2 : -x ∈ xs := by simpa using h2
   rw [if_pos (.inl h2)] at hcs
   refine z6 tabOk Tryz.func177 rfl trivial (fun _ => ?_) (fun h => by cases h)
   refine z8 tabOk Tryz.func177 rfl trivial ?_
   exact zg (ih (i + 1, only) ⟨by simp; omega, hcs⟩ (by simp; omega)) hC hCl ⟨⟨_, rfl, .refl _⟩, ⟨_, rfl, .refl _⟩, ⟨_, rfl, .refl _⟩, ⟨_, rfl, .of (by rw [zb (by omega) (by omega)]; rfl)⟩, trivial⟩ trivial rfl rfl (Nat.zero_le _)
  have h2 : -x ∉ xs := by simpa using h2
  refine z6 tabOk Tryz.func177 rfl ?_ (fun h3 => ?_) (fun h3 => ?_)
  ·simp only [Int.toNat_natCast, List.length_map]; exact ⟨⟨by omega, by omega⟩, trivial⟩
  ·have h3 : x = only := by rw [← hget]; simpa using h3
   rw [if_pos (.inr h3)] at hcs
   refine z8 tabOk Tryz.func177 rfl trivial ?_
   exact zg (ih (i + 1, only) ⟨by simp; omega, hcs⟩ (by simp; omega)) hC hCl ⟨⟨_, rfl, .refl _⟩, ⟨_, rfl, .refl _⟩, ⟨_, rfl, .refl _⟩, ⟨_, rfl, .of (by rw [zb (by omega) (by omega)]; rfl)⟩, trivial⟩ trivial rfl rfl (Nat.zero_le _)
  have h3 : x ≠ only := by rw [← hget]; simpa using h3
  rw [if_neg (by simp [h2, h3])] at hcs
  refine z6 tabOk Tryz.func177 rfl trivial (fun h4 => ?_) (fun h4 => ?_)
  ·have h4 : only ≠ 0 := by simpa using h4
   rw [if_pos h4] at hcs
   refine z7 tabOk Tryz.func177 rfl trivial ?_
   rw [hcs]
   rfl
  have h4 : only = 0 := by simpa using h4
  rw [if_neg (by simp [h4])] at hcs
  refine z8 tabOk Tryz.func177 rfl ?_ ?_
  ·simp only [Int.toNat_natCast, List.length_map]; exact ⟨⟨by omega, by omega⟩, trivial⟩
  refine zg (ih (i + 1, x) ⟨by simp; omega, hcs⟩ (by simp; omega)) hC hCl ⟨⟨_, rfl, .refl _⟩, ⟨_, rfl, .refl _⟩, ⟨_, rfl, .of ?_⟩, ⟨_, rfl, .of (by rw [zb (by omega) (by omega)]; rfl)⟩, trivial⟩ trivial rfl rfl (Nat.zero_le _)
  rw [← hget]
  rfl
 ·obtain rfl : i = c.length := by omega
  rw [List.drop_length, leftW] at hcs
  refine z6 tabOk Tryz.func177 rfl trivial (fun h => ?_) (fun h => ?_)
  ·have h : only = 0 := by simpa using h
   rw [if_pos h] at hcs
   refine z7 tabOk Tryz.func177 rfl trivial ?_
   rw [hcs]
   rfl
  ·have h : only ≠ 0 := by simpa using h
   rw [if_neg h] at hcs
   refine z7 tabOk Tryz.func177 rfl trivial ?_
   rw [hcs]
   rfl
theorem z9j (xs : List Int) : ∀ (c : List Int) (only : Int), (∀ y ∈ c, y ≠ 0) → (only ≠ 0 → only ∉ xs ∧ -only ∉ xs) →
  (leftW xs only c = (0, 0) ∧ only = 0 ∧ (∀ y ∈ c, y ∉ xs ∧ -y ∈ xs)) ∨
  (∃ x, leftW xs only c = (x, 1) ∧ x ≠ 0 ∧ x ∉ xs ∧ -x ∉ xs ∧ (x = only ∨ x ∈ c) ∧ (only ≠ 0 → x = only) ∧ ∀ y ∈ c, y ≠ x → -y ∈ xs) ∨
  (leftW xs only c = (0, 2) ∧ ((∃ y ∈ c, y ∈ xs) ∨ ∃ y z, (y = only ∧ only ≠ 0 ∨ y ∈ c) ∧ z ∈ c ∧ y ≠ z ∧ -y ∉ xs ∧ -z ∉ xs))
 | [], only, _, ho => by
  by_cases h : only = 0
  ·exact .inl ⟨by simp [leftW, h], h, by simp⟩
  ·exact .inr (.inl ⟨only, by simp [leftW, h], h, (ho h).1, (ho h).2, .inl rfl, fun _ => rfl, by simp⟩)
 | y :: r, only, h0, ho => by
  have h0r : ∀ z ∈ r, z ≠ 0 := fun z hz => h0 z (List.mem_cons_of_mem _ hz)
  have hy0 := h0 y List.mem_cons_self
  by_cases h1 : y ∈ xs
  ·exact .inr (.inr ⟨by simp [leftW, h1], .inl ⟨y, List.mem_cons_self, h1⟩⟩)
  by_cases h2 : -y ∈ xs ∨ y = only
  ·have e : leftW xs only (y :: r) = leftW xs only r := by rw [leftW, if_neg h1, if_pos h2]
   rw [e]
   rcases z9j xs r only h0r ho with ⟨a1, a2, a3⟩ | ⟨x, a1, a2, a3, a4, a5, a6, a7⟩ | ⟨a1, a2⟩
   ·refine .inl ⟨a1, a2, fun z hz => ?_⟩
    rcases List.mem_cons.1 hz with rfl | hz
    ·exact ⟨h1, h2.resolve_right (fun e => hy0 (e.trans a2))⟩
    ·exact a3 z hz
   ·refine .inr (.inl ⟨x, a1, a2, a3, a4, a5.imp id (List.mem_cons_of_mem _), a6, fun z hz hne => ?_⟩)
    rcases List.mem_cons.1 hz with rfl | hz
    ·refine h2.resolve_right fun e => ?_
     by_cases h : only = 0
     ·exact hy0 (e.trans h)
     ·exact hne (e.trans (a6 h).symm)
    ·exact a7 z hz hne
   ·refine .inr (.inr ⟨a1, ?_⟩)
    rcases a2 with ⟨z, hz, hx⟩ | ⟨z, w, hz, hw, hne⟩
    ·exact .inl ⟨z, List.mem_cons_of_mem _ hz, hx⟩
    ·exact .inr ⟨z, w, hz.imp id (List.mem_cons_of_mem _), List.mem_cons_of_mem _ hw, hne⟩
  ·have h3 : -y ∉ xs := fun h => h2 (.inl h)
   have h4 : y ≠ only := fun h => h2 (.inr h)
   by_cases h5 : only ≠ 0
   ·refine .inr (.inr ⟨by rw [leftW, if_neg h1, if_neg h2, if_pos h5], .inr ⟨only, y, .inl ⟨rfl, h5⟩, List.mem_cons_self, fun e => h4 e.symm, (ho h5).2, h3⟩⟩)
   ·have h5 : only = 0 := Decidable.not_not.1 h5
    have e : leftW xs only (y :: r) = leftW xs y r := by rw [leftW, if_neg h1, if_neg h2, if_neg (by simp [h5])]
    rw [e]
    rcases z9j xs r y h0r (fun _ => ⟨h1, h3⟩) with ⟨a1, a2, a3⟩ | ⟨x, a1, a2, a3, a4, a5, a6, a7⟩ | ⟨a1, a2⟩
    ·exact absurd a2 hy0
    ·have hx : x = y := a6 hy0
     refine .inr (.inl ⟨x, a1, a2, a3, a4, .inr (by rw [hx]; exact List.mem_cons_self), fun h => absurd h5 h, fun z hz hne => ?_⟩)
     rcases List.mem_cons.1 hz with rfl | hz
     ·exact absurd hx.symm hne
     ·exact a7 z hz hne
    ·refine .inr (.inr ⟨a1, ?_⟩)
     rcases a2 with ⟨z, hz, hx⟩ | ⟨z, w, hz, hw, hne⟩
     ·exact .inl ⟨z, List.mem_cons_of_mem _ hz, hx⟩
     ·refine .inr ⟨z, w, .inr ?_, List.mem_cons_of_mem _ hw, hne⟩
      rcases hz with ⟨rfl, _⟩ | hz
      ·exact List.mem_cons_self
      ·exact List.mem_cons_of_mem _ hz
theorem z9i (xs c : List Int) (h0 : ∀ y ∈ c, y ≠ 0) :
  (leftW xs 0 c = (0, 0) ∧ ∀ y ∈ c, -y ∈ xs) ∨
  (∃ x, leftW xs 0 c = (x, 1) ∧ x ≠ 0 ∧ x ∉ xs ∧ -x ∉ xs ∧ x ∈ c ∧ ∀ y ∈ c, y ≠ x → -y ∈ xs) ∨
  (leftW xs 0 c = (0, 2) ∧ ((∃ y ∈ c, y ∈ xs) ∨ ∃ y z, y ∈ c ∧ z ∈ c ∧ y ≠ z ∧ -y ∉ xs ∧ -z ∉ xs)) := by
 rcases z9j xs c 0 h0 (fun h => absurd rfl h) with ⟨a1, a2, a3⟩ | ⟨x, a1, a2, a3, a4, a5, a6, a7⟩ | ⟨a1, a2⟩
 ·exact .inl ⟨a1, fun y hy => (a3 y hy).2⟩
 ·exact .inr (.inl ⟨x, a1, a2, a3, a4, a5.resolve_left a2, a7⟩)
 ·refine .inr (.inr ⟨a1, a2.imp id ?_⟩)
  rintro ⟨y, z, hy, hz, h⟩
  exact ⟨y, z, hy.resolve_left (fun e => e.2 rfl), hz, h⟩
structure Rf (l : List (List Int)) (a xs : List Int) : Prop where
 asm : ∀ x ∈ a, x ∈ xs
 fo : ∀ x ∈ xs, Fo l a x
 con : ∀ x ∈ xs, -x ∉ xs
theorem zs5 {n : Int} {l : List (List Int)} {a xs : List Int} (hok : Okl n l a) (h : Rf l a xs) (hl : ∀ c ∈ l, leftW xs 0 c = (0, 2)) : ¬ Cf l a ∧ ∀ x, x ∈ xs ↔ Fo l a x := by
 have key : ∀ x, Fo l a x → x ∈ xs := by
  intro x hf
  induction hf with
  | mem hx => exact h.asm _ hx
  | unit hc hx _ ih =>
   rename_i c x hr
   rcases z9i xs c (fun y hy => (hok.cl c hc y hy).1) with ⟨e, _⟩ | ⟨_, e, _⟩ | ⟨_, e⟩
   ·rw [hl c hc] at e; simp at e
   ·rw [hl c hc] at e; simp at e
   ·rcases e with ⟨y, hy, hm⟩ | ⟨y, z, hy, hz, hne, h1, h2⟩
    ·by_cases e : y = x
     ·rw [← e]; exact hm
     ·exact absurd (ih y hy e) (h.con y hm)
    ·by_cases e : y = x
     ·exact absurd (ih z hz fun e2 => hne (e.trans e2.symm)) h2
     ·exact absurd (ih y hy e) h1
 refine ⟨?_, fun x => ⟨h.fo x, key x⟩⟩
 rintro (⟨x, h1, h2⟩ | ⟨c, hc, hall⟩)
 ·exact h.con x (key x h1) (key _ h2)
 ·rcases z9i xs c (fun y hy => (hok.cl c hc y hy).1) with ⟨e, _⟩ | ⟨_, e, _⟩ | ⟨_, e⟩
  ·rw [hl c hc] at e; simp at e
  ·rw [hl c hc] at e; simp at e
  ·rcases e with ⟨y, hy, hm⟩ | ⟨y, z, hy, hz, hne, h1, h2⟩
   ·exact h.con y hm (key _ (hall y hy))
   ·exact h1 (key _ (hall y hy))
theorem zqi {l : List (List Int)} {a xs c : List Int} (h : ∀ x ∈ xs, Fo l a x) (hc : c ∈ l) (hall : ∀ y ∈ c, -y ∈ xs) : Cf l a := .inr ⟨c, hc, fun y hy => h _ (hall y hy)⟩
theorem zs4 {l : List (List Int)} {a xs c : List Int} {x : Int} (h : Rf l a xs) (hx0 : x ≠ 0) (hc : c ∈ l) (hx : x ∈ c) (h1 : x ∉ xs) (h2 : -x ∉ xs) (hall : ∀ y ∈ c, y ≠ x → -y ∈ xs) : Rf l a (sortU (xs ++ [x])) := by
 have hm : ∀ y, y ∈ sortU (xs ++ [x]) ↔ y ∈ xs ∨ y = x := fun y => by rw [z5y]; simp
 refine ⟨fun y hy => (hm y).2 (.inl (h.asm y hy)), fun y hy => ?_, fun y hy hn => ?_⟩
 ·rcases (hm y).1 hy with hy | rfl
  ·exact h.fo y hy
  ·exact .unit hc hx fun z hz hne => h.fo _ (hall z hz hne)
 ·rcases (hm y).1 hy with hy | rfl
  ·rcases (hm _).1 hn with hn | hn
   ·exact h.con y hy hn
   ·exact h2 (by rw [← hn, Int.neg_neg]; exact hy)
  ·rcases (hm _).1 hn with hn | hn
   ·exact h2 hn
   ·omega
theorem zk3 : ∀ (l : List Nat) (m n : Nat), l.Pairwise (· < ·) → (∀ x ∈ l, m ≤ x ∧ x ≤ n) → l.length ≤ n + 1 - m
 | [], _, _, _, _ => Nat.zero_le _
 | x :: r, m, n, hp, hb => by
  rw [List.pairwise_cons] at hp
  have hx := hb x List.mem_cons_self
  have := zk3 r (x + 1) n hp.2 fun y hy => ⟨hp.1 y hy, (hb y (List.mem_cons_of_mem _ hy)).2⟩
  simp only [List.length_cons]
  omega
theorem zrp {n : Int} {xs : List Int} (hp : xs.Pairwise ltI) (hl : ∀ x ∈ xs, litOk n x) (hcon : ∀ x ∈ xs, -x ∉ xs) : xs.length ≤ n.toNat + 1 := by
 have h1 : xs.Pairwise (fun x y => va x < va y) := by
  refine List.Pairwise.imp_of_mem ?_ hp
  intro x y hx hy h
  have hne : y ≠ -x := fun e => hcon x hx (e ▸ hy)
  unfold ltI at h
  unfold va
  omega
 have h2 := zk3 (xs.map va) 0 n.toNat (by rw [List.pairwise_map]; exact h1) (by
  intro v hv
  obtain ⟨x, hx, rfl⟩ := List.mem_map.1 hv
  have := hl x hx
  unfold litOk at this
  unfold va
  omega)
 rw [List.length_map] at h2
 omega
theorem zq7 {xs : List Int} {x : Int} (hp : xs.Pairwise ltI) (hx : x ∉ xs) : xs.length < (sortU (xs ++ [x])).length := by
 have hnd : (x :: xs).Nodup := by
  rw [List.nodup_cons]
  exact ⟨hx, hp.imp fun h e => by subst e; exact z80 _ h⟩
 have hsub : ∀ (a b : List Int), a.Nodup → (∀ y ∈ a, y ∈ b) → a.length ≤ b.length := by
  intro a
  induction a with
  | nil => intro b _ _; exact Nat.zero_le _
  | cons y r ih =>
   intro b hn hm
   rw [List.nodup_cons] at hn
   have hy := hm y List.mem_cons_self
   have := ih (b.erase y) hn.2 fun z hz => (List.mem_erase_of_ne (by rintro rfl; exact hn.1 hz)).2 (hm z (List.mem_cons_of_mem _ hz))
   rw [List.length_erase_of_mem hy] at this
   have := List.length_pos_of_mem hy
   simp only [List.length_cons]
   omega
 have := hsub (x :: xs) (sortU (xs ++ [x])) hnd fun y hy => by
  rw [z5y]
  rcases List.mem_cons.1 hy with rfl | hy
  ·simp
  ·simp [hy]
 simp only [List.length_cons] at this
 omega
def insK (xs : List Int) (x : Int) (k : Nat) : List Int := xs.take k ++ xs.getD k x :: xs.drop k
theorem zr0 (xs : List Int) (x : Int) : insK xs x xs.length = xs ++ [x] := by simp [insK]
theorem zom (xs : List Int) (x : Int) (k : Nat) (hk : k ≤ xs.length) : (insK xs x k).length = xs.length + 1 := by simp [insK]; omega
theorem zr1 (xs : List Int) (x : Int) (k : Nat) (hk : k < xs.length) : (insK xs x (k + 1)).getD k 0 = xs[k] := by
 have : k < (xs.take (k + 1)).length := by simp; omega
 rw [insK, List.getD_eq_getElem?_getD, List.getElem?_append_left this]
 simp [List.getElem?_take, hk]
theorem zqz (xs : List Int) (x : Int) (k : Nat) (hk : k < xs.length) : (insK xs x (k + 1)).set (k + 1) xs[k] = insK xs x k := by
 have h1 : (xs.take (k + 1)).length = k + 1 := by simp; omega
 have h2 : xs.take (k + 1) = xs.take k ++ [xs[k]] := by rw [List.take_add_one]; simp [hk]
 rw [insK, List.set_append_right _ _ (by omega), h1, Nat.sub_self, List.set_cons_zero, insK, h2, List.append_assoc, List.drop_eq_getElem_cons hk]
 simp [hk]
theorem zep (xs : List Int) (x : Int) (k : Nat) (hk : k ≤ xs.length) : (insK xs x k).set k x = xs.take k ++ x :: xs.drop k := by
 have h1 : (xs.take k).length = k := by simp; omega
 rw [insK, List.set_append_right _ _ (by omega), h1, Nat.sub_self, List.set_cons_zero]
theorem zt6 {xs : List Int} {x : Int} {k : Nat} (hp : xs.Pairwise ltI) (hk : k ≤ xs.length) (h1 : ∀ y ∈ xs.drop k, ltI x y) (h2 : ∀ y ∈ xs.take k, ltI y x) : (xs.take k ++ x :: xs.drop k).Pairwise ltI := by
 rw [List.pairwise_append, List.pairwise_cons]
 refine ⟨hp.sublist (List.take_sublist _ _), ⟨h1, hp.sublist (List.drop_sublist _ _)⟩, fun a ha b hb => ?_⟩
 rcases List.mem_cons.1 hb with rfl | hb
 ·exact h2 a ha
 ·exact z6g (h2 a ha) (h1 b hb)
theorem zsg (xs : List Int) (x : Int) (k : Nat) (y : Int) : y ∈ xs.take k ++ x :: xs.drop k ↔ y ∈ xs ∨ y = x := by
 have : y ∈ xs ↔ y ∈ xs.take k ∨ y ∈ xs.drop k := by
  conv => lhs; rw [← List.take_append_drop k xs, List.mem_append]
 rw [List.mem_append, List.mem_cons, this]
 constructor
 ·rintro (h | h | h)
  ·exact .inl (.inl h)
  ·exact .inr h
  ·exact .inl (.inr h)
 ·rintro ((h | h) | h)
  ·exact .inl h
  ·exact .inr (.inr h)
  ·exact .inr (.inl h)
theorem z7f (c : List Int) (hc : ∀ y ∈ c, -1000000 ≤ y ∧ y ≤ 1000000) (hl : c.length ≤ 1000000) : ACall Tryz.prog 165 [.d (eIs c)] [] (fun r o => r = .d (eIs (sortU c))) := by
 refine za Tryz.func165 rfl rfl (Nat.le_of_ble_eq_true rfl) fun C hC hCl hDs hGk => ?_
 refine z8 tabOk Tryz.func165 rfl trivial ?_
 refine z2w (e := 3) (s := 1) (t := 3) (.inl rfl) (fun i => eI (([] : List Int).getD i 0)) ?_
 refine zh (α := Nat × List Int) (fun s => [(0, .d (eIs c)), (3, .gs 0), (4, vI .i64 s.1)]) (fun s => [some (gIs s.2)]) (fun s => s.1 ≤ c.length ∧ s.2.Pairwise ltI ∧ s.2.length ≤ s.1 ∧ ∀ y, y ∈ s.2 ↔ y ∈ c.take s.1) (fun s => c.length - s.1) (0, []) ⟨Nat.zero_le _, .nil, Nat.zero_le _, by simp⟩ ?_ ?_
 ·exact fun h => zg h hC hCl ⟨⟨_, rfl, .refl _⟩, ⟨_, rfl, .refl _⟩, ⟨_, rfl, .refl _⟩, trivial⟩ ⟨.refl _, trivial⟩ rfl rfl (Nat.zero_le _)
 rintro ⟨i, xs⟩ ⟨hi, hp, hxl, hm⟩ ih
 simp only at hi hp hm hxl ⊢
 refine z6 tabOk Tryz.func165 rfl trivial (fun hb => ?_) (fun hb => ?_) <;> simp only [decide_eq_true_eq, decide_eq_false_iff_not, List.length_map] at hb
 ·have hlt : i < c.length := by omega
  obtain ⟨b1, b2⟩ := hc _ (List.getElem_mem hlt)
  have hget : c.getD i 0 = c[i] := by simp [hlt]
  have htk : c.take (i + 1) = c.take i ++ [c[i]] := by rw [List.take_add_one]; simp [hlt]
  generalize hx : c[i] = x at *
  have e1 : IntKind.i64.wrap (0 - x) = -x := by rw [zb (by omega) (by omega), Int.zero_sub]
  refine zfr tabOk Tryz.func165 rfl ?_ (zf8 xs x) ⟨.inr ⟨0, 3, 1, _, _, _, rfl, rfl, rfl, z2r eI 0 xs⟩, .inl (.of (by show vI .i64 (c.getD i 0) = _; rw [hget])), trivial⟩ rfl ⟨_, rfl⟩ (by rintro r o rfl; rfl) ?_
  ·simp only [Int.toNat_natCast, List.length_map]; exact ⟨⟨by omega, by omega⟩, trivial⟩
  rintro r o rfl
  refine z6 tabOk Tryz.func165 rfl trivial (fun h1 => ?_) (fun h1 => ?_)
  ·have h1 : x ∈ xs := by simpa using h1
   refine z8 tabOk Tryz.func165 rfl trivial ?_
   refine zg (ih (i + 1, xs) ⟨by simp; omega, hp, by simp; omega, fun y => ?_⟩ (by simp; omega)) hC hCl ⟨⟨_, rfl, .refl _⟩, ⟨_, rfl, .refl _⟩, ⟨_, rfl, .of (by rw [zb (by omega) (by omega)]; rfl)⟩, trivial⟩ ⟨.refl _, trivial⟩ rfl rfl (Nat.zero_le _)
   simp only
   rw [htk, List.mem_append, List.mem_singleton, hm]
   constructor
   ·exact .inl
   ·rintro (h | rfl)
    ·exact h
    ·exact (hm _).1 h1
  have h1 : x ∉ xs := by simpa using h1
  refine z8 tabOk Tryz.func165 rfl ?_ ?_
  ·simp only [andP, List.length_map, List.length_cons, List.length_nil]
   exact ⟨by show (xs.length + (0 + 1)) * 8 ≤ _; omega, trivial⟩
  refine zh (α := Nat) (fun k => [(0, .d (eIs c)), (3, .gs 0), (4, vI .i64 i), (5, vI .i64 x), (7, vI .i64 k)]) (fun k => [some (gIs (insK xs x k))]) (fun k => k ≤ xs.length ∧ ∀ y ∈ xs.drop k, ltI x y) (fun k => k) xs.length ⟨Nat.le_refl _, by simp⟩ ?_ ?_
  ·refine fun h => zg h hC hCl ⟨⟨_, rfl, .refl _⟩, ⟨_, rfl, .refl _⟩, ⟨_, rfl, .refl _⟩, ⟨_, rfl, .of ?_⟩, ⟨_, rfl, .of ?_⟩, trivial⟩ ⟨.gL ?_, trivial⟩ rfl rfl (Nat.zero_le _)
   ·rw [← hget]; rfl
   ·show AV.drop 0 (vI .i64 ((xs.map eI).length)) = _; rw [List.length_map]; rfl
   ·rw [zr0, List.map_append, ← hget]; rfl
  rintro k ⟨hk, hd⟩ ihk
  have hsz := zom xs x k hk
  have done : (∀ y ∈ xs.take k, ltI y x) → ASat Tryz.prog 165 Tryz.f165.ntmps C _ [(0, .d (eIs c)), (3, .gs 0), (4, vI .i64 ((i + 1 : Nat) : Int))] [some (gIs (xs.take k ++ x :: xs.drop k))] (fun r o => r = .d (eIs (sortU c))) := fun h2 => ih (i + 1, xs.take k ++ x :: xs.drop k) ⟨by simp; omega, zt6 hp hk hd h2, by simp; omega, fun y => by
   simp only
   rw [zsg, htk, List.mem_append, List.mem_singleton, hm]⟩ (by simp; omega)
  refine zn3 tabOk Tryz.func165 rfl rfl trivial (by kernel_rfl) ?_
  refine zbd tabOk rfl trivial (fun h2 => ?_) (fun h2 => ?_)
  ·have h2 : 0 < k := by simpa using h2
   obtain ⟨j, rfl⟩ : ∃ j, k = j + 1 := ⟨k - 1, by omega⟩
   have hlj : j < xs.length := by omega
   have w1 : IntKind.i64.wrap (((j + 1 : Nat) : Int) - 1) = (j : Int) := by rw [zb (by omega) (by omega)]; omega
   have hg := zr1 xs x j hlj
   have hyc : xs[j] ∈ c := List.mem_of_mem_take ((hm _).1 (List.getElem_mem hlj))
   obtain ⟨y1, y2⟩ := hc _ hyc
   have hyx : x ≠ xs[j] := fun e => h1 (e ▸ List.getElem_mem hlj)
   have w2 : IntKind.i64.wrap (0 - xs[j]) = -xs[j] := by rw [zb (by omega) (by omega), Int.zero_sub]
   have htj : xs.take (j + 1) = xs.take j ++ [xs[j]] := by rw [List.take_add_one]; simp [hlj]
   have hdj : xs.drop j = xs[j] :: xs.drop (j + 1) := List.drop_eq_getElem_cons hlj
   have hset := zqz xs x j hlj
   have hpj : ∀ y ∈ xs.take j, ltI y xs[j] := by
    intro y hy
    obtain ⟨q, hq, rfl⟩ := List.mem_take_iff_getElem.1 hy
    exact (List.pairwise_iff_getElem.1 hp) q j (by omega) hlj (by omega)
   have hfix : ¬ ltI x xs[j] → ∀ y ∈ xs.take (j + 1), ltI y x := by
    intro hn y hy
    have hlt2 := zbq hn (fun e => hyx e.symm)
    rw [htj] at hy
    rcases List.mem_append.1 hy with hy | hy
    ·exact z6g (hpj y hy) hlt2
    ·rw [List.mem_singleton.1 hy]; exact hlt2
   generalize hyy : xs[j] = y at *
   have again : ltI x y → ASat Tryz.prog 165 Tryz.f165.ntmps C _ _ _ _ := fun hlt2 => ihk j ⟨by omega, fun z hz => by
    rw [hdj] at hz
    rcases List.mem_cons.1 hz with rfl | hz
    ·exact hlt2
    ·exact hd z hz⟩ (by omega)
   refine zbd tabOk rfl ?_ (fun h3 => ?_) (fun h3 => ?_)
   ·exact (by simp only [andP, and_true, true_and, Int.toNat_natCast, List.length_map, List.length_append, List.length_cons, List.length_nil, List.length_replicate, w1, hsz]; omega)
   ·simp only [w1, Int.toNat_natCast, hg, e1, w2, decide_eq_true_eq] at h3
    refine ze5 tabOk rfl trivial ?_
    refine z6 tabOk Tryz.func165 rfl trivial (fun _ => ?_) (fun h => by cases h)
    refine z8 tabOk Tryz.func165 rfl ?_ ?_
    ·exact (by simp only [andP, and_true, true_and, Int.toNat_natCast, List.length_map, List.length_append, List.length_cons, List.length_nil, List.length_replicate, w1, hsz]; omega)
    refine zg (again (by unfold ltI; omega)) hC hCl ⟨⟨_, rfl, .refl _⟩, ⟨_, rfl, .refl _⟩, ⟨_, rfl, .refl _⟩, ⟨_, rfl, .refl _⟩, ⟨_, rfl, .of ?_⟩, trivial⟩ ⟨.gL ?_, trivial⟩ rfl rfl (Nat.zero_le _)
    ·rw [w1]
    ·rw [← hset, List.map_set, ← hg, w1]; rfl
   ·simp only [w1, Int.toNat_natCast, hg, e1, w2, decide_eq_false_iff_not] at h3
    refine zbd tabOk rfl ?_ (fun h4 => ?_) (fun h4 => ?_)
    ·exact (by simp only [andP, and_true, true_and, Int.toNat_natCast, List.length_map, List.length_append, List.length_cons, List.length_nil, List.length_replicate, w1, hsz]; omega)
    ·simp only [w1, Int.toNat_natCast, hg, e1, w2, beq_iff_eq] at h4
     refine ze5 tabOk rfl trivial ?_
     refine z6 tabOk Tryz.func165 rfl trivial (fun h5 => ?_) (fun h5 => ?_)
     ·have h5 : x < 0 := by simpa using h5
      refine z8 tabOk Tryz.func165 rfl ?_ ?_
      ·exact (by simp only [andP, and_true, true_and, Int.toNat_natCast, List.length_map, List.length_append, List.length_cons, List.length_nil, List.length_replicate, w1, hsz]; omega)
      refine zg (again (by unfold ltI; omega)) hC hCl ⟨⟨_, rfl, .refl _⟩, ⟨_, rfl, .refl _⟩, ⟨_, rfl, .refl _⟩, ⟨_, rfl, .refl _⟩, ⟨_, rfl, .of ?_⟩, trivial⟩ ⟨.gL ?_, trivial⟩ rfl rfl (Nat.zero_le _)
      ·rw [w1]
      ·rw [← hset, List.map_set, ← hg, w1]; rfl
     ·have h5 : ¬ x < 0 := by simpa using h5
      refine z8 tabOk Tryz.func165 rfl ?_ ?_
      ·exact (by simp only [andP, and_true, true_and, Int.toNat_natCast, List.length_map, List.length_append, List.length_cons, List.length_nil, List.length_replicate, hsz]; omega)
      refine zg (done (hfix (by unfold ltI; omega))) hC hCl ⟨⟨_, rfl, .refl _⟩, ⟨_, rfl, .refl _⟩, ⟨_, rfl, .of (by rw [zb (by omega) (by omega)]; rfl)⟩, trivial⟩ ⟨.gL ?_, trivial⟩ rfl rfl (Nat.zero_le _)
      rw [← zep xs x (j + 1) hk, List.map_set]
      rfl
    ·simp only [w1, Int.toNat_natCast, hg, e1, w2, beq_eq_false_iff_ne] at h4
     refine ze5 tabOk rfl trivial ?_
     refine z6 tabOk Tryz.func165 rfl trivial (fun h => by cases h) (fun _ => ?_)
     refine z8 tabOk Tryz.func165 rfl ?_ ?_
     ·exact (by simp only [andP, and_true, true_and, Int.toNat_natCast, List.length_map, List.length_append, List.length_cons, List.length_nil, List.length_replicate, hsz]; omega)
     refine zg (done (hfix (by unfold ltI; omega))) hC hCl ⟨⟨_, rfl, .refl _⟩, ⟨_, rfl, .refl _⟩, ⟨_, rfl, .of (by rw [zb (by omega) (by omega)]; rfl)⟩, trivial⟩ ⟨.gL ?_, trivial⟩ rfl rfl (Nat.zero_le _)
     rw [← zep xs x (j + 1) hk, List.map_set]
     rfl
  ·have h2 : k = 0 := by
    have : ¬ 0 < k := by simpa using h2
    omega
   subst h2
   refine ze5 tabOk rfl trivial ?_
   refine z6 tabOk Tryz.func165 rfl trivial (fun h => by cases h) (fun _ => ?_)
   refine z8 tabOk Tryz.func165 rfl ?_ ?_
   ·exact (by simp only [andP, and_true, true_and, Int.toNat_natCast, List.length_map, List.length_append, List.length_cons, List.length_nil, List.length_replicate, hsz]; omega)
   refine zg (done (by simp)) hC hCl ⟨⟨_, rfl, .refl _⟩, ⟨_, rfl, .refl _⟩, ⟨_, rfl, .of (by rw [zb (by omega) (by omega)]; rfl)⟩, trivial⟩ ⟨.gL ?_, trivial⟩ rfl rfl (Nat.zero_le _)
   rw [← zep xs x 0 hk, List.map_set]
   rfl
 ·obtain rfl : i = c.length := by omega
  rw [List.take_length] at hm
  refine zw 0 rfl ?_
  refine z7 tabOk Tryz.func165 rfl trivial ?_
  rw [zq8 hp hm]
  rfl
end Go.Proofs.YtkemmijjpclckaaGreatDoor
