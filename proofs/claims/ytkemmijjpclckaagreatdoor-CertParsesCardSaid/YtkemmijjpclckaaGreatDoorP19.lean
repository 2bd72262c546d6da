/- A part of the proof. -/
import Derived.Test.YtkemmijjpclckaaGreatDoorP18
set_option linter.unusedVariables false
set_option linter.unusedSimpArgs false
set_option linter.unusedSectionVars false
set_option maxRecDepth 100000
set_option maxHeartbeats 8000000
namespace Go.Proofs.YtkemmijjpclckaaGreatDoor
open Go Ab Go.RowKit
theorem zo8 (g : FuncId) (p : Int → Bool) (a : Ag) (l : List Int) (hp : ∀ x ∈ l, ACall Tryz.prog g [vI .i64 x, .ptr 0 0] [some (bAg a)] (fun r o => r = vB (p x) ∧ o = [some (bAg a)])) :
  ACall Tryz.prog 131 [.d (eIs l), .fn (.func g) [.ptr 0 0]] [some (bAg a)] (fun r o => r = vI .i64 (idP p l) ∧ o = [some (bAg a)]) := by
 refine z8 Tryz.func131 rfl rfl (Nat.le_of_ble_eq_true rfl) fun C hC hCl hDs hGk => ?_
 refine z4b (t := 0) rfl fun hlen => ?_
 rw [List.length_map] at hlen
 refine za tabOk Tryz.func131 rfl trivial ?_
 refine zj (α := Nat) (fun i => [(0, .d (eIs l)), (1, .fn (.func g) [.ptr 0 0]), (7, vI .i64 l.length), (8, vI .i64 (i : Int))]) (fun i => [some (bAg a)]) (fun i => i ≤ l.length ∧ ∀ q (hq : q < l.length), q < i → p l[q] = false) (fun i => l.length - i) 0 ⟨Nat.zero_le _, fun q _ h => absurd h (Nat.not_lt_zero q)⟩ ?_ ?_
 ·exact fun h => zg h hC hCl ⟨⟨_, rfl, .refl _⟩, ⟨_, rfl, .refl _⟩, ⟨_, rfl, .of (by rw [List.length_map])⟩, ⟨_, rfl, .refl _⟩, trivial⟩ ⟨.refl _, trivial⟩ rfl rfl (Nat.le_refl _)
 rintro i ⟨hi, hno⟩ ih
 refine z6 tabOk Tryz.func131 rfl trivial (fun h => ?_) (fun h => ?_)
 ·have h : decide ((i : Int) < (l.length : Int)) = true := h
  rw [decide_eq_true_eq] at h
  have hlt : i < l.length := by omega
  have eg : l.getD i 0 = l[i] := by simp [hlt]
  refine zm [0] tabOk Tryz.func131 rfl (by simp only [andP, and_true, true_and, Int.toNat_natCast, List.length_map, List.length_append, List.length_cons, List.length_nil, List.length_replicate]; omega) (hp (l.getD i 0) (by rw [eg]; exact List.getElem_mem hlt)) ⟨⟨_, rfl, .refl _⟩, trivial⟩ (.refl _) rfl rfl rfl ⟨_, rfl⟩ ?_
  rintro r o ⟨rfl, rfl⟩
  refine z6 tabOk Tryz.func131 rfl trivial (fun h2 => ?_) (fun h2 => ?_)
  ·have h2 : p (l.getD i 0) = true := h2
   rw [eg] at h2
   refine zp tabOk Tryz.func131 rfl trivial hC hCl (.of ?_) (o2 := [some (bAg a)]) ⟨.refl _, trivial⟩ rfl rfl (Nat.le_refl _) ⟨rfl, rfl⟩
   rw [z84 hlt h2 hno]
   rfl
  ·have h2 : p (l.getD i 0) = false := h2
   rw [eg] at h2
   refine za tabOk Tryz.func131 rfl trivial ?_
   refine zg (ih (i + 1) ⟨by omega, fun q hq hqi => ?_⟩ (by omega)) hC hCl ⟨⟨_, rfl, .refl _⟩, ⟨_, rfl, .refl _⟩, ⟨_, rfl, .refl _⟩, ⟨_, rfl, .of (by rw [zb (by omega) (by omega)]; rfl)⟩, trivial⟩ ⟨.refl _, trivial⟩ rfl rfl (Nat.le_refl _)
   rcases Nat.lt_or_ge q i with h3 | h3
   ·exact hno q hq h3
   ·obtain rfl : q = i := by omega
    exact h2
 ·have h : decide ((i : Int) < (l.length : Int)) = false := h
  rw [decide_eq_false_iff_not] at h
  obtain rfl : i = l.length := by omega
  refine z7 tabOk Tryz.func131 rfl trivial ⟨?_, rfl⟩
  rw [z85 fun q hq => hno q hq hq]
  rfl
theorem zoe (g : FuncId) (p : Int → Bool) (a : Ag) (l : List Int) (hp : ∀ x ∈ l, ACall Tryz.prog g [vI .i64 x, .ptr 0 0] [some (bAg a)] (fun r o => r = vB (p x) ∧ o = [some (bAg a)])) :
  ACall Tryz.prog 91 [.d (eIs l), .fn (.func g) [.ptr 0 0]] [some (bAg a)] (fun r o => r = vB (l.any p) ∧ o = [some (bAg a)]) := by
 refine z8 Tryz.func91 rfl rfl (Nat.le_of_ble_eq_true rfl) fun C hC hCl hDs hGk => ?_
 refine zm [0] tabOk Tryz.func91 rfl trivial (zo8 g p a l hp) ⟨⟨_, rfl, .refl _⟩, trivial⟩ (.refl _) rfl rfl rfl ⟨_, rfl⟩ ?_
 rintro r o ⟨rfl, rfl⟩
 refine zp tabOk Tryz.func91 rfl trivial hC hCl (.of ?_) (o2 := [some (bAg a)]) ⟨.refl _, trivial⟩ rfl rfl (Nat.le_refl _) ⟨rfl, rfl⟩
 show vB (decide (idP p l ≥ 0)) = _
 rw [zil]
def oddB (v x : Int) : Bool := decide (x < 0 ∨ x > 2 * v + 1)
theorem zia (v x : Int) : (!oddB v x) = decide (0 ≤ x ∧ x ≤ 2 * v + 1) := by
 unfold oddB
 rw [Bool.eq_iff_iff, Bool.not_eq_true', decide_eq_false_iff_not, decide_eq_true_eq]
 omega
theorem z48 {a : Ag} (h : AgB a) : 0 ≤ varsA a ∧ varsA a ≤ 3000000 := by
 have h1 := h.i0
 have h2 := h.i1
 have h3 := h.l
 have h4 := h.g
 unfold varsA
 omega
theorem zi9 (a : Ag) (x : Int) (h : AgB a) : ACall Tryz.prog 90 [vI .i64 x, .ptr 0 0] [some (bAg a)] (fun r o => r = vB (oddB (varsA a) x) ∧ o = [some (bAg a)]) := by
 refine z8 Tryz.func90 rfl rfl (Nat.le_of_ble_eq_true rfl) fun C hC hCl hDs hGk => ?_
 have hv := z48 h
 refine z6 tabOk Tryz.func90 rfl trivial (fun h1 => ?_) (fun h1 => ?_)
 ·have h1 : decide (x < 0) = true := h1
  rw [decide_eq_true_eq] at h1
  refine zp tabOk Tryz.func90 rfl trivial hC hCl (.of ?_) (o2 := [some (bAg a)]) ⟨.refl _, trivial⟩ rfl rfl (Nat.le_refl _) ⟨rfl, rfl⟩
  unfold oddB
  rw [decide_eq_true (Or.inl h1)]
  rfl
 have h1 : decide (x < 0) = false := h1
 rw [decide_eq_false_iff_not] at h1
 refine ze tabOk Tryz.func90 rfl trivial (z47 a h) (.refl _) rfl ⟨_, rfl⟩ (by rintro r o rfl; rfl) ?_
 rintro _ o rfl
 refine zp tabOk Tryz.func90 rfl trivial hC hCl (.of ?_) (o2 := [some (bAg a)]) ⟨.refl _, trivial⟩ rfl rfl (Nat.le_refl _) ⟨rfl, rfl⟩
 have e1 : IntKind.i64.wrap (2 * varsA a) = 2 * varsA a := zb (by omega) (by omega)
 have e2 : IntKind.i64.wrap (2 * varsA a + 1) = 2 * varsA a + 1 := zb (by omega) (by omega)
 show vB (decide (x > IntKind.i64.wrap (IntKind.i64.wrap (2 * varsA a) + 1))) = vB (oddB (varsA a) x)
 rw [e1, e2]
 unfold oddB
 congr 2
 rw [eq_iff_iff]
 constructor
 ·exact fun h => .inr h
 ·exact fun h => h.resolve_left h1
theorem z2f {a : Ag} (h : ¬ (0 ≤ a.i ∧ a.i ≤ 20000 ∧ a.l.length ≤ 20000 ∧ a.g.length ≤ 20000 ∧ varsA a ≤ 20000)) : z2p a = false := by
 unfold z2p
 rw [decide_eq_false h]
 simp
theorem z3x {a : Ag} (h : ¬ (latOk a.i (varsA a) 0 a.l = true ∧ gatOk (a.i + a.l.length + 1) a.g = true ∧ z1o (varsA a) a.outs = true ∧ z1o (varsA a) a.bad = true ∧ z1o (varsA a) a.con = true)) : z2p a = false := by
 rw [← Bool.not_eq_true]
 intro hr
 have := z13.1 hr
 exact h ⟨this.lat, this.gat, this.outs, this.bad, this.con⟩
@[reducible] def p2 (l : List P2) (i : Nat) : P2 := l.getD i (0, 0)
theorem zmb {l : List P2} {i : Nat} (h : i < l.length) : l.drop i = p2 l i :: l.drop (i + 1) := by
 rw [List.drop_eq_getElem_cons h]
 congr 1
 simp [p2, h]
theorem zij (i v : Int) {l : List P2} {j : Nat} (h : j < l.length) : latOk i v j (l.drop j) = (decide ((0 ≤ (p2 l j).1 ∧ (p2 l j).1 ≤ 2 * v + 1) ∧ ((p2 l j).2 = 0 ∨ (p2 l j).2 = 1 ∨ (p2 l j).2 = 2 * (i + 1 + j))) && latOk i v (j + 1) (l.drop (j + 1))) := by
 rw [zmb h, latOk]
theorem zip (v : Int) {l : List P2} {j : Nat} (h : j < l.length) : gatOk (v + j) (l.drop j) = (decide (0 ≤ (p2 l j).2 ∧ (p2 l j).2 ≤ (p2 l j).1 ∧ (p2 l j).1 < 2 * (v + j)) && gatOk (v + ((j + 1 : Nat) : Int)) (l.drop (j + 1))) := by
 rw [zmb h, gatOk, show v + ((j + 1 : Nat) : Int) = v + (j : Int) + 1 by omega]
@[reducible] def bP2 (t : TypeId) (p : P2) : AObj := .cells t [.d (eI p.1), .d (eI p.2)]
@[reducible] def fOdd : AV := .fn (.func 90) [.ptr 0 0]
theorem zht (a : Ag) (hl : a.names.length ≤ 1000000) (hs : ∀ x ∈ a.names, x.2.2.length ≤ 1000000) : ACall Tryz.prog 46 [.d (eAg a)] [] (fun r o => r = vB (z2p a)) := by
 refine z8 Tryz.func46 rfl rfl (Nat.le_of_ble_eq_true rfl) fun C hC hCl hDs hGk => ?_
 refine z6 tabOk Tryz.func46 rfl trivial (fun h1 => ?_) (fun h1 => ?_)
 ·have h1 : decide (a.i < 0) = true := h1
  rw [decide_eq_true_eq] at h1
  repeat refine z6 tabOk Tryz.func46 rfl trivial (fun _ => ?_) (fun h => by cases h)
  refine z7 tabOk Tryz.func46 rfl trivial ?_
  rw [z2f (fun h => by omega)]
  rfl
 have h1 : decide (a.i < 0) = false := h1
 rw [decide_eq_false_iff_not] at h1
 refine z6 tabOk Tryz.func46 rfl trivial (fun h2 => ?_) (fun h2 => ?_)
 ·have h2 : decide (a.i > 20000) = true := h2
  rw [decide_eq_true_eq] at h2
  repeat refine z6 tabOk Tryz.func46 rfl trivial (fun _ => ?_) (fun h => by cases h)
  refine z7 tabOk Tryz.func46 rfl trivial ?_
  rw [z2f (fun h => by omega)]
  rfl
 have h2 : decide (a.i > 20000) = false := h2
 rw [decide_eq_false_iff_not] at h2
 refine z6 tabOk Tryz.func46 rfl trivial (fun h3 => ?_) (fun h3 => ?_)
 ·have h3 : decide ((((a.l.map eP2).length : Nat) : Int) > 20000) = true := h3
  rw [decide_eq_true_eq, List.length_map] at h3
  repeat refine z6 tabOk Tryz.func46 rfl trivial (fun _ => ?_) (fun h => by cases h)
  refine z7 tabOk Tryz.func46 rfl trivial ?_
  rw [z2f (fun h => by omega)]
  rfl
 have h3 : decide ((((a.l.map eP2).length : Nat) : Int) > 20000) = false := h3
 rw [decide_eq_false_iff_not, List.length_map] at h3
 refine z6 tabOk Tryz.func46 rfl trivial (fun h4 => ?_) (fun h4 => ?_)
 ·have h4 : decide ((((a.g.map eP2).length : Nat) : Int) > 20000) = true := h4
  rw [decide_eq_true_eq, List.length_map] at h4
  repeat refine z6 tabOk Tryz.func46 rfl trivial (fun _ => ?_) (fun h => by cases h)
  refine z7 tabOk Tryz.func46 rfl trivial ?_
  rw [z2f (fun h => by omega)]
  rfl
 have h4 : decide ((((a.g.map eP2).length : Nat) : Int) > 20000) = false := h4
 rw [decide_eq_false_iff_not, List.length_map] at h4
 have hB : AgB a := ⟨by omega, by omega, by omega, by omega⟩
 have hv := z48 hB
 refine ze tabOk Tryz.func46 rfl trivial (z47 a hB) (.refl _) rfl ⟨_, rfl⟩ (by rintro r o rfl; rfl) ?_
 rintro _ o rfl
 refine z6 tabOk Tryz.func46 rfl trivial (fun h5 => ?_) (fun h5 => ?_)
 ·have h5 : decide (varsA a > 20000) = true := h5
  rw [decide_eq_true_eq] at h5
  refine z7 tabOk Tryz.func46 rfl trivial ?_
  rw [z2f (fun h => by omega)]
  rfl
 have h5 : decide (varsA a > 20000) = false := h5
 rw [decide_eq_false_iff_not] at h5
 refine za tabOk Tryz.func46 rfl trivial ?_
 refine zj (α := Nat) (fun j => [(1, .ptr 0 0), (3, fOdd), (37, .d (eP2s a.l)), (38, vI .i64 (a.l.length : Int)), (39, vI .i64 (j : Int))]) (fun _ => [some (bAg a)]) (fun j => j ≤ a.l.length ∧ latOk a.i (varsA a) 0 a.l = latOk a.i (varsA a) j (a.l.drop j)) (fun j => a.l.length - j) 0 ⟨Nat.zero_le _, rfl⟩ ?_ ?_
 ·exact fun h => zg h hC hCl ⟨⟨_, rfl, .refl _⟩, ⟨_, rfl, .refl _⟩, ⟨_, rfl, .refl _⟩, ⟨_, rfl, .of (by rw [List.length_map])⟩, ⟨_, rfl, .refl _⟩, trivial⟩ ⟨.refl _, trivial⟩ rfl rfl (Nat.zero_le _)
 rintro j ⟨hj, hL⟩ ih
 refine z6 tabOk Tryz.func46 rfl trivial (fun hb => ?_) (fun hb => ?_)
 ·have hb : decide ((j : Int) < (a.l.length : Int)) = true := hb
  rw [decide_eq_true_eq] at hb
  have hlt : j < a.l.length := by omega
  have hst := zij a.i (varsA a) hlt
  rw [← hL] at hst
  have ih := fun h => ih (j + 1) ⟨by omega, h⟩ (by omega)
  refine zh 12 tabOk Tryz.func46 rfl (by simp only [andP, and_true, true_and, Int.toNat_natCast, List.length_map, List.length_append, List.length_cons, List.length_nil, List.length_replicate]; omega) ?_
  refine zg (env' := [(1, .ptr 0 0), (3, fOdd), (37, .d (eP2s a.l)), (38, vI .i64 (a.l.length : Int)), (39, vI .i64 (j : Int)), (4, vI .i64 (j : Int)), (5, .ptr 1 0)]) (objs' := [some (bAg a), some (bP2 85 (p2 a.l j))]) ?_ hC hCl ⟨⟨_, rfl, .refl _⟩, ⟨_, rfl, .refl _⟩, ⟨_, rfl, .refl _⟩, ⟨_, rfl, .refl _⟩, ⟨_, rfl, .refl _⟩, ⟨_, rfl, .refl _⟩, ⟨_, rfl, .refl _⟩, trivial⟩ ⟨.refl _, .refl _, trivial⟩ rfl rfl (Nat.zero_le _)
  generalize p2 a.l j = p at *
  refine zm [0] tabOk Tryz.func46 rfl trivial (zi9 a p.1 hB) ⟨⟨_, rfl, .refl _⟩, trivial⟩ (.refl _) rfl rfl rfl ⟨_, rfl⟩ ?_
  rintro r o ⟨rfl, rfl⟩
  have hob := zia (varsA a) p.1
  cases ho : oddB (varsA a) p.1 with
  | true =>
   rw [ho] at hob
   have hob := of_decide_eq_false hob.symm
   repeat refine z6 tabOk Tryz.func46 rfl trivial (fun _ => ?_) (fun h => by cases h)
   refine z7 tabOk Tryz.func46 rfl trivial ?_
   rw [z3x (fun h => by rw [h.1, decide_eq_false (fun hh => hob hh.1)] at hst; cases hst)]
   rfl
  | false =>
  rw [ho] at hob
  have hob := of_decide_eq_true hob.symm
  have e1 : IntKind.i64.wrap (a.i + 1) = a.i + 1 := zb (by omega) (by omega)
  have e2 : IntKind.i64.wrap (a.i + 1 + (j : Int)) = a.i + 1 + (j : Int) := zb (by omega) (by omega)
  have e3 : IntKind.i64.wrap (2 * (a.i + 1 + (j : Int))) = 2 * (a.i + 1 + (j : Int)) := zb (by omega) (by omega)
  have next : (p.2 = 0 ∨ p.2 = 1 ∨ p.2 = 2 * (a.i + 1 + j)) → latOk a.i (varsA a) 0 a.l = latOk a.i (varsA a) (j + 1) (a.l.drop (j + 1)) := fun h => by
   rw [hst, decide_eq_true ⟨hob, h⟩, Bool.true_and]
  refine z6 tabOk Tryz.func46 rfl trivial (fun h => by cases h) (fun _ => ?_)
  refine z6 tabOk Tryz.func46 rfl trivial (fun h6 => ?_) (fun h6 => ?_)
  rotate_left
  ·have h6 : (p.2 != 0) = false := h6
   rw [bne_eq_false_iff_eq] at h6
   repeat refine z6 tabOk Tryz.func46 rfl trivial (fun h => by cases h) (fun _ => ?_)
   refine za tabOk Tryz.func46 rfl trivial ?_
   exact zg (ih (next (.inl h6))) hC hCl ⟨⟨_, rfl, .refl _⟩, ⟨_, rfl, .refl _⟩, ⟨_, rfl, .refl _⟩, ⟨_, rfl, .refl _⟩, ⟨_, rfl, .of (by rw [zb (by omega) (by omega)]; rfl)⟩, trivial⟩ ⟨.refl _, trivial⟩ rfl rfl (Nat.zero_le _)
  have h6 : (p.2 != 0) = true := h6
  rw [bne_iff_ne] at h6
  refine z6 tabOk Tryz.func46 rfl trivial (fun h7 => ?_) (fun h7 => ?_)
  rotate_left
  ·have h7 : (p.2 != 1) = false := h7
   rw [bne_eq_false_iff_eq] at h7
   repeat refine z6 tabOk Tryz.func46 rfl trivial (fun h => by cases h) (fun _ => ?_)
   refine za tabOk Tryz.func46 rfl trivial ?_
   exact zg (ih (next (.inr (.inl h7)))) hC hCl ⟨⟨_, rfl, .refl _⟩, ⟨_, rfl, .refl _⟩, ⟨_, rfl, .refl _⟩, ⟨_, rfl, .refl _⟩, ⟨_, rfl, .of (by rw [zb (by omega) (by omega)]; rfl)⟩, trivial⟩ ⟨.refl _, trivial⟩ rfl rfl (Nat.zero_le _)
  have h7 : (p.2 != 1) = true := h7
  rw [bne_iff_ne] at h7
  refine z6 tabOk Tryz.func46 rfl trivial (fun h8 => ?_) (fun h8 => ?_)
  ·have h8 : (p.2 != IntKind.i64.wrap (2 * IntKind.i64.wrap (IntKind.i64.wrap (a.i + 1) + (j : Int)))) = true := h8
   rw [e1, e2, e3, bne_iff_ne] at h8
   refine z7 tabOk Tryz.func46 rfl trivial ?_
   rw [z3x (fun h => by rw [h.1, decide_eq_false (fun hh => by rcases hh.2 with h | h | h; exact h6 h; exact h7 h; exact h8 h)] at hst; cases hst)]
   rfl
  ·have h8 : (p.2 != IntKind.i64.wrap (2 * IntKind.i64.wrap (IntKind.i64.wrap (a.i + 1) + (j : Int)))) = false := h8
   rw [e1, e2, e3, bne_eq_false_iff_eq] at h8
   refine za tabOk Tryz.func46 rfl trivial ?_
   exact zg (ih (next (.inr (.inr h8)))) hC hCl ⟨⟨_, rfl, .refl _⟩, ⟨_, rfl, .refl _⟩, ⟨_, rfl, .refl _⟩, ⟨_, rfl, .refl _⟩, ⟨_, rfl, .of (by rw [zb (by omega) (by omega)]; rfl)⟩, trivial⟩ ⟨.refl _, trivial⟩ rfl rfl (Nat.zero_le _)
 have hb : decide ((j : Int) < (a.l.length : Int)) = false := hb
 rw [decide_eq_false_iff_not] at hb
 obtain rfl : j = a.l.length := by omega
 rw [List.drop_length] at hL
 have hL : latOk a.i (varsA a) 0 a.l = true := hL
 clear ih
 refine za tabOk Tryz.func46 rfl trivial ?_
 refine zj (α := Nat) (fun j => [(1, .ptr 0 0), (3, fOdd), (71, .d (eP2s a.g)), (72, vI .i64 (a.g.length : Int)), (73, vI .i64 (j : Int))]) (fun _ => [some (bAg a)]) (fun j => j ≤ a.g.length ∧ gatOk (a.i + a.l.length + 1) a.g = gatOk (a.i + a.l.length + 1 + (j : Int)) (a.g.drop j)) (fun j => a.g.length - j) 0 ⟨Nat.zero_le _, by simp⟩ ?_ ?_
 ·exact fun h => zg h hC hCl ⟨⟨_, rfl, .refl _⟩, ⟨_, rfl, .refl _⟩, ⟨_, rfl, .refl _⟩, ⟨_, rfl, .of (by rw [List.length_map])⟩, ⟨_, rfl, .refl _⟩, trivial⟩ ⟨.refl _, trivial⟩ rfl rfl (Nat.zero_le _)
 rintro j ⟨hj, hG⟩ ih
 refine z6 tabOk Tryz.func46 rfl trivial (fun hb => ?_) (fun hb => ?_)
 ·have hb : decide ((j : Int) < (a.g.length : Int)) = true := hb
  rw [decide_eq_true_eq] at hb
  have hlt : j < a.g.length := by omega
  have hst := zip (a.i + a.l.length + 1) hlt
  rw [← hG] at hst
  have ih := fun h => ih (j + 1) ⟨by omega, h⟩ (by omega)
  refine zh 12 tabOk Tryz.func46 rfl (by simp only [andP, and_true, true_and, Int.toNat_natCast, List.length_map, List.length_append, List.length_cons, List.length_nil, List.length_replicate]; omega) ?_
  refine zg (env' := [(1, .ptr 0 0), (3, fOdd), (71, .d (eP2s a.g)), (72, vI .i64 (a.g.length : Int)), (73, vI .i64 (j : Int)), (6, vI .i64 (j : Int)), (7, .ptr 1 0)]) (objs' := [some (bAg a), some (bP2 98 (p2 a.g j))]) ?_ hC hCl ⟨⟨_, rfl, .refl _⟩, ⟨_, rfl, .refl _⟩, ⟨_, rfl, .refl _⟩, ⟨_, rfl, .refl _⟩, ⟨_, rfl, .refl _⟩, ⟨_, rfl, .refl _⟩, ⟨_, rfl, .refl _⟩, trivial⟩ ⟨.refl _, .refl _, trivial⟩ rfl rfl (Nat.zero_le _)
  generalize p2 a.g j = p at *
  have no : ¬ (0 ≤ p.2 ∧ p.2 ≤ p.1 ∧ p.1 < 2 * (a.i + a.l.length + 1 + (j : Int))) → z2p a = false := fun hn => z3x (fun h => by rw [h.2.1, decide_eq_false hn] at hst; cases hst)
  have e1 : IntKind.i64.wrap (a.i + (((a.l.map eP2).length : Nat) : Int)) = a.i + (a.l.length : Int) := by rw [List.length_map, zb (by omega) (by omega)]
  have e2 : IntKind.i64.wrap (a.i + (a.l.length : Int) + 1) = a.i + (a.l.length : Int) + 1 := zb (by omega) (by omega)
  have e3 : IntKind.i64.wrap (a.i + (a.l.length : Int) + 1 + (j : Int)) = a.i + (a.l.length : Int) + 1 + (j : Int) := zb (by omega) (by omega)
  have e4 : IntKind.i64.wrap (2 * (a.i + (a.l.length : Int) + 1 + (j : Int))) = 2 * (a.i + (a.l.length : Int) + 1 + (j : Int)) := zb (by omega) (by omega)
  refine z6 tabOk Tryz.func46 rfl trivial (fun h6 => ?_) (fun h6 => ?_)
  ·have h6 : decide (p.2 < 0) = true := h6
   rw [decide_eq_true_eq] at h6
   repeat refine z6 tabOk Tryz.func46 rfl trivial (fun _ => ?_) (fun h => by cases h)
   refine z7 tabOk Tryz.func46 rfl trivial ?_
   rw [no (fun h => by omega)]
   rfl
  have h6 : decide (p.2 < 0) = false := h6
  rw [decide_eq_false_iff_not] at h6
  refine z6 tabOk Tryz.func46 rfl trivial (fun h7 => ?_) (fun h7 => ?_)
  ·have h7 : decide (p.2 > p.1) = true := h7
   rw [decide_eq_true_eq] at h7
   repeat refine z6 tabOk Tryz.func46 rfl trivial (fun _ => ?_) (fun h => by cases h)
   refine z7 tabOk Tryz.func46 rfl trivial ?_
   rw [no (fun h => by omega)]
   rfl
  have h7 : decide (p.2 > p.1) = false := h7
  rw [decide_eq_false_iff_not] at h7
  refine z6 tabOk Tryz.func46 rfl trivial (fun h8 => ?_) (fun h8 => ?_)
  ·have h8 : decide (p.1 ≥ IntKind.i64.wrap (2 * IntKind.i64.wrap (IntKind.i64.wrap (IntKind.i64.wrap (a.i + (((a.l.map eP2).length : Nat) : Int)) + 1) + (j : Int)))) = true := h8
   rw [e1, e2, e3, e4, decide_eq_true_eq] at h8
   refine z7 tabOk Tryz.func46 rfl trivial ?_
   rw [no (fun h => by omega)]
   rfl
  ·have h8 : decide (p.1 ≥ IntKind.i64.wrap (2 * IntKind.i64.wrap (IntKind.i64.wrap (IntKind.i64.wrap (a.i + (((a.l.map eP2).length : Nat) : Int)) + 1) + (j : Int)))) = false := h8
   rw [e1, e2, e3, e4, decide_eq_false_iff_not] at h8
   refine za tabOk Tryz.func46 rfl trivial ?_
   exact zg (ih (by rw [hst, decide_eq_true (by omega), Bool.true_and])) hC hCl ⟨⟨_, rfl, .refl _⟩, ⟨_, rfl, .refl _⟩, ⟨_, rfl, .refl _⟩, ⟨_, rfl, .refl _⟩, ⟨_, rfl, .of (by rw [zb (by omega) (by omega)]; rfl)⟩, trivial⟩ ⟨.refl _, trivial⟩ rfl rfl (Nat.zero_le _)
 have hb : decide ((j : Int) < (a.g.length : Int)) = false := hb
 rw [decide_eq_false_iff_not] at hb
 obtain rfl : j = a.g.length := by omega
 rw [List.drop_length] at hG
 have hG : gatOk (a.i + a.l.length + 1) a.g = true := hG
 clear ih
 refine za tabOk Tryz.func46 rfl trivial ?_
 refine zj (α := Nat) (fun j => [(1, .ptr 0 0), (3, fOdd), (110, .d (cCEs [a.outs, a.bad, a.con])), (111, vI .i64 3), (112, vI .i64 (j : Int))]) (fun _ => [some (bAg a)]) (fun j => j ≤ 3 ∧ ∀ q, q < j → z1o (varsA a) (([a.outs, a.bad, a.con] : List (List Int)).getD q []) = true) (fun j => 3 - j) 0 ⟨Nat.zero_le _, fun q hq => by omega⟩ ?_ ?_
 ·exact fun h => zg h hC hCl ⟨⟨_, rfl, .refl _⟩, ⟨_, rfl, .refl _⟩, ⟨_, rfl, VLe.eL rfl⟩, ⟨_, rfl, .refl _⟩, ⟨_, rfl, .refl _⟩, trivial⟩ ⟨.refl _, trivial⟩ rfl rfl (Nat.zero_le _)
 rintro j ⟨hj, hR⟩ ih
 refine z6 tabOk Tryz.func46 rfl trivial (fun hb => ?_) (fun hb => ?_)
 ·have hb : decide ((j : Int) < 3) = true := hb
  rw [decide_eq_true_eq] at hb
  have ih := fun h => ih (j + 1) ⟨by omega, h⟩ (by omega)
  have no : z1o (varsA a) (([a.outs, a.bad, a.con] : List (List Int)).getD j []) = false → z2p a = false := fun hn => z3x (fun h => by
   rcases (by omega : j = 0 ∨ j = 1 ∨ j = 2) with rfl | rfl | rfl
   ·exact absurd (h.2.2.1.symm.trans hn) (by decide)
   ·exact absurd (h.2.2.2.1.symm.trans hn) (by decide)
   ·exact absurd (h.2.2.2.2.symm.trans hn) (by decide))
  have hlk : ∀ l : List Int, z1o (varsA a) l = (decide (l.length ≤ 2000) && !(l.any (oddB (varsA a)))) := fun l => by
   unfold z1o
   rw [List.not_any_eq_all_not]
   congr 2
   funext x
   exact (zia _ _).symm
  have next : z1o (varsA a) (([a.outs, a.bad, a.con] : List (List Int)).getD j []) = true → ∀ q, q < j + 1 → z1o (varsA a) (([a.outs, a.bad, a.con] : List (List Int)).getD q []) = true := fun hn q hq => by
   rcases Nat.lt_succ_iff_lt_or_eq.1 hq with h | rfl
   ·exact hR q h
   ·exact hn
  rw [hlk] at no next
  obtain ⟨row, hrow⟩ : ∃ row, ([a.outs, a.bad, a.con] : List (List Int)).getD j [] = row := ⟨_, rfl⟩
  rw [hrow] at no next
  have hnd : (0 ≤ (j : Int) ∧ (j : Int) < ((([a.outs, a.bad, a.con] : List (List Int)).map eIs).length : Int)) ∧ True := ⟨⟨by omega, by show (j : Int) < 3; omega⟩, trivial⟩
  refine z6 tabOk Tryz.func46 rfl hnd (fun h6 => ?_) (fun h6 => ?_)
  ·have h6 : decide (((((([a.outs, a.bad, a.con] : List (List Int)).getD j []).map eI).length : Nat) : Int) > 2000) = true := h6
   rw [hrow, decide_eq_true_eq, List.length_map] at h6
   repeat refine z6 tabOk Tryz.func46 rfl trivial (fun _ => ?_) (fun h => by cases h)
   refine z7 tabOk Tryz.func46 rfl trivial ?_
   rw [no (by rw [decide_eq_false (by omega)]; rfl)]
   rfl
  have h6 : decide (((((([a.outs, a.bad, a.con] : List (List Int)).getD j []).map eI).length : Nat) : Int) > 2000) = false := h6
  rw [hrow, decide_eq_false_iff_not, List.length_map] at h6
  rw [decide_eq_true (show row.length ≤ 2000 by omega), Bool.true_and] at no next
  refine zm [0] tabOk Tryz.func46 rfl trivial (zoe 90 (oddB (varsA a)) a row (fun x _ => zi9 a x hB)) ⟨⟨_, rfl, .refl _⟩, trivial⟩ ⟨.of ?vl, .refl _, trivial⟩ rfl rfl rfl ⟨_, rfl⟩ ?_
  case vl =>
   show AV.d (eIs (([a.outs, a.bad, a.con] : List (List Int)).getD j [])) = _
   rw [hrow]
   rfl
  rintro r o ⟨rfl, rfl⟩
  cases hany : row.any (oddB (varsA a)) with
  | true =>
   rw [hany] at no
   refine z6 tabOk Tryz.func46 rfl trivial (fun _ => ?_) (fun h => by cases h)
   refine z7 tabOk Tryz.func46 rfl trivial ?_
   rw [no rfl]
   rfl
  | false =>
   rw [hany] at next
   refine z6 tabOk Tryz.func46 rfl trivial (fun h => by cases h) (fun _ => ?_)
   refine za tabOk Tryz.func46 rfl trivial ?_
   exact zg (ih (next rfl)) hC hCl ⟨⟨_, rfl, .refl _⟩, ⟨_, rfl, .refl _⟩, ⟨_, rfl, .refl _⟩, ⟨_, rfl, .refl _⟩, ⟨_, rfl, .of (by rw [zb (by omega) (by omega)]; rfl)⟩, trivial⟩ ⟨.refl _, trivial⟩ rfl rfl (Nat.zero_le _)
 have hb : decide ((j : Int) < 3) = false := hb
 rw [decide_eq_false_iff_not] at hb
 obtain rfl : j = 3 := by omega
 have r0 := hR 0 (by decide)
 have r1 := hR 1 (by decide)
 have r2 := hR 2 (by decide)
 refine ze tabOk Tryz.func46 rfl trivial (zhu a hl hs) (.refl _) rfl ⟨_, rfl⟩ (by rintro r o rfl; rfl) ?_
 rintro _ o rfl
 refine z7 tabOk Tryz.func46 rfl trivial ?_
 have r0 : z1o (varsA a) a.outs = true := r0
 have r1 : z1o (varsA a) a.bad = true := r1
 have r2 : z1o (varsA a) a.con = true := r2
 have hd : 0 ≤ a.i ∧ a.i ≤ 20000 ∧ a.l.length ≤ 20000 ∧ a.g.length ≤ 20000 ∧ varsA a ≤ 20000 := by omega
 unfold z2p
 rw [hL, hG, r0, r1, r2, decide_eq_true hd]
 rfl
theorem z5e (a : Ag) (h : AgB a) : ACall Tryz.prog 35 [.d (eAg a)] [] (fun r o => r = vI .i64 (varsA a)) := by
 refine z8 Tryz.func35 rfl rfl (Nat.le_of_ble_eq_true rfl) fun C hC hCl hDs hGk => ?_
 refine z7 tabOk Tryz.func35 rfl trivial ?_
 show vI .i64 _ = _
 rw [← ze7 h]
@[reducible] def zaz : List UInt8 := [105, 108, 111, 98, 99]
theorem zmu {c : UInt8} (h : ∀ q, q < 5 → zaz.getD q 0 ≠ c) : kindN c = -1 := by
 have h0 : (105 : UInt8) ≠ c := h 0 (by decide)
 have h1 : (108 : UInt8) ≠ c := h 1 (by decide)
 have h2 : (111 : UInt8) ≠ c := h 2 (by decide)
 have h3 : (98 : UInt8) ≠ c := h 3 (by decide)
 have h4 : (99 : UInt8) ≠ c := h 4 (by decide)
 unfold kindN
 rw [if_neg h0.symm, if_neg h1.symm, if_neg h2.symm, if_neg h3.symm, if_neg h4.symm]
theorem zmt {i : Nat} (h : i < 5) : kindN (zaz.getD i 0) = (i : Int) := by
 rcases (by omega : i = 0 ∨ i = 1 ∨ i = 2 ∨ i = 3 ∨ i = 4) with rfl | rfl | rfl | rfl | rfl <;> rfl
theorem z8m (c : UInt8) : ACall Tryz.prog 83 [vI .u8 (c.toNat : Int)] [] (fun r o => r = vI .i64 (kindN c)) := by
 refine z8 Tryz.func83 rfl rfl (Nat.le_of_ble_eq_true rfl) fun C hC hCl hDs hGk => ?_
 refine za tabOk Tryz.func83 rfl trivial ?_
 refine zj (α := Nat) (fun i => [(0, vI .u8 (c.toNat : Int)), (3, .d (eBy zaz)), (4, vI .i64 (i : Int))]) (fun _ => []) (fun i => i ≤ 5 ∧ ∀ q, q < i → zaz.getD q 0 ≠ c) (fun i => 5 - i) 0 ⟨Nat.zero_le _, fun q h => absurd h (Nat.not_lt_zero q)⟩ ?_ ?_
 ·exact fun h => zg h hC hCl ⟨⟨_, rfl, .refl _⟩, ⟨_, rfl, VLe.eL rfl⟩, ⟨_, rfl, .refl _⟩, trivial⟩ trivial rfl rfl (Nat.zero_le _)
 rintro i ⟨hi, hq⟩ ih
 refine z6 tabOk Tryz.func83 rfl trivial (fun hb => ?_) (fun hb => ?_)
 ·have hb : decide ((i : Int) < 5) = true := hb
  rw [decide_eq_true_eq] at hb
  have hlt : i < 5 := by omega
  refine z6 tabOk Tryz.func83 rfl ⟨⟨by omega, by show (i : Int) < 5; omega⟩, trivial⟩ (fun h2 => ?_) (fun h2 => ?_)
  ·have h2 : (((zaz.getD i 0).toNat : Int) == (c.toNat : Int)) = true := h2
   rw [beq_iff_eq] at h2
   have h3 : zaz.getD i 0 = c := UInt8.toNat_inj.1 (by omega)
   refine z7 tabOk Tryz.func83 rfl trivial ?_
   rw [← h3, zmt hlt]
   rfl
  ·have h2 : (((zaz.getD i 0).toNat : Int) == (c.toNat : Int)) = false := h2
   rw [beq_eq_false_iff_ne] at h2
   refine za tabOk Tryz.func83 rfl trivial ?_
   refine zg (ih (i + 1) ⟨by omega, fun q hqi => ?_⟩ (by omega)) hC hCl ⟨⟨_, rfl, .refl _⟩, ⟨_, rfl, .refl _⟩, ⟨_, rfl, .of (by rw [zb (by omega) (by omega)]; rfl)⟩, trivial⟩ trivial rfl rfl (Nat.zero_le _)
   rcases Nat.lt_or_ge q i with h3 | h3
   ·exact hq q h3
   ·obtain rfl : q = i := by omega
    exact fun e => h2 (by rw [e])
 ·have hb : decide ((i : Int) < 5) = false := hb
  rw [decide_eq_false_iff_not] at hb
  obtain rfl : i = 5 := by omega
  refine z7 tabOk Tryz.func83 rfl trivial ?_
  rw [zmu hq]
  rfl
theorem zgp (a : Ag) (k : Int) : ACall Tryz.prog 82 [.d (eAg a), vI .i64 k] [] (fun r o => r = vI .i64 (manyN a k)) := by
 refine z8 Tryz.func82 rfl rfl (Nat.le_of_ble_eq_true rfl) fun C hC hCl hDs hGk => ?_
 unfold manyN
 refine z6 tabOk Tryz.func82 rfl trivial (fun h => ?_) (fun h => ?_)
 ·have h : (k == 0) = true := h
  rw [if_pos (beq_iff_eq.1 h)]
  exact z7 tabOk Tryz.func82 rfl trivial rfl
 have h : (k == 0) = false := h
 rw [if_neg (beq_eq_false_iff_ne.1 h)]
 refine z6 tabOk Tryz.func82 rfl trivial (fun h => ?_) (fun h => ?_)
 ·have h : (k == 1) = true := h
  rw [if_pos (beq_iff_eq.1 h)]
  refine z7 tabOk Tryz.func82 rfl trivial ?_
  show vI .i64 (((a.l.map eP2).length : Nat) : Int) = _
  rw [List.length_map]
 have h : (k == 1) = false := h
 rw [if_neg (beq_eq_false_iff_ne.1 h)]
 refine z6 tabOk Tryz.func82 rfl trivial (fun h => ?_) (fun h => ?_)
 ·have h : (k == 2) = true := h
  rw [if_pos (beq_iff_eq.1 h)]
  refine z7 tabOk Tryz.func82 rfl trivial ?_
  show vI .i64 (((a.outs.map eI).length : Nat) : Int) = _
  rw [List.length_map]
 have h : (k == 2) = false := h
 rw [if_neg (beq_eq_false_iff_ne.1 h)]
 refine z6 tabOk Tryz.func82 rfl trivial (fun h => ?_) (fun h => ?_)
 ·have h : (k == 3) = true := h
  rw [if_pos (beq_iff_eq.1 h)]
  refine z7 tabOk Tryz.func82 rfl trivial ?_
  show vI .i64 (((a.bad.map eI).length : Nat) : Int) = _
  rw [List.length_map]
 have h : (k == 3) = false := h
 rw [if_neg (beq_eq_false_iff_ne.1 h)]
 refine z6 tabOk Tryz.func82 rfl trivial (fun h => ?_) (fun h => ?_)
 ·have h : (k == 4) = true := h
  rw [if_pos (beq_iff_eq.1 h)]
  refine z7 tabOk Tryz.func82 rfl trivial ?_
  show vI .i64 (((a.con.map eI).length : Nat) : Int) = _
  rw [List.length_map]
 have h : (k == 4) = false := h
 rw [if_neg (beq_eq_false_iff_ne.1 h)]
 exact z7 tabOk Tryz.func82 rfl trivial rfl
theorem zet (x y : Nm) : ACall Tryz.prog 84 [.d (eNm x), .d (eNm y)] [] (fun r o => r = vB (behB x y)) := by
 refine z8 Tryz.func84 rfl rfl (Nat.le_of_ble_eq_true rfl) fun C hC hCl hDs hGk => ?_
 refine ze tabOk Tryz.func84 rfl trivial (z8m x.1) (.refl _) rfl ⟨_, rfl⟩ (by rintro r o rfl; rfl) ?_
 rintro _ o rfl
 refine ze tabOk Tryz.func84 rfl trivial (z8m y.1) (.refl _) rfl ⟨_, rfl⟩ (by rintro r o rfl; rfl) ?_
 rintro _ o rfl
 unfold behB
 generalize kindN x.1 = k
 generalize kindN y.1 = j
 refine z6 tabOk Tryz.func84 rfl trivial (fun h1 => ?_) (fun h1 => ?_)
 ·have h1 : decide (k < j) = true := h1
  rw [decide_eq_true_eq] at h1
  refine z7 tabOk Tryz.func84 rfl trivial ?_
  rw [decide_eq_true (Or.inl h1)]
  rfl
 have h1 : decide (k < j) = false := h1
 rw [decide_eq_false_iff_not] at h1
 refine z6 tabOk Tryz.func84 rfl trivial (fun h2 => ?_) (fun h2 => ?_)
 ·have h2 : (k == j) = true := h2
  rw [beq_iff_eq] at h2
  refine z7 tabOk Tryz.func84 rfl trivial ?_
  show vB (decide (x.2.1 < y.2.1)) = _
  congr 2
  rw [eq_iff_iff]
  constructor
  ·exact fun h => .inr ⟨h2, h⟩
  ·exact fun h => h.elim (fun h => absurd h h1) (fun h => h.2)
 ·have h2 : (k == j) = false := h2
  rw [beq_eq_false_iff_ne] at h2
  refine z7 tabOk Tryz.func84 rfl trivial ?_
  rw [decide_eq_false (fun h => h.elim h1 fun h => h2 h.1)]
  rfl
theorem z7c (l : List Int) (v : Int) (hv : 0 ≤ v ∧ v ≤ 3000000) (hl : l.length ≤ maxLen) : ACall Tryz.prog 80 [.d (eIs l), vI .i64 v] [] (fun r o => r = vB (z1o v l)) := by
 refine z8 Tryz.func80 rfl rfl (Nat.le_of_ble_eq_true rfl) fun C hC hCl hDs hGk => ?_
 have hml : maxLen = 9223372036854775807 := rfl
 unfold z1o
 have e1 : IntKind.i64.wrap (2 * v) = 2 * v := zb (by omega) (by omega)
 have e2 : IntKind.i64.wrap (2 * v + 1) = 2 * v + 1 := zb (by omega) (by omega)
 have no : ∀ {i : Nat} (h : i < l.length), ¬ (0 ≤ l.getD i 0 ∧ l.getD i 0 ≤ 2 * v + 1) → l.all (fun x => decide (0 ≤ x ∧ x ≤ 2 * v + 1)) = false := fun {i} h hn => by
  rw [z8t (d := 0) h] at hn
  rw [← Bool.not_eq_true, List.all_eq_true]
  exact fun hh => hn (of_decide_eq_true (hh _ (List.getElem_mem h)))
 refine za tabOk Tryz.func80 rfl trivial ?_
 refine zj (α := Nat) (fun i => [(0, .d (eIs l)), (1, vI .i64 v), (5, vI .i64 (i : Int))]) (fun _ => []) (fun i => i ≤ l.length ∧ ∀ q (h : q < l.length), q < i → 0 ≤ l[q] ∧ l[q] ≤ 2 * v + 1) (fun i => l.length - i) 0 ⟨Nat.zero_le _, fun q _ h => absurd h (Nat.not_lt_zero q)⟩ ?_ ?_
 ·exact fun h => zg h hC hCl ⟨⟨_, rfl, .refl _⟩, ⟨_, rfl, .refl _⟩, ⟨_, rfl, .refl _⟩, trivial⟩ trivial rfl rfl (Nat.zero_le _)
 rintro i ⟨hi, hq⟩ ih
 refine z6 tabOk Tryz.func80 rfl trivial (fun hb => ?_) (fun hb => ?_)
 ·have hb : decide ((i : Int) < (((l.map eI).length : Nat) : Int)) = true := hb
  rw [decide_eq_true_eq, List.length_map] at hb
  have hlt : i < l.length := by omega
  refine z6 tabOk Tryz.func80 rfl (by simp only [andP, and_true, true_and, Int.toNat_natCast, List.length_map, List.length_append, List.length_cons, List.length_nil, List.length_replicate]; omega) (fun h1 => ?_) (fun h1 => ?_)
  ·have h1 : decide (l.getD i 0 < 0) = true := h1
   rw [decide_eq_true_eq] at h1
   refine z6 tabOk Tryz.func80 rfl trivial (fun _ => ?_) (fun h => by cases h)
   refine z7 tabOk Tryz.func80 rfl trivial ?_
   rw [no hlt (by omega), Bool.and_false]
   rfl
  have h1 : decide (l.getD i 0 < 0) = false := h1
  rw [decide_eq_false_iff_not] at h1
  refine z6 tabOk Tryz.func80 rfl (by simp only [andP, and_true, true_and, Int.toNat_natCast, List.length_map, List.length_append, List.length_cons, List.length_nil, List.length_replicate]; omega) (fun h2 => ?_) (fun h2 => ?_)
  ·have h2 : decide (l.getD i 0 > IntKind.i64.wrap (IntKind.i64.wrap (2 * v) + 1)) = true := h2
   rw [e1, e2, decide_eq_true_eq] at h2
   refine z7 tabOk Tryz.func80 rfl trivial ?_
   rw [no hlt (by omega), Bool.and_false]
   rfl
  have h2 : decide (l.getD i 0 > IntKind.i64.wrap (IntKind.i64.wrap (2 * v) + 1)) = false := h2
  rw [e1, e2, decide_eq_false_iff_not] at h2
  refine za tabOk Tryz.func80 rfl trivial ?_
  refine zg (ih (i + 1) ⟨by omega, fun q hq2 hqi => ?_⟩ (by omega)) hC hCl ⟨⟨_, rfl, .refl _⟩, ⟨_, rfl, .refl _⟩, ⟨_, rfl, .of (by rw [zb (by omega) (by omega)]; rfl)⟩, trivial⟩ trivial rfl rfl (Nat.zero_le _)
  rcases Nat.lt_or_ge q i with h3 | h3
  ·exact hq q hq2 h3
  ·obtain rfl : q = i := by omega
   rw [z8t (d := 0) hlt] at h1 h2
   omega
 ·have hb : decide ((i : Int) < (((l.map eI).length : Nat) : Int)) = false := hb
  rw [decide_eq_false_iff_not, List.length_map] at hb
  obtain rfl : i = l.length := by omega
  have hall : l.all (fun x => decide (0 ≤ x ∧ x ≤ 2 * v + 1)) = true := by
   rw [List.all_eq_true]
   intro x hx
   obtain ⟨q, hq2, rfl⟩ := List.mem_iff_getElem.1 hx
   exact decide_eq_true (hq q hq2 hq2)
  refine z7 tabOk Tryz.func80 rfl trivial ?_
  rw [hall, Bool.and_true]
  show vB (decide ((((l.map eI).length : Nat) : Int) ≤ 2000)) = _
  rw [List.length_map]
  congr 2
  rw [eq_iff_iff]
  omega
theorem z7u {a : Ag} (h : nmsOk a none a.names = false) : z2p a = false := by
 rw [← Bool.not_eq_true]
 intro hr
 have := (z13.1 hr).nms
 rw [h] at this
 cases this
theorem zep (a : Ag) (ho : a.outs.length ≤ maxLen ∧ a.bad.length ≤ maxLen ∧ a.con.length ≤ maxLen) (hs : ∀ x ∈ a.names, x.2.2.length ≤ maxLen) : ACall Tryz.prog 36 [.d (eAg a)] [] (fun r o => r = vB (z2p a)) := by
 refine z8 Tryz.func36 rfl rfl (Nat.le_of_ble_eq_true rfl) fun C hC hCl hDs hGk => ?_
 refine z6 tabOk Tryz.func36 rfl trivial (fun h1 => ?_) (fun h1 => ?_)
 ·have h1 : decide (a.i < 0) = true := h1
  rw [decide_eq_true_eq] at h1
  repeat refine z6 tabOk Tryz.func36 rfl trivial (fun _ => ?_) (fun h => by cases h)
  refine z7 tabOk Tryz.func36 rfl trivial ?_
  rw [z2f (fun h => by omega)]
  rfl
 have h1 : decide (a.i < 0) = false := h1
 rw [decide_eq_false_iff_not] at h1
 refine z6 tabOk Tryz.func36 rfl trivial (fun h2 => ?_) (fun h2 => ?_)
 ·have h2 : decide (a.i > 20000) = true := h2
  rw [decide_eq_true_eq] at h2
  repeat refine z6 tabOk Tryz.func36 rfl trivial (fun _ => ?_) (fun h => by cases h)
  refine z7 tabOk Tryz.func36 rfl trivial ?_
  rw [z2f (fun h => by omega)]
  rfl
 have h2 : decide (a.i > 20000) = false := h2
 rw [decide_eq_false_iff_not] at h2
 refine z6 tabOk Tryz.func36 rfl trivial (fun h3 => ?_) (fun h3 => ?_)
 ·have h3 : decide ((((a.l.map eP2).length : Nat) : Int) > 20000) = true := h3
  rw [decide_eq_true_eq, List.length_map] at h3
  repeat refine z6 tabOk Tryz.func36 rfl trivial (fun _ => ?_) (fun h => by cases h)
  refine z7 tabOk Tryz.func36 rfl trivial ?_
  rw [z2f (fun h => by omega)]
  rfl
 have h3 : decide ((((a.l.map eP2).length : Nat) : Int) > 20000) = false := h3
 rw [decide_eq_false_iff_not, List.length_map] at h3
 refine z6 tabOk Tryz.func36 rfl trivial (fun h4 => ?_) (fun h4 => ?_)
 ·have h4 : decide ((((a.g.map eP2).length : Nat) : Int) > 20000) = true := h4
  rw [decide_eq_true_eq, List.length_map] at h4
  repeat refine z6 tabOk Tryz.func36 rfl trivial (fun _ => ?_) (fun h => by cases h)
  refine z7 tabOk Tryz.func36 rfl trivial ?_
  rw [z2f (fun h => by omega)]
  rfl
 have h4 : decide ((((a.g.map eP2).length : Nat) : Int) > 20000) = false := h4
 rw [decide_eq_false_iff_not, List.length_map] at h4
 have hB : AgB a := ⟨by omega, by omega, by omega, by omega⟩
 have hv := z48 hB
 refine ze tabOk Tryz.func36 rfl trivial (z5e a hB) (.refl _) rfl ⟨_, rfl⟩ (by rintro r o rfl; rfl) ?_
 rintro _ o rfl
 refine z6 tabOk Tryz.func36 rfl trivial (fun h5 => ?_) (fun h5 => ?_)
 ·have h5 : decide (varsA a > 20000) = true := h5
  rw [decide_eq_true_eq] at h5
  repeat refine z6 tabOk Tryz.func36 rfl trivial (fun _ => ?_) (fun h => by cases h)
  refine z7 tabOk Tryz.func36 rfl trivial ?_
  rw [z2f (fun h => by omega)]
  rfl
 have h5 : decide (varsA a > 20000) = false := h5
 rw [decide_eq_false_iff_not] at h5
 refine z6 tabOk Tryz.func36 rfl trivial (fun h6 => ?_) (fun h6 => ?_)
 ·have h6 : decide ((((a.names.map eNm).length : Nat) : Int) > 2000) = true := h6
  rw [decide_eq_true_eq, List.length_map] at h6
  refine z7 tabOk Tryz.func36 rfl trivial ?_
  have : z2p a = false := by
   rw [← Bool.not_eq_true]
   intro hr
   have := (z13.1 hr).nml
   omega
  rw [this]
  rfl
 have h6 : decide ((((a.names.map eNm).length : Nat) : Int) > 2000) = false := h6
 rw [decide_eq_false_iff_not, List.length_map] at h6
 refine ze tabOk Tryz.func36 rfl trivial (z5e a hB) (.refl _) rfl ⟨_, rfl⟩ (by rintro r o rfl; rfl) ?_
 rintro _ o rfl
 refine ze tabOk Tryz.func36 rfl trivial (z7c a.outs (varsA a) hv ho.1) (.refl _) rfl ⟨_, rfl⟩ (by rintro r o rfl; rfl) ?_
 rintro _ o rfl
 refine ze tabOk Tryz.func36 rfl trivial (z7c a.bad (varsA a) hv ho.2.1) (.refl _) rfl ⟨_, rfl⟩ (by rintro r o rfl; rfl) ?_
 rintro _ o rfl
 refine ze tabOk Tryz.func36 rfl trivial (z7c a.con (varsA a) hv ho.2.2) (.refl _) rfl ⟨_, rfl⟩ (by rintro r o rfl; rfl) ?_
 rintro _ o rfl
 cases q1 : z1o (varsA a) a.outs with
 | false =>
  repeat refine z6 tabOk Tryz.func36 rfl trivial (fun _ => ?_) (fun h => by cases h)
  refine z7 tabOk Tryz.func36 rfl trivial ?_
  rw [z3x (fun h => by rw [h.2.2.1] at q1; cases q1)]
  rfl
 | true =>
 refine z6 tabOk Tryz.func36 rfl trivial (fun h => by cases h) (fun _ => ?_)
 cases q2 : z1o (varsA a) a.bad with
 | false =>
  repeat refine z6 tabOk Tryz.func36 rfl trivial (fun _ => ?_) (fun h => by cases h)
  refine z7 tabOk Tryz.func36 rfl trivial ?_
  rw [z3x (fun h => by rw [h.2.2.2.1] at q2; cases q2)]
  rfl
 | true =>
 refine z6 tabOk Tryz.func36 rfl trivial (fun h => by cases h) (fun _ => ?_)
 cases q3 : z1o (varsA a) a.con with
 | false =>
  repeat refine z6 tabOk Tryz.func36 rfl trivial (fun _ => ?_) (fun h => by cases h)
  refine z7 tabOk Tryz.func36 rfl trivial ?_
  rw [z3x (fun h => by rw [h.2.2.2.2] at q3; cases q3)]
  rfl
 | true =>
 refine z6 tabOk Tryz.func36 rfl trivial (fun h => by cases h) (fun _ => ?_)
 refine za tabOk Tryz.func36 rfl trivial ?_
 refine zj (α := Nat) (fun j => [(1, .ptr 0 0), (3, vI .i64 (varsA a)), (7, vI .i64 (j : Int))]) (fun _ => [some (bAg a)]) (fun j => j ≤ a.l.length ∧ latOk a.i (varsA a) 0 a.l = latOk a.i (varsA a) j (a.l.drop j)) (fun j => a.l.length - j) 0 ⟨Nat.zero_le _, rfl⟩ ?_ ?_
 ·exact fun h => zg h hC hCl ⟨⟨_, rfl, .refl _⟩, ⟨_, rfl, .refl _⟩, ⟨_, rfl, .refl _⟩, trivial⟩ ⟨.refl _, trivial⟩ rfl rfl (Nat.zero_le _)
 rintro j ⟨hj, hL⟩ ih
 refine z6 tabOk Tryz.func36 rfl trivial (fun hb => ?_) (fun hb => ?_)
 ·have hb : decide ((j : Int) < (((a.l.map eP2).length : Nat) : Int)) = true := hb
  rw [decide_eq_true_eq, List.length_map] at hb
  have hlt : j < a.l.length := by omega
  have hst := zij a.i (varsA a) hlt
  rw [← hL] at hst
  have ih := fun h => ih (j + 1) ⟨by omega, h⟩ (by omega)
  have e0 : IntKind.i64.wrap (2 * varsA a) = 2 * varsA a := zb (by omega) (by omega)
  have e0' : IntKind.i64.wrap (2 * varsA a + 1) = 2 * varsA a + 1 := zb (by omega) (by omega)
  have e1 : IntKind.i64.wrap (a.i + (j : Int)) = a.i + (j : Int) := zb (by omega) (by omega)
  have e2 : IntKind.i64.wrap (a.i + (j : Int) + 1) = a.i + (j : Int) + 1 := zb (by omega) (by omega)
  have e3 : IntKind.i64.wrap (2 * (a.i + (j : Int) + 1)) = 2 * (a.i + 1 + (j : Int)) := by rw [zb (by omega) (by omega)]; omega
  refine zh 13 tabOk Tryz.func36 rfl (by simp only [andP, and_true, true_and, Int.toNat_natCast, List.length_map, List.length_append, List.length_cons, List.length_nil, List.length_replicate]; omega) ?_
  refine zg (env' := [(1, .ptr 0 0), (3, vI .i64 (varsA a)), (7, vI .i64 (j : Int)), (8, .ptr 1 0)]) (objs' := [some (bAg a), some (bP2 85 (p2 a.l j))]) ?_ hC hCl ⟨⟨_, rfl, .refl _⟩, ⟨_, rfl, .refl _⟩, ⟨_, rfl, .refl _⟩, ⟨_, rfl, .refl _⟩, trivial⟩ ⟨.refl _, .refl _, trivial⟩ rfl rfl (Nat.zero_le _)
  generalize p2 a.l j = p at *
  have no : ¬ ((0 ≤ p.1 ∧ p.1 ≤ 2 * varsA a + 1) ∧ (p.2 = 0 ∨ p.2 = 1 ∨ p.2 = 2 * (a.i + 1 + (j : Int)))) → z2p a = false := fun hn => z3x (fun h => by rw [h.1, decide_eq_false hn] at hst; cases hst)
  refine z6 tabOk Tryz.func36 rfl trivial (fun h7 => ?_) (fun h7 => ?_)
  ·have h7 : decide (p.1 < 0) = true := h7
   rw [decide_eq_true_eq] at h7
   repeat refine z6 tabOk Tryz.func36 rfl trivial (fun _ => ?_) (fun h => by cases h)
   refine z7 tabOk Tryz.func36 rfl trivial ?_
   rw [no (by omega)]
   rfl
  have h7 : decide (p.1 < 0) = false := h7
  rw [decide_eq_false_iff_not] at h7
  refine z6 tabOk Tryz.func36 rfl trivial (fun h8 => ?_) (fun h8 => ?_)
  ·have h8 : decide (p.1 > IntKind.i64.wrap (IntKind.i64.wrap (2 * varsA a) + 1)) = true := h8
   rw [e0, e0', decide_eq_true_eq] at h8
   repeat refine z6 tabOk Tryz.func36 rfl trivial (fun _ => ?_) (fun h => by cases h)
   refine z7 tabOk Tryz.func36 rfl trivial ?_
   rw [no (by omega)]
   rfl
  have h8 : decide (p.1 > IntKind.i64.wrap (IntKind.i64.wrap (2 * varsA a) + 1)) = false := h8
  rw [e0, e0', decide_eq_false_iff_not] at h8
  have next : (p.2 = 0 ∨ p.2 = 1 ∨ p.2 = 2 * (a.i + 1 + j)) → latOk a.i (varsA a) 0 a.l = latOk a.i (varsA a) (j + 1) (a.l.drop (j + 1)) := fun h => by
   rw [hst, decide_eq_true ⟨by omega, h⟩, Bool.true_and]
  refine z6 tabOk Tryz.func36 rfl trivial (fun h9 => ?_) (fun h9 => ?_)
  rotate_left
  ·have h9 : (p.2 != 0) = false := h9
   rw [bne_eq_false_iff_eq] at h9
   repeat refine z6 tabOk Tryz.func36 rfl trivial (fun h => by cases h) (fun _ => ?_)
   refine za tabOk Tryz.func36 rfl trivial ?_
   exact zg (ih (next (.inl h9))) hC hCl ⟨⟨_, rfl, .refl _⟩, ⟨_, rfl, .refl _⟩, ⟨_, rfl, .of (by rw [zb (by omega) (by omega)]; rfl)⟩, trivial⟩ ⟨.refl _, trivial⟩ rfl rfl (Nat.zero_le _)
  have h9 : (p.2 != 0) = true := h9
  rw [bne_iff_ne] at h9
  refine z6 tabOk Tryz.func36 rfl trivial (fun h10 => ?_) (fun h10 => ?_)
  rotate_left
  ·have h10 : (p.2 != 1) = false := h10
   rw [bne_eq_false_iff_eq] at h10
   repeat refine z6 tabOk Tryz.func36 rfl trivial (fun h => by cases h) (fun _ => ?_)
   refine za tabOk Tryz.func36 rfl trivial ?_
   exact zg (ih (next (.inr (.inl h10)))) hC hCl ⟨⟨_, rfl, .refl _⟩, ⟨_, rfl, .refl _⟩, ⟨_, rfl, .of (by rw [zb (by omega) (by omega)]; rfl)⟩, trivial⟩ ⟨.refl _, trivial⟩ rfl rfl (Nat.zero_le _)
  have h10 : (p.2 != 1) = true := h10
  rw [bne_iff_ne] at h10
  refine z6 tabOk Tryz.func36 rfl trivial (fun h11 => ?_) (fun h11 => ?_)
  ·have h11 : (p.2 != IntKind.i64.wrap (2 * IntKind.i64.wrap (IntKind.i64.wrap (a.i + (j : Int)) + 1))) = true := h11
   rw [e1, e2, e3, bne_iff_ne] at h11
   refine z7 tabOk Tryz.func36 rfl trivial ?_
   rw [no (by omega)]
   rfl
  ·have h11 : (p.2 != IntKind.i64.wrap (2 * IntKind.i64.wrap (IntKind.i64.wrap (a.i + (j : Int)) + 1))) = false := h11
   rw [e1, e2, e3, bne_eq_false_iff_eq] at h11
   refine za tabOk Tryz.func36 rfl trivial ?_
   exact zg (ih (next (.inr (.inr h11)))) hC hCl ⟨⟨_, rfl, .refl _⟩, ⟨_, rfl, .refl _⟩, ⟨_, rfl, .of (by rw [zb (by omega) (by omega)]; rfl)⟩, trivial⟩ ⟨.refl _, trivial⟩ rfl rfl (Nat.zero_le _)
 have hb : decide ((j : Int) < (((a.l.map eP2).length : Nat) : Int)) = false := hb
 rw [decide_eq_false_iff_not, List.length_map] at hb
 obtain rfl : j = a.l.length := by omega
 rw [List.drop_length] at hL
 have hL : latOk a.i (varsA a) 0 a.l = true := hL
 clear ih
 refine za tabOk Tryz.func36 rfl trivial ?_
 refine zj (α := Nat) (fun j => [(1, .ptr 0 0), (9, vI .i64 (j : Int))]) (fun _ => [some (bAg a)]) (fun j => j ≤ a.g.length ∧ gatOk (a.i + a.l.length + 1) a.g = gatOk (a.i + a.l.length + 1 + (j : Int)) (a.g.drop j)) (fun j => a.g.length - j) 0 ⟨Nat.zero_le _, by simp⟩ ?_ ?_
 ·exact fun h => zg h hC hCl ⟨⟨_, rfl, .refl _⟩, ⟨_, rfl, .refl _⟩, trivial⟩ ⟨.refl _, trivial⟩ rfl rfl (Nat.zero_le _)
 rintro j ⟨hj, hG⟩ ih
 refine z6 tabOk Tryz.func36 rfl trivial (fun hb => ?_) (fun hb => ?_)
 ·have hb : decide ((j : Int) < (((a.g.map eP2).length : Nat) : Int)) = true := hb
  rw [decide_eq_true_eq, List.length_map] at hb
  have hlt : j < a.g.length := by omega
  have hst := zip (a.i + a.l.length + 1) hlt
  rw [← hG] at hst
  have ih := fun h => ih (j + 1) ⟨by omega, h⟩ (by omega)
  have e1 : IntKind.i64.wrap (a.i + (((a.l.map eP2).length : Nat) : Int)) = a.i + (a.l.length : Int) := by rw [List.length_map, zb (by omega) (by omega)]
  have e2 : IntKind.i64.wrap (a.i + (a.l.length : Int) + (j : Int)) = a.i + (a.l.length : Int) + (j : Int) := zb (by omega) (by omega)
  have e3 : IntKind.i64.wrap (a.i + (a.l.length : Int) + (j : Int) + 1) = a.i + (a.l.length : Int) + (j : Int) + 1 := zb (by omega) (by omega)
  have e4 : IntKind.i64.wrap (2 * (a.i + (a.l.length : Int) + (j : Int) + 1)) = 2 * (a.i + (a.l.length : Int) + 1 + (j : Int)) := by rw [zb (by omega) (by omega)]; omega
  refine zh 13 tabOk Tryz.func36 rfl (by simp only [andP, and_true, true_and, Int.toNat_natCast, List.length_map, List.length_append, List.length_cons, List.length_nil, List.length_replicate]; omega) ?_
  refine zg (env' := [(1, .ptr 0 0), (9, vI .i64 (j : Int)), (10, .ptr 1 0)]) (objs' := [some (bAg a), some (bP2 98 (p2 a.g j))]) ?_ hC hCl ⟨⟨_, rfl, .refl _⟩, ⟨_, rfl, .refl _⟩, ⟨_, rfl, .refl _⟩, trivial⟩ ⟨.refl _, .refl _, trivial⟩ rfl rfl (Nat.zero_le _)
  generalize p2 a.g j = p at *
  have no : ¬ (0 ≤ p.2 ∧ p.2 ≤ p.1 ∧ p.1 < 2 * (a.i + a.l.length + 1 + (j : Int))) → z2p a = false := fun hn => z3x (fun h => by rw [h.2.1, decide_eq_false hn] at hst; cases hst)
  refine z6 tabOk Tryz.func36 rfl trivial (fun h7 => ?_) (fun h7 => ?_)
  ·have h7 : decide (p.2 < 0) = true := h7
   rw [decide_eq_true_eq] at h7
   repeat refine z6 tabOk Tryz.func36 rfl trivial (fun _ => ?_) (fun h => by cases h)
   refine z7 tabOk Tryz.func36 rfl trivial ?_
   rw [no (fun h => by omega)]
   rfl
  have h7 : decide (p.2 < 0) = false := h7
  rw [decide_eq_false_iff_not] at h7
  refine z6 tabOk Tryz.func36 rfl trivial (fun h8 => ?_) (fun h8 => ?_)
  ·have h8 : decide (p.2 > p.1) = true := h8
   rw [decide_eq_true_eq] at h8
   repeat refine z6 tabOk Tryz.func36 rfl trivial (fun _ => ?_) (fun h => by cases h)
   refine z7 tabOk Tryz.func36 rfl trivial ?_
   rw [no (fun h => by omega)]
   rfl
  have h8 : decide (p.2 > p.1) = false := h8
  rw [decide_eq_false_iff_not] at h8
  refine z6 tabOk Tryz.func36 rfl trivial (fun h9 => ?_) (fun h9 => ?_)
  ·have h9 : decide (p.1 ≥ IntKind.i64.wrap (2 * IntKind.i64.wrap (IntKind.i64.wrap (IntKind.i64.wrap (a.i + (((a.l.map eP2).length : Nat) : Int)) + (j : Int)) + 1))) = true := h9
   rw [e1, e2, e3, e4, decide_eq_true_eq] at h9
   refine z7 tabOk Tryz.func36 rfl trivial ?_
   rw [no (fun h => by omega)]
   rfl
  ·have h9 : decide (p.1 ≥ IntKind.i64.wrap (2 * IntKind.i64.wrap (IntKind.i64.wrap (IntKind.i64.wrap (a.i + (((a.l.map eP2).length : Nat) : Int)) + (j : Int)) + 1))) = false := h9
   rw [e1, e2, e3, e4, decide_eq_false_iff_not] at h9
   refine za tabOk Tryz.func36 rfl trivial ?_
   exact zg (ih (by rw [hst, decide_eq_true (by omega), Bool.true_and])) hC hCl ⟨⟨_, rfl, .refl _⟩, ⟨_, rfl, .of (by rw [zb (by omega) (by omega)]; rfl)⟩, trivial⟩ ⟨.refl _, trivial⟩ rfl rfl (Nat.zero_le _)
 have hb : decide ((j : Int) < (((a.g.map eP2).length : Nat) : Int)) = false := hb
 rw [decide_eq_false_iff_not, List.length_map] at hb
 obtain rfl : j = a.g.length := by omega
 rw [List.drop_length] at hG
 have hG : gatOk (a.i + a.l.length + 1) a.g = true := hG
 clear ih
 refine za tabOk Tryz.func36 rfl trivial ?_
 refine zj (α := Nat) (fun i => [(1, .ptr 0 0), (11, vI .i64 (i : Int))]) (fun _ => [some (bAg a)]) (fun i => i ≤ a.names.length ∧ nmsOk a none a.names = nmsOk a (prevN a.names i) (a.names.drop i)) (fun i => a.names.length - i) 0 ⟨Nat.zero_le _, rfl⟩ ?_ ?_
 ·exact fun h => zg h hC hCl ⟨⟨_, rfl, .refl _⟩, ⟨_, rfl, .refl _⟩, trivial⟩ ⟨.refl _, trivial⟩ rfl rfl (Nat.zero_le _)
 rintro i ⟨hi, hN⟩ ih
 refine z6 tabOk Tryz.func36 rfl trivial (fun hb => ?_) (fun hb => ?_)
 rotate_left
 ·have hb : decide ((i : Int) < (((a.names.map eNm).length : Nat) : Int)) = false := hb
  rw [decide_eq_false_iff_not, List.length_map] at hb
  obtain rfl : i = a.names.length := by omega
  rw [List.drop_length] at hN
  refine z7 tabOk Tryz.func36 rfl trivial ?_
  have hv1 : varsA a ≤ 20000 := by omega
  rw [z13.2 ⟨by omega, hv1, hL, hG, q1, q2, q3, hN, by omega⟩]
  rfl
 have hb : decide ((i : Int) < (((a.names.map eNm).length : Nat) : Int)) = true := hb
 rw [decide_eq_true_eq, List.length_map] at hb
 have hlt : i < a.names.length := by omega
 have hst := zib a hlt
 have hsx : (nm a.names i).2.2.length ≤ maxLen := hs _ (by rw [show nm a.names i = a.names[i] by simp [nm, hlt]]; exact List.getElem_mem hlt)
 rw [← hN] at hst
 have ih := fun h => ih (i + 1) ⟨by omega, h⟩ (by omega)
 have hgi : i ≠ 0 → a.names.getD (IntKind.i64.wrap ((i : Int) - 1)).toNat (0, 0, []) = nm a.names (i - 1) := fun h0 => by
  rw [zb (by omega) (by omega), show ((i : Int) - 1).toNat = i - 1 by omega]
 have hnd : i ≠ 0 → (0 ≤ IntKind.i64.wrap ((i : Int) - 1) ∧ IntKind.i64.wrap ((i : Int) - 1) < (((a.names.map eNm).length : Nat) : Int)) := fun h0 => by
  rw [zb (by omega) (by omega), List.length_map]
  omega
 refine zh 13 tabOk Tryz.func36 rfl (by simp only [andP, and_true, true_and, Int.toNat_natCast, List.length_map, List.length_append, List.length_cons, List.length_nil, List.length_replicate]; omega) ?_
 refine zg (env' := [(1, .ptr 0 0), (11, vI .i64 (i : Int)), (12, .ptr 1 0)]) (objs' := [some (bAg a), some (bNm (nm a.names i))]) ?_ hC hCl ⟨⟨_, rfl, .refl _⟩, ⟨_, rfl, .refl _⟩, ⟨_, rfl, .refl _⟩, trivial⟩ ⟨.refl _, .refl _, trivial⟩ rfl rfl (Nat.zero_le _)
 generalize hx : nm a.names i = x at *
 refine ze tabOk Tryz.func36 rfl trivial (zer x.2.2 hsx) (.refl _) rfl ⟨_, rfl⟩ (by rintro r o rfl; rfl) ?_
 rintro _ o rfl
 cases hok : z61 x.2.2 with
 | false =>
  rw [hok, Bool.and_false, Bool.false_and, Bool.false_and] at hst
  refine zn 15 tabOk Tryz.func36 rfl rfl trivial (by kernel_rfl) ?_
  repeat refine z14 tabOk rfl trivial (fun _ => ?_) (fun h => by cases h)
  refine zo tabOk rfl trivial ?_
  repeat refine z6 tabOk Tryz.func36 rfl trivial (fun _ => ?_) (fun h => by cases h)
  refine z7 tabOk Tryz.func36 rfl trivial ?_
  rw [z7u hst]
  rfl
 | true =>
 rw [hok, Bool.and_true] at hst
 refine zn 15 tabOk Tryz.func36 rfl rfl trivial (by kernel_rfl) ?_
 refine z14 tabOk rfl trivial (fun h => by cases h) (fun _ => ?_)
 refine z14 tabOk rfl trivial (fun h7 => ?_) (fun h7 => ?_)
 ·have h7 : decide (x.2.1 < 0) = true := h7
  rw [decide_eq_true_eq] at h7
  rw [decide_eq_false (fun h => by omega), Bool.false_and, Bool.false_and] at hst
  repeat refine z14 tabOk rfl trivial (fun _ => ?_) (fun h => by cases h)
  refine zo tabOk rfl trivial ?_
  repeat refine z6 tabOk Tryz.func36 rfl trivial (fun _ => ?_) (fun h => by cases h)
  refine z7 tabOk Tryz.func36 rfl trivial ?_
  rw [z7u hst]
  rfl
 have h7 : decide (x.2.1 < 0) = false := h7
 rw [decide_eq_false_iff_not] at h7
 repeat refine z14 tabOk rfl trivial (fun h => by cases h) (fun _ => ?_)
 refine zx tabOk rfl trivial (z8m x.1) (zf Tryz.func83 rfl rfl) (by rintro r o rfl; rfl) (.refl _) rfl rfl ⟨_, rfl⟩ ?_
 refine zx tabOk rfl trivial (zgp a (kindN x.1)) (zf Tryz.func82 rfl rfl) (by rintro r o rfl; rfl) (.refl _) rfl rfl ⟨_, rfl⟩ ?_
 refine zo tabOk rfl trivial ?_
 refine z6 tabOk Tryz.func36 rfl trivial (fun h8 => ?_) (fun h8 => ?_)
 ·have h8 : decide (x.2.1 ≥ manyN a (kindN x.1)) = true := h8
  rw [decide_eq_true_eq] at h8
  rw [decide_eq_false (fun h => by omega), Bool.false_and, Bool.false_and] at hst
  refine z7 tabOk Tryz.func36 rfl trivial ?_
  rw [z7u hst]
  rfl
 have h8 : decide (x.2.1 ≥ manyN a (kindN x.1)) = false := h8
 rw [decide_eq_false_iff_not] at h8
 rw [decide_eq_true (by omega), Bool.true_and] at hst
 refine z6 tabOk Tryz.func36 rfl trivial (fun h9 => ?_) (fun h9 => ?_)
 rotate_left
 ·have h9 : decide ((i : Int) > 0) = false := h9
  rw [decide_eq_false_iff_not] at h9
  rw [decide_eq_true (show i = 0 by omega), Bool.true_or, Bool.true_and] at hst
  refine za tabOk Tryz.func36 rfl trivial ?_
  exact zg (ih hst) hC hCl ⟨⟨_, rfl, .refl _⟩, ⟨_, rfl, .of (by rw [zb (by omega) (by omega)]; rfl)⟩, trivial⟩ ⟨.refl _, trivial⟩ rfl rfl (Nat.zero_le _)
 have h9 : decide ((i : Int) > 0) = true := h9
 rw [decide_eq_true_eq] at h9
 rw [decide_eq_false (show i ≠ 0 by omega), Bool.false_or] at hst
 refine zn 7 tabOk Tryz.func36 rfl rfl trivial (by kernel_rfl) ?_
 refine zo tabOk rfl ⟨hnd (by omega), trivial⟩ ?_
 refine ze tabOk Tryz.func36 rfl trivial (zet (nm a.names (i - 1)) x) ⟨.of ?vl, .refl _, trivial⟩ rfl ⟨_, rfl⟩ (by rintro r o rfl; rfl) ?_
 case vl =>
  show AV.d (eNm (a.names.getD (IntKind.i64.wrap ((i : Int) - 1)).toNat (0, 0, []))) = _
  rw [hgi (by omega)]
 rintro _ o rfl
 cases hbh : behB (nm a.names (i - 1)) x with
 | false =>
  rw [hbh, Bool.false_and] at hst
  refine z6 tabOk Tryz.func36 rfl trivial (fun _ => ?_) (fun h => by cases h)
  refine z7 tabOk Tryz.func36 rfl trivial ?_
  rw [z7u hst]
  rfl
 | true =>
  rw [hbh, Bool.true_and] at hst
  refine z6 tabOk Tryz.func36 rfl trivial (fun h => by cases h) (fun _ => ?_)
  refine za tabOk Tryz.func36 rfl trivial ?_
  exact zg (ih hst) hC hCl ⟨⟨_, rfl, .refl _⟩, ⟨_, rfl, .of (by rw [zb (by omega) (by omega)]; rfl)⟩, trivial⟩ ⟨.refl _, trivial⟩ rfl rfl (Nat.zero_le _)
structure SmA (a : Ag) (m : Int) : Prop where
 i : a.i ≤ m
 l : (a.l.length : Int) ≤ m
 g : (a.g.length : Int) ≤ m
 outs : (a.outs.length : Int) ≤ m
 bad : (a.bad.length : Int) ≤ m
 con : (a.con.length : Int) ≤ m
 names : (a.names.length : Int) ≤ m
 s : ∀ x ∈ a.names, x.2.2.length ≤ 200
theorem gt_no {n : Nat} {α : Type} {e : α → D} {l : List α} {m : Int} (h : decide ((((l.map e).length : Nat) : Int) > m) = false) : (l.length : Int) ≤ m := by
 rw [decide_eq_false_iff_not, List.length_map] at h
 omega
theorem zen (a : Ag) (m : Int) (hn : a.names.length ≤ maxLen) : ACall Tryz.prog 57 [.d (eAg a), vI .i64 m] [] (fun r o => ∃ x : Bool, r = vB x ∧ (x = true → SmA a m)) := by
 have hml : maxLen = 9223372036854775807 := rfl
 refine z8 Tryz.func57 rfl rfl (Nat.le_of_ble_eq_true rfl) fun C hC hCl hDs hGk => ?_
 refine z6 tabOk Tryz.func57 rfl trivial (fun h1 => ?_) (fun h1 => ?_)
 ·repeat refine z6 tabOk Tryz.func57 rfl trivial (fun _ => ?_) (fun h => by cases h)
  exact z7 tabOk Tryz.func57 rfl trivial ⟨false, rfl, fun h => by cases h⟩
 refine z6 tabOk Tryz.func57 rfl trivial (fun h2 => ?_) (fun h2 => ?_)
 ·repeat refine z6 tabOk Tryz.func57 rfl trivial (fun _ => ?_) (fun h => by cases h)
  exact z7 tabOk Tryz.func57 rfl trivial ⟨false, rfl, fun h => by cases h⟩
 refine z6 tabOk Tryz.func57 rfl trivial (fun h3 => ?_) (fun h3 => ?_)
 ·repeat refine z6 tabOk Tryz.func57 rfl trivial (fun _ => ?_) (fun h => by cases h)
  exact z7 tabOk Tryz.func57 rfl trivial ⟨false, rfl, fun h => by cases h⟩
 refine z6 tabOk Tryz.func57 rfl trivial (fun h4 => ?_) (fun h4 => ?_)
 ·repeat refine z6 tabOk Tryz.func57 rfl trivial (fun _ => ?_) (fun h => by cases h)
  exact z7 tabOk Tryz.func57 rfl trivial ⟨false, rfl, fun h => by cases h⟩
 refine z6 tabOk Tryz.func57 rfl trivial (fun h5 => ?_) (fun h5 => ?_)
 ·repeat refine z6 tabOk Tryz.func57 rfl trivial (fun _ => ?_) (fun h => by cases h)
  exact z7 tabOk Tryz.func57 rfl trivial ⟨false, rfl, fun h => by cases h⟩
 refine z6 tabOk Tryz.func57 rfl trivial (fun h6 => ?_) (fun h6 => ?_)
 ·repeat refine z6 tabOk Tryz.func57 rfl trivial (fun _ => ?_) (fun h => by cases h)
  exact z7 tabOk Tryz.func57 rfl trivial ⟨false, rfl, fun h => by cases h⟩
 refine z6 tabOk Tryz.func57 rfl trivial (fun h7 => ?_) (fun h7 => ?_)
 ·exact z7 tabOk Tryz.func57 rfl trivial ⟨false, rfl, fun h => by cases h⟩
 have h1 : decide (a.i > m) = false := h1
 rw [decide_eq_false_iff_not] at h1
 have h2 := gt_no (n := 0) (e := eP2) (l := a.l) h2
 have h3 := gt_no (n := 0) (e := eP2) (l := a.g) h3
 have h4 := gt_no (n := 0) (e := eI) (l := a.outs) h4
 have h5 := gt_no (n := 0) (e := eI) (l := a.bad) h5
 have h6 := gt_no (n := 0) (e := eI) (l := a.con) h6
 have h7 := gt_no (n := 0) (e := eNm) (l := a.names) h7
 refine za tabOk Tryz.func57 rfl trivial ?_
 refine zj (α := Nat) (fun i => [(2, .ptr 0 0), (5, vI .i64 (i : Int))]) (fun _ => [some (bAg a)]) (fun i => i ≤ a.names.length ∧ ∀ q (h : q < a.names.length), q < i → a.names[q].2.2.length ≤ 200) (fun i => a.names.length - i) 0 ⟨Nat.zero_le _, fun q _ h => absurd h (Nat.not_lt_zero q)⟩ ?_ ?_
 ·exact fun h => zg h hC hCl ⟨⟨_, rfl, .refl _⟩, ⟨_, rfl, .refl _⟩, trivial⟩ ⟨.refl _, trivial⟩ rfl rfl (Nat.zero_le _)
 rintro i ⟨hi, hq⟩ ih
 refine z6 tabOk Tryz.func57 rfl trivial (fun hb => ?_) (fun hb => ?_)
 ·have hb : decide ((i : Int) < (((a.names.map eNm).length : Nat) : Int)) = true := hb
  rw [decide_eq_true_eq, List.length_map] at hb
  have hlt : i < a.names.length := by omega
  refine z6 tabOk Tryz.func57 rfl (by simp only [andP, and_true, true_and, Int.toNat_natCast, List.length_map, List.length_append, List.length_cons, List.length_nil, List.length_replicate]; omega) (fun h8 => ?_) (fun h8 => ?_)
  ·exact z7 tabOk Tryz.func57 rfl trivial ⟨false, rfl, fun h => by cases h⟩
  have h8 : decide (((⟨(a.names.getD i (0, 0, [])).2.2.toArray⟩ : ByteArray).size : Int) > 200) = false := h8
  rw [decide_eq_false_iff_not, z32, z8t (d := (0, 0, [])) hlt] at h8
  refine za tabOk Tryz.func57 rfl trivial ?_
  refine zg (ih (i + 1) ⟨by omega, fun q hq2 hqi => ?_⟩ (by omega)) hC hCl ⟨⟨_, rfl, .refl _⟩, ⟨_, rfl, .of (by rw [zb (by omega) (by omega)]; rfl)⟩, trivial⟩ ⟨.refl _, trivial⟩ rfl rfl (Nat.zero_le _)
  rcases Nat.lt_or_ge q i with h9 | h9
  ·exact hq q hq2 h9
  ·obtain rfl : q = i := by omega
   omega
 ·have hb : decide ((i : Int) < (((a.names.map eNm).length : Nat) : Int)) = false := hb
  rw [decide_eq_false_iff_not, List.length_map] at hb
  obtain rfl : i = a.names.length := by omega
  refine z7 tabOk Tryz.func57 rfl trivial ⟨true, rfl, fun _ => ⟨by omega, h2, h3, h4, h5, h6, h7, fun x hx => ?_⟩⟩
  obtain ⟨q, hq2, rfl⟩ := List.mem_iff_getElem.1 hx
  exact hq q hq2 hq2
structure AgM (a : Ag) : Prop where
 outs : a.outs.length ≤ maxLen
 bad : a.bad.length ≤ maxLen
 con : a.con.length ≤ maxLen
 names : a.names.length ≤ maxLen
 s : ∀ x ∈ a.names, x.2.2.length ≤ maxLen
theorem zjp (a : Ag) (h : AgM a) : ACall Tryz.prog 22 [.d (eAg a)] [] (fun r o => ∃ x : Bool, r = vB x ∧ (x = true → SmA a 40 ∧ RightA a)) := by
 refine z8 Tryz.func22 rfl rfl (Nat.le_of_ble_eq_true rfl) fun C hC hCl hDs hGk => ?_
 refine ze tabOk Tryz.func22 rfl trivial (zen a 40 h.names) (.refl _) rfl ⟨_, rfl⟩ (by rintro r o ⟨x, rfl, _⟩; rfl) ?_
 rintro _ o ⟨x, rfl, hx⟩
 refine ze tabOk Tryz.func22 rfl trivial (zep a ⟨h.outs, h.bad, h.con⟩ h.s) (.refl _) rfl ⟨_, rfl⟩ (by rintro r o rfl; rfl) ?_
 rintro _ o rfl
 cases x with
 | false =>
  refine z6 tabOk Tryz.func22 rfl trivial (fun h => by cases h) (fun _ => ?_)
  exact z7 tabOk Tryz.func22 rfl trivial ⟨false, rfl, fun h => by cases h⟩
 | true =>
  refine z6 tabOk Tryz.func22 rfl trivial (fun _ => ?_) (fun h => by cases h)
  exact z7 tabOk Tryz.func22 rfl trivial ⟨_, rfl, fun h => ⟨hx rfl, z13.1 h⟩⟩
structure SmC (c : Ct) (m : Int) : Prop where
 p0 : zc2 c.p0 m = true
 p1 : zc2 c.p1 m = true
 p2 : zc2 c.p2 m = true
 g : (c.g.length : Int) ≤ m
theorem z6y (a : Ag) (c : Ct) (h1 : a.g.length ≤ 100000) (h2 : c.g.length ≤ 100000) : ACall Tryz.prog 16 [.d (eAg a), .d (eCt c)] [] (fun r o => r = .d (eAg (zu a c))) := by
 refine z8 Tryz.func16 rfl rfl (Nat.le_of_ble_eq_true rfl) fun C hC hCl hDs hGk => ?_
 refine ze tabOk Tryz.func16 rfl trivial (zkn [a.g, c.g] (Nat.le_of_ble_eq_true rfl) (by
  intro r hr
  simp only [List.mem_cons, List.not_mem_nil, or_false] at hr
  rcases hr with rfl | rfl
  ·exact h1
  ·exact h2)) ⟨VLe.eL rfl, trivial⟩ rfl ⟨_, rfl⟩ (by rintro r o rfl; rfl) ?_
 rintro _ o rfl
 refine z7 tabOk Tryz.func16 rfl trivial ?_
 show tupOf _ = _
 simp only [List.flatten_cons, List.flatten_nil, List.append_nil]
 rfl
theorem z8x (a : Ag) (k : Int) (h : AgB a) (hk : 0 ≤ k ∧ k ≤ 1000) : ACall Tryz.prog 93 [.d (eAg a), vI .i64 k] [] (fun r o => r = vI .i64 (k * (varsA a + 1))) := by
 refine z8 Tryz.func93 rfl rfl (Nat.le_of_ble_eq_true rfl) fun C hC hCl hDs hGk => ?_
 have hv := z48 h
 have e1 : IntKind.i64.wrap (varsA a + 1) = varsA a + 1 := zb (by omega) (by omega)
 have hp : 0 ≤ k * (varsA a + 1) ∧ k * (varsA a + 1) ≤ 1000 * 3000001 := ⟨Int.mul_nonneg hk.1 (by omega), Int.mul_le_mul hk.2 (by omega) (by omega) (by decide)⟩
 have e2 : IntKind.i64.wrap (k * (varsA a + 1)) = k * (varsA a + 1) := zb (by omega) (by omega)
 refine ze tabOk Tryz.func93 rfl trivial (z47 a h) (.refl _) rfl ⟨_, rfl⟩ (by rintro r o rfl; rfl) ?_
 rintro _ o rfl
 refine z7 tabOk Tryz.func93 rfl trivial ?_
 show vI .i64 (IntKind.i64.wrap (k * IntKind.i64.wrap (varsA a + 1))) = _
 rw [e1, e2]
@[reducible] def dV3 (a : Ag) : D := .ag [eI (varsA a + 1), eI (2 * (varsA a + 1)), eI (varsA a + 1)]
theorem zcw (a : Ag) (h : AgB a) : ACall Tryz.prog 49 [.d (eAg a)] [] (fun r o => r = .d (dV3 a)) := by
 refine z8 Tryz.func49 rfl rfl (Nat.le_of_ble_eq_true rfl) fun C hC hCl hDs hGk => ?_
 have hc := fun k hk => z8x a k h hk
 refine zn 5 tabOk Tryz.func49 rfl rfl trivial (by kernel_rfl) ?_
 refine zx tabOk rfl trivial (hc 1 (by decide)) (zf Tryz.func93 rfl rfl) (by rintro r o rfl; rfl) (.refl _) rfl rfl ⟨_, rfl⟩ ?_
 refine zx tabOk rfl trivial (hc 2 (by decide)) (zf Tryz.func93 rfl rfl) (by rintro r o rfl; rfl) (.refl _) rfl rfl ⟨_, rfl⟩ ?_
 refine zo tabOk rfl trivial ?_
 refine ze tabOk Tryz.func49 rfl trivial (hc 1 (by decide)) (.refl _) rfl ⟨_, rfl⟩ (by rintro r o rfl; rfl) ?_
 rintro _ o rfl
 refine z7 tabOk Tryz.func49 rfl trivial ?_
 show tupOf _ = _
 rw [Int.one_mul]
 rfl
def hSt (H : List Bool) (v : Nat) : List Bool := H.take v ++ List.replicate (H.length - v) false
theorem zqi (H : List Bool) (v : Nat) (h : v ≤ H.length) : (hSt H v).length = H.length := by
 unfold hSt
 rw [List.length_append, List.length_take, List.length_replicate]
 omega
theorem zqj {H : List Bool} {v j : Nat} (h : v ≤ H.length) (hj : j < v) : (hSt H v).getD j false = H.getD j false := by
 unfold hSt
 rw [z9z false (by rw [List.length_take]; omega)]
 simp [List.getD_eq_getElem?_getD, List.getElem?_take, hj]
theorem zpt {H : List Bool} {v : Nat} (h : v < H.length) : hSt H v = H.take v ++ (false :: List.replicate (H.length - (v + 1)) false) := by
 unfold hSt
 rw [show H.length - v = (H.length - (v + 1)) + 1 by omega, List.replicate_succ]
theorem zin {H : List Bool} {v : Nat} (h : v < H.length) : hSt H (v + 1) = H.take v ++ (H.getD v false :: List.replicate (H.length - (v + 1)) false) := by
 unfold hSt
 rw [List.take_succ_eq_append_getElem h, List.append_assoc, show H.getD v false = H[v] by simp [h]]
 rfl
theorem zl8 : ∀ (p t : List Bool) (x b : Bool), (p ++ x :: t).set p.length b = p ++ b :: t
 | [], t, x, b => rfl
 | y :: p, t, x, b => by
  rw [List.cons_append, List.length_cons, List.set_cons_succ, zl8 p t x b]
  rfl
theorem zqh {H : List Bool} {v : Nat} {b : Bool} (h : v < H.length) (hb : H.getD v false = b) : (hSt H v).set v b = hSt H (v + 1) := by
 have := zl8 (H.take v) (List.replicate (H.length - (v + 1)) false) false b
 rw [List.length_take, Nat.min_eq_left (by omega)] at this
 rw [zpt h, zin h, hb, this]
theorem zp4 {H : List Bool} {v : Nat} (h : v < H.length) (hb : H.getD v false = false) : hSt H v = hSt H (v + 1) := by
 rw [zpt h, zin h, hb]
theorem zqk (H : List Bool) : hSt H H.length = H := by
 unfold hSt
 rw [List.take_length, Nat.sub_self]
 simp
theorem zb1 : ∀ (g : List P2) (v : List Bool), ∃ t, hangG g v = v ++ t
 | [], v => ⟨[], by simp [hangG]⟩
 | p :: g, v => by
  obtain ⟨t, h⟩ := zb1 g (v ++ [v.getD (p.1 / 2).toNat false || v.getD (p.2 / 2).toNat false])
  exact ⟨_, by rw [hangG, h, List.append_assoc]⟩
theorem zf9 {i s : Nat} {g : List P2} {v : Nat} (h : v < i + s + 1) : (hangA i s g).getD v false = decide (1 ≤ v ∧ v ≤ i) := by
 obtain ⟨t, ht⟩ := zb1 g (hang0 i s)
 unfold hangA
 rw [ht, z9z false (by rw [z56]; exact h)]
 unfold hang0
 rcases v with _ | v
 ·rw [decide_eq_false (by omega)]
  rfl
 ·simp only [List.getD_eq_getElem?_getD, List.getElem?_cons_succ]
  rcases Nat.lt_or_ge v i with h2 | h2
  ·rw [List.getElem?_append_left (by simpa using h2), List.getElem?_replicate, if_pos h2, decide_eq_true (by omega)]
   rfl
  ·rw [List.getElem?_append_right (by simpa using h2), List.length_replicate, List.getElem?_replicate, if_pos (by omega), decide_eq_false (by omega)]
   rfl
theorem zb2 : ∀ (g : List P2) (v : List Bool) (j : Nat) (h : j < g.length), GOkF v.length g → (hangG g v).getD (v.length + j) false = ((hangG g v).getD (g[j].1 / 2).toNat false || (hangG g v).getD (g[j].2 / 2).toNat false)
 | p :: g, v, 0, _, hg => by
  obtain ⟨⟨g1, g2, g3⟩, _⟩ := hg
  obtain ⟨t, ht⟩ := zb1 g (v ++ [v.getD (p.1 / 2).toNat false || v.getD (p.2 / 2).toNat false])
  rw [hangG, ht]
  have l1 : (p.1 / 2).toNat < v.length := by omega
  have l2 : (p.2 / 2).toNat < v.length := by omega
  rw [List.getElem_cons_zero, Nat.add_zero, List.append_assoc, z9z (j := (p.1 / 2).toNat) false l1, z9z (j := (p.2 / 2).toNat) false l2]
  simp [List.getD_eq_getElem?_getD]
 | p :: g, v, j + 1, h, hg => by
  have ih := zb2 g (v ++ [v.getD (p.1 / 2).toNat false || v.getD (p.2 / 2).toNat false]) j (by simpa using h) (by simpa using hg.2)
  rw [hangG]
  rw [List.length_append, List.length_singleton, show v.length + 1 + j = v.length + (j + 1) by omega] at ih
  simpa using ih
@[reducible] def eBo (b : Bool) : D := .v (.bool b)
@[reducible] def gBo (l : List Bool) : AObj := gL 4 1 eBo false l
theorem zcl (a : Ag) (l : Int) (h : AgB a) (hg : gatOk (a.i + a.l.length + 1) a.g = true) (hl : 0 ≤ l ∧ l ≤ 2 * varsA a + 1) : ACall Tryz.prog 48 [.d (eAg a), vI .i64 l] [] (fun r o => r = vB (z2y a l)) := by
 refine z8 Tryz.func48 rfl rfl (Nat.le_of_ble_eq_true rfl) fun C hC hCl hDs hGk => ?_
 have hv := z48 h
 have hi0 := h.i0
 have hi1 := h.i1
 have hll := h.l
 have hgl := h.g
 have hit : ((a.i.toNat : Nat) : Int) = a.i := by omega
 have hF : GOkF (a.i.toNat + a.l.length + 1) a.g := zh5 (by rw [show ((a.i.toNat + a.l.length + 1 : Nat) : Int) = a.i + a.l.length + 1 by omega]; exact hg)
 have hHl := zfb a.i.toNat a.l.length a.g
 have hg0 := fun v => @zf9 a.i.toNat a.l.length a.g v
 have hgg := fun j hj => zb2 a.g (hang0 a.i.toNat a.l.length) j hj (by rw [z56]; exact hF)
 rw [z56] at hgg
 have hNN : ((hangA a.i.toNat a.l.length a.g).length : Int) = varsA a + 1 := by rw [hHl]; unfold varsA; omega
 unfold z2y
 change ∀ j (hj : j < a.g.length), (hangA a.i.toNat a.l.length a.g).getD (a.i.toNat + a.l.length + 1 + j) false = ((hangA a.i.toNat a.l.length a.g).getD (a.g[j].1 / 2).toNat false || (hangA a.i.toNat a.l.length a.g).getD (a.g[j].2 / 2).toNat false) at hgg
 generalize hangA a.i.toNat a.l.length a.g = H at *
 have e1 : IntKind.i64.wrap (varsA a + 1) = varsA a + 1 := zb (by omega) (by omega)
 refine ze tabOk Tryz.func48 rfl trivial (z47 a h) (.refl _) rfl ⟨_, rfl⟩ (by rintro r o rfl; rfl) ?_
 rintro _ o rfl
 refine za tabOk Tryz.func48 rfl ?nd ?_
 case nd =>
  rw [e1]
  refine ⟨⟨by omega, Int.le_refl _, ?_⟩, trivial⟩
  show (varsA a + 1) * 1 ≤ 281474976710656
  omega
 refine zj (α := Nat) (fun v => [(1, vI .i64 l), (2, .ptr 0 0), (5, .gs 1), (13, vI .i64 (H.length : Int)), (14, vI .i64 (v : Int))]) (fun v => [some (bAg a), some (gBo (hSt H v))]) (fun v => v ≤ H.length) (fun v => H.length - v) 0 (Nat.zero_le _) ?_ ?_
 ·refine fun h => zg h hC hCl ⟨⟨_, rfl, .refl _⟩, ⟨_, rfl, .refl _⟩, ⟨_, rfl, .refl _⟩, ⟨_, rfl, .of ?_⟩, ⟨_, rfl, .refl _⟩, trivial⟩ ⟨.refl _, .gL ?_, trivial⟩ rfl rfl (Nat.zero_le _)
  ·rw [List.length_replicate, e1, ← hNN, Int.toNat_natCast]
  ·rw [e1, ← hNN, Int.toNat_natCast]
   unfold hSt
   rw [List.take_zero, List.nil_append, Nat.sub_zero, List.map_replicate]
   rfl
 rintro v hvl ih
 have hsl := zqi H v hvl
 refine z6 tabOk Tryz.func48 rfl trivial (fun hb => ?_) (fun hb => ?_)
 rotate_left
 ·have hb : decide ((v : Int) < (H.length : Int)) = false := hb
  rw [decide_eq_false_iff_not] at hb
  obtain rfl : v = H.length := by omega
  have hq : Int.tdiv l 2 = l / 2 := Int.tdiv_eq_ediv_of_nonneg hl.1
  have e2 : IntKind.i64.wrap (Int.tdiv l 2) = l / 2 := by rw [hq, zb (by omega) (by omega)]
  refine z7 tabOk Tryz.func48 rfl ?_ ?_
  ·rw [e2, List.length_map, hsl]
   exact ⟨by omega, ⟨by omega, by omega⟩, by decide, trivial⟩
  ·rw [e2, zqk]
   rfl
 have hb : decide ((v : Int) < (H.length : Int)) = true := hb
 rw [decide_eq_true_eq] at hb
 have hlt : v < H.length := by omega
 have ih := ih (v + 1) (by omega) (by omega)
 have hset := fun b => @zqh H v b hlt
 have hsame := @zp4 H v hlt
 have hget := fun j => @zqj H v j hvl
 apply letK (p := ASat Tryz.prog 48 Tryz.f48.ntmps C _ [(1, vI .i64 l), (2, .ptr 0 0), (5, .gs 1), (13, vI .i64 (H.length : Int)), (14, vI .i64 (v : Int)), (6, vI .i64 (v : Int))] [some (bAg a), some (gBo (if v < a.i.toNat + a.l.length + 1 then hSt H (v + 1) else hSt H v))] (fun r o => r = vB (H.getD (l / 2).toNat false)))
 ·intro key
  refine z6 tabOk Tryz.func48 rfl trivial (fun h1 => ?_) (fun h1 => ?_)
  ·have h1 : decide ((v : Int) ≥ 1) = true := h1
   rw [decide_eq_true_eq] at h1
   refine z6 tabOk Tryz.func48 rfl trivial (fun h2 => ?_) (fun h2 => ?_)
   ·have h2 : decide ((v : Int) ≤ a.i) = true := h2
    rw [decide_eq_true_eq] at h2
    rw [if_pos (by omega), ← hset true (by rw [hg0 v (by omega), decide_eq_true (by omega)])] at key
    refine zh 7 tabOk Tryz.func48 rfl ?nd1 ?_
    case nd1 =>
     rw [List.length_map, hsl, Int.toNat_natCast]
     exact ⟨by omega, ⟨by omega, by omega⟩, trivial⟩
    refine zg key hC hCl ⟨⟨_, rfl, .refl _⟩, ⟨_, rfl, .refl _⟩, ⟨_, rfl, .refl _⟩, ⟨_, rfl, .refl _⟩, ⟨_, rfl, .refl _⟩, ⟨_, rfl, .refl _⟩, trivial⟩ ⟨.refl _, .gL ?_, trivial⟩ rfl rfl (Nat.zero_le _)
    rw [List.map_set]
    rfl
   ·have h2 : decide ((v : Int) ≤ a.i) = false := h2
    rw [decide_eq_false_iff_not] at h2
    have key2 : (if v < a.i.toNat + a.l.length + 1 then hSt H (v + 1) else hSt H v) = hSt H v := by
     split
     ·exact (hsame (by rw [hg0 v (by assumption), decide_eq_false (by omega)])).symm
     ·rfl
    rw [key2] at key
    refine zh 2 tabOk Tryz.func48 rfl trivial ?_
    exact zg key hC hCl ⟨⟨_, rfl, .refl _⟩, ⟨_, rfl, .refl _⟩, ⟨_, rfl, .refl _⟩, ⟨_, rfl, .refl _⟩, ⟨_, rfl, .refl _⟩, ⟨_, rfl, .refl _⟩, trivial⟩ ⟨.refl _, .refl _, trivial⟩ rfl rfl (Nat.zero_le _)
  ·have h1 : decide ((v : Int) ≥ 1) = false := h1
   rw [decide_eq_false_iff_not] at h1
   have key2 : (if v < a.i.toNat + a.l.length + 1 then hSt H (v + 1) else hSt H v) = hSt H v := by
    rw [if_pos (by omega)]
    exact (hsame (by rw [hg0 v (by omega), decide_eq_false (by omega)])).symm
   rw [key2] at key
   refine z6 tabOk Tryz.func48 rfl trivial (fun h => by cases h) (fun _ => ?_)
   refine zh 2 tabOk Tryz.func48 rfl trivial ?_
   exact zg key hC hCl ⟨⟨_, rfl, .refl _⟩, ⟨_, rfl, .refl _⟩, ⟨_, rfl, .refl _⟩, ⟨_, rfl, .refl _⟩, ⟨_, rfl, .refl _⟩, ⟨_, rfl, .refl _⟩, trivial⟩ ⟨.refl _, .refl _, trivial⟩ rfl rfl (Nat.zero_le _)
 have e3 : IntKind.i64.wrap ((v : Int) - a.i) = (v : Int) - a.i := zb (by omega) (by omega)
 have e4 : IntKind.i64.wrap ((v : Int) - a.i - (((a.l.map eP2).length : Nat) : Int)) = (v : Int) - a.i - (a.l.length : Int) := by rw [List.length_map, zb (by omega) (by omega)]
 have e5 : IntKind.i64.wrap ((v : Int) - a.i - (a.l.length : Int) - 1) = (v : Int) - a.i - (a.l.length : Int) - 1 := zb (by omega) (by omega)
 have eJ : IntKind.i64.wrap (IntKind.i64.wrap (IntKind.i64.wrap ((v : Int) - a.i) - (((a.l.map eP2).length : Nat) : Int)) - 1) = (v : Int) - a.i - (a.l.length : Int) - 1 := by rw [e3, e4, e5]
 refine z6 tabOk Tryz.func48 rfl trivial (fun h1 => ?_) (fun h1 => ?_)
 rotate_left
 ·have h1 : decide (IntKind.i64.wrap (IntKind.i64.wrap (IntKind.i64.wrap ((v : Int) - a.i) - (((a.l.map eP2).length : Nat) : Int)) - 1) ≥ 0) = false := h1
  rw [eJ, decide_eq_false_iff_not] at h1
  rw [if_pos (by omega)]
  refine za tabOk Tryz.func48 rfl trivial ?_
  exact zg ih hC hCl ⟨⟨_, rfl, .refl _⟩, ⟨_, rfl, .refl _⟩, ⟨_, rfl, .refl _⟩, ⟨_, rfl, .refl _⟩, ⟨_, rfl, .of (by rw [zb (by omega) (by omega)]; rfl)⟩, trivial⟩ ⟨.refl _, .refl _, trivial⟩ rfl rfl (Nat.zero_le _)
 have h1 : decide (IntKind.i64.wrap (IntKind.i64.wrap (IntKind.i64.wrap ((v : Int) - a.i) - (((a.l.map eP2).length : Nat) : Int)) - 1) ≥ 0) = true := h1
 rw [eJ, decide_eq_true_eq] at h1
 rw [if_neg (by omega)]
 obtain ⟨j, hj, hjl⟩ : ∃ j : Nat, v = a.i.toNat + a.l.length + 1 + j ∧ j < a.g.length := ⟨v - (a.i.toNat + a.l.length + 1), by omega, by omega⟩
 have hJ : IntKind.i64.wrap (IntKind.i64.wrap (IntKind.i64.wrap ((v : Int) - a.i) - (((a.l.map eP2).length : Nat) : Int)) - 1) = (j : Int) := by rw [eJ]; omega
 have hpg : p2 a.g j = a.g[j] := by simp [p2, hjl]
 have hgj := (z67 _ _).1 hg j hjl
 have hHv := hgg j hjl
 rw [← hj, ← hpg] at hHv
 rw [← hpg] at hgj
 have hga : (a.g.getD j (0, 0)) = p2 a.g j := rfl
 generalize hp : p2 a.g j = p at *
 have q1 : IntKind.i64.wrap (Int.tdiv p.1 2) = p.1 / 2 := by rw [Int.tdiv_eq_ediv_of_nonneg (by omega), zb (by omega) (by omega)]
 have q2 : IntKind.i64.wrap (Int.tdiv p.2 2) = p.2 / 2 := by rw [Int.tdiv_eq_ediv_of_nonneg (by omega), zb (by omega) (by omega)]
 have g1 := hget (p.1 / 2).toNat (by omega)
 have g2 := hget (p.2 / 2).toNat (by omega)
 refine z6 tabOk Tryz.func48 rfl ?nd (fun h2 => ?_) (fun h2 => ?_)
 case nd =>
  rw [hJ, Int.toNat_natCast, show a.g.getD j (0, 0) = p from hp, q1, List.length_map, List.length_map, hsl]
  exact ⟨by omega, ⟨by omega, by omega⟩, by decide, ⟨by omega, by omega⟩, trivial⟩
 ·have h2 : (hSt H v).getD (IntKind.i64.wrap (Int.tdiv (a.g.getD (IntKind.i64.wrap (IntKind.i64.wrap (IntKind.i64.wrap ((v : Int) - a.i) - (((a.l.map eP2).length : Nat) : Int)) - 1)).toNat (0, 0)).1 2)).toNat false = true := h2
  rw [hJ, Int.toNat_natCast, show a.g.getD j (0, 0) = p from hp, q1, g1] at h2
  rw [← hset true (by rw [hHv, h2]; rfl)] at ih
  refine za tabOk Tryz.func48 rfl ?nd2 ?_
  case nd2 =>
   rw [List.length_map, hsl, Int.toNat_natCast]
   exact ⟨by omega, ⟨by omega, by omega⟩, trivial⟩
  refine zg ih hC hCl ⟨⟨_, rfl, .refl _⟩, ⟨_, rfl, .refl _⟩, ⟨_, rfl, .refl _⟩, ⟨_, rfl, .refl _⟩, ⟨_, rfl, .of (by rw [zb (by omega) (by omega)]; rfl)⟩, trivial⟩ ⟨.refl _, .gL ?_, trivial⟩ rfl rfl (Nat.zero_le _)
  rw [List.map_set]
  rfl
 ·have h2 : (hSt H v).getD (IntKind.i64.wrap (Int.tdiv (a.g.getD (IntKind.i64.wrap (IntKind.i64.wrap (IntKind.i64.wrap ((v : Int) - a.i) - (((a.l.map eP2).length : Nat) : Int)) - 1)).toNat (0, 0)).1 2)).toNat false = false := h2
  rw [hJ, Int.toNat_natCast, show a.g.getD j (0, 0) = p from hp, q1, g1] at h2
  rw [← hset (H.getD (p.2 / 2).toNat false) (by rw [hHv, h2]; rfl)] at ih
  refine za tabOk Tryz.func48 rfl ?nd3 ?_
  case nd3 =>
   rw [hJ]
   simp only [Int.toNat_natCast]
   rw [show a.g.getD j (0, 0) = p from hp, q2, List.length_map, List.length_map, hsl]
   exact ⟨by omega, ⟨by omega, by omega⟩, by omega, ⟨by omega, by omega⟩, by decide, ⟨by omega, by omega⟩, trivial⟩
  refine zg ih hC hCl ⟨⟨_, rfl, .refl _⟩, ⟨_, rfl, .refl _⟩, ⟨_, rfl, .refl _⟩, ⟨_, rfl, .refl _⟩, ⟨_, rfl, .of (by rw [zb (by omega) (by omega)]; rfl)⟩, trivial⟩ ⟨.refl _, .gL ?_, trivial⟩ rfl rfl (Nat.zero_le _)
  rw [List.map_set]
  show ((hSt H v).map eBo).set v (eBo ((hSt H v).getD (IntKind.i64.wrap (Int.tdiv (a.g.getD (IntKind.i64.wrap (IntKind.i64.wrap (IntKind.i64.wrap ((v : Int) - a.i) - (((a.l.map eP2).length : Nat) : Int)) - 1)).toNat (0, 0)).2 2)).toNat false)) = _
  rw [hJ, Int.toNat_natCast, show a.g.getD j (0, 0) = p from hp, q2, g2]
end Go.Proofs.YtkemmijjpclckaaGreatDoor
namespace Ab
open Go
variable [Draws]
section
variable {P : Program} [Globals P] {T : Tab} {f : FuncId} {fn : Func} {n : Nat} {C : Cx} {R : AV → List (Option AObj) → Prop} {todo todo' k : List Item} {env env' : Env} {objs objs' : List (Option AObj)} {ops : Array Oper}
theorem ze6 {w : World} {ok : Nat → Prop} {π : List Value} {t el : TypeId} {rw_ re : TRow} {m j : Nat} {ki : IntKind} {cs : List AV} {a : AV} {us : List Value} (hT : TabOk P T) (h1 : tlook T t = some rw_) (h2 : rw_.kd = .array m el) (h3 : tlook T el = some re)
  (hr : RelVs w ok π cs us) (hf : ∀ v ∈ us, flat v = true) (hj : j < m) (hc : cut1 re.isAgg re.size (j * re.size) cs = .ok a) : Yields P w ok π a (Instr.index t (.agg us.toArray) (.int ki ((j : Nat) : Int))) := by
 have hu := z94 hT h1 h2
 obtain ⟨⟨ie, de, hie, hde, hse, _⟩, _⟩ := zt hT h3
 have hag : re.isAgg = Pagg P el := by
  have e1 := (zt hT h3).agg (default : World)
  have e2 := z5t hde (default : World)
  rw [e1] at e2
  exact (Result.ok.inj e2).1
 rw [hag, ← hse] at hc
 obtain ⟨u, d1, d2⟩ := zdz (P := P) hie hde hr hf hc
 refine ⟨u, d1, fun w' hw' => ?_⟩
 have hj' : (0 : Int) ≤ (j : Int) ∧ (j : Int) < (m : Int) := ⟨by omega, by omega⟩
 simp [Instr.index, asIntOf, run_underlying hu, hj', z3z hie, Result.andThen, d2 w' hw']
 intro hle
 omega
theorem z1b {i : Nat} {r : List Nat} {o : Oper} {e : Env} {t el : TypeId} {x ix : Operand} {rw_ re : TRow} {m j : Nat} {ki : IntKind} {cs : List D} {a : AV} (hT : TabOk P T) (ho : ops[i]? = some o) (hw : wantE ops env o = .yes) (hop : o.op = .index t x ix)
  (h1 : tlook T t = some rw_) (h2 : rw_.kd = .array m el) (h3 : tlook T el = some re) (hx : opnd env x = some (.d (.ag cs))) (hi : opnd env ix = some (.d (.v (.int ki ((j : Nat) : Int))))) (hj : j < m)
  (hc : cut1 re.isAgg re.size (j * re.size) (cs.map .d) = .ok a) (hput : putE n o.dst a env = some e)
  (h : ASat P f n C (.inRegion ops r :: k) e objs R) : ASat P f n C (.inRegion ops (i :: r) :: k) env objs R := by
 refine z2e a ho hw (fun X π w tmps mm he => ?_) hput h
 have hay := z4u (P := P) he hi
 have hv := zk (ds := []) he hx
 generalize hvx : Act.eval ⟨tmps, []⟩ x = vx at hv
 cases hv with | d hd => cases hd with | ag hd =>
 obtain ⟨u, d1, d2⟩ := ze6 (ki := ki) hT h1 h2 h3 (hd.toVs (π := π)) hd.flat hj hc
 refine ⟨u, ?_, d1⟩
 unfold execOp
 simp only [hop, hvx, hay]
 simp [d2 w (.refl w)]
end
end Ab
namespace Go.Proofs.YtkemmijjpclckaaGreatDoor
open Go Ab Go.RowKit
@[reducible] def bCt (c : Ct) : AObj := .cells 31 [.d (eP2s c.g), .d (eI c.inv), .d (eSps c.p0), .d (eSps c.p1), .d (eSps c.p2)]
structure AcB (a : Ag) (c : Ct) : Prop where
 ag : a.g.length ≤ 100000
 cg : c.g.length ≤ 100000
 nl : a.names.length ≤ 1000000
 ns : ∀ x ∈ a.names, x.2.2.length ≤ 1000000
 p0 : c.p0.length ≤ 20000
 p1 : c.p1.length ≤ 20000
 p2 : c.p2.length ≤ 20000
theorem z6g {a : Ag} (h : z2p a = true) : AgB a := by
 have h := z13.1 h
 have h0 := h.i0
 have h1 := h.v1
 unfold varsA at h1
 exact ⟨h0, by omega, by omega, by omega⟩
theorem z8l {n : Int} {p : List Sp} (hn : 0 ≤ n ∧ n ≤ 100000) (hl : p.length ≤ 20000) : z34 n p = p.all (fun s => clOk n s.2.1) := by
 unfold z34
 rw [decide_eq_true ⟨hn.1, hn.2, hl⟩, Bool.true_and]
theorem z6d (a : Ag) (c : Ct) (h : AcB a c) : ACall Tryz.prog 18 [.d (eAg a), .d (eCt c)] [] (fun r o => r = vB (z3s a c)) := by
 refine z8 Tryz.func18 rfl rfl (Nat.le_of_ble_eq_true rfl) fun C hC hCl hDs hGk => ?_
 refine ze tabOk Tryz.func18 rfl trivial (z6y a c h.ag h.cg) (.refl _) rfl ⟨_, rfl⟩ (by rintro r o rfl; rfl) ?_
 rintro _ o rfl
 have hRc := zht (zu a c) h.nl h.ns
 have hp0 := h.p0
 have hp1 := h.p1
 have hp2 := h.p2
 have hrc : z3s a c = (decide (c.g.length ≤ 20000) && z2p (zu a c) && decide (0 ≤ c.inv ∧ c.inv ≤ 2 * varsA (zu a c) + 1) && !(z2y (zu a c) c.inv) && z34 (varsA (zu a c) + 1) c.p0 && z34 (2 * (varsA (zu a c) + 1)) c.p1 && z34 (varsA (zu a c) + 1) c.p2) := rfl
 rw [hrc]
 generalize zu a c = g at *
 refine zn 27 tabOk Tryz.func18 rfl rfl trivial (by kernel_rfl) ?_
 refine z14 tabOk rfl trivial (fun h1 => ?_) (fun h1 => ?_)
 ·have h1 : decide ((((c.g.map eP2).length : Nat) : Int) > 20000) = true := h1
  rw [decide_eq_true_eq, List.length_map] at h1
  rw [decide_eq_false (show ¬ c.g.length ≤ 20000 by omega)]
  repeat refine z14 tabOk rfl trivial (fun _ => ?_) (fun h => by cases h)
  refine zo tabOk rfl trivial ?_
  repeat refine z6 tabOk Tryz.func18 rfl trivial (fun _ => ?_) (fun h => by cases h)
  exact z7 tabOk Tryz.func18 rfl trivial rfl
 have h1 : decide ((((c.g.map eP2).length : Nat) : Int) > 20000) = false := h1
 rw [decide_eq_false_iff_not, List.length_map] at h1
 rw [decide_eq_true (show c.g.length ≤ 20000 by omega), Bool.true_and]
 refine zx tabOk rfl trivial hRc (zf Tryz.func46 rfl rfl) (by rintro r o rfl; rfl) (.refl _) rfl rfl ⟨_, rfl⟩ ?_
 cases hR : z2p g with
 | false =>
  repeat refine z14 tabOk rfl trivial (fun _ => ?_) (fun h => by cases h)
  refine zo tabOk rfl trivial ?_
  repeat refine z6 tabOk Tryz.func18 rfl trivial (fun _ => ?_) (fun h => by cases h)
  exact z7 tabOk Tryz.func18 rfl trivial rfl
 | true =>
 rw [Bool.true_and]
 have hB := z6g hR
 have hA := z13.1 hR
 have hv := z48 hB
 have hv1 := hA.v1
 refine z14 tabOk rfl trivial (fun h => by cases h) (fun _ => ?_)
 refine z14 tabOk rfl trivial (fun h2 => ?_) (fun h2 => ?_)
 ·have h2 : decide (c.inv < 0) = true := h2
  rw [decide_eq_true_eq] at h2
  rw [decide_eq_false (show ¬ (0 ≤ c.inv ∧ c.inv ≤ 2 * varsA g + 1) by omega)]
  repeat refine z14 tabOk rfl trivial (fun _ => ?_) (fun h => by cases h)
  refine zo tabOk rfl trivial ?_
  repeat refine z6 tabOk Tryz.func18 rfl trivial (fun _ => ?_) (fun h => by cases h)
  exact z7 tabOk Tryz.func18 rfl trivial rfl
 have h2 : decide (c.inv < 0) = false := h2
 rw [decide_eq_false_iff_not] at h2
 have e1 : IntKind.i64.wrap (2 * varsA g) = 2 * varsA g := zb (by omega) (by omega)
 have e2 : IntKind.i64.wrap (2 * varsA g + 1) = 2 * varsA g + 1 := zb (by omega) (by omega)
 refine zx tabOk rfl trivial (z47 g hB) (zf Tryz.func47 rfl rfl) (by rintro r o rfl; rfl) (.refl _) rfl rfl ⟨_, rfl⟩ ?_
 refine z14 tabOk rfl trivial (fun h3 => ?_) (fun h3 => ?_)
 ·have h3 : decide (c.inv > IntKind.i64.wrap (IntKind.i64.wrap (2 * varsA g) + 1)) = true := h3
  rw [e1, e2, decide_eq_true_eq] at h3
  rw [decide_eq_false (show ¬ (0 ≤ c.inv ∧ c.inv ≤ 2 * varsA g + 1) by omega)]
  repeat refine z14 tabOk rfl trivial (fun _ => ?_) (fun h => by cases h)
  refine zo tabOk rfl trivial ?_
  repeat refine z6 tabOk Tryz.func18 rfl trivial (fun _ => ?_) (fun h => by cases h)
  exact z7 tabOk Tryz.func18 rfl trivial rfl
 have h3 : decide (c.inv > IntKind.i64.wrap (IntKind.i64.wrap (2 * varsA g) + 1)) = false := h3
 rw [e1, e2, decide_eq_false_iff_not] at h3
 rw [decide_eq_true (show 0 ≤ c.inv ∧ c.inv ≤ 2 * varsA g + 1 by omega), Bool.true_and]
 refine zo tabOk rfl trivial ?_
 refine ze tabOk Tryz.func18 rfl trivial (zcl g c.inv hB hA.gat ⟨by omega, by omega⟩) (.refl _) rfl ⟨_, rfl⟩ (by rintro r o rfl; rfl) ?_
 rintro _ o rfl
 cases hH : z2y g c.inv with
 | true =>
  refine z6 tabOk Tryz.func18 rfl trivial (fun _ => ?_) (fun h => by cases h)
  exact z7 tabOk Tryz.func18 rfl trivial rfl
 | false =>
 refine z6 tabOk Tryz.func18 rfl trivial (fun h => by cases h) (fun _ => ?_)
 refine ze tabOk Tryz.func18 rfl trivial (zcw g hB) (.refl _) rfl ⟨_, rfl⟩ (by rintro r o rfl; rfl) ?_
 rintro _ o rfl
 rw [z8l ⟨by omega, by omega⟩ hp0, z8l ⟨by omega, by omega⟩ hp1, z8l ⟨by omega, by omega⟩ hp2]
 refine za tabOk Tryz.func18 rfl trivial ?_
 refine z3f ?_
 refine z6 tabOk Tryz.func18 rfl trivial (fun _ => ?_) (fun h => by cases h)
 refine zh 60 tabOk Tryz.func18 rfl trivial ?_
 refine z1b (j := 0) tabOk rfl rfl rfl rfl rfl rfl rfl rfl (by decide) rfl rfl ?_
 refine ze tabOk Tryz.func18 rfl trivial (z7m (varsA g + 1) c.p0 ⟨by omega, by omega⟩ hp0) (.refl _) rfl ⟨_, rfl⟩ (by rintro r o rfl; rfl) ?_
 rintro _ o rfl
 cases hq0 : c.p0.all (fun s => clOk (varsA g + 1) s.2.1) with
 | false =>
  refine z6 tabOk Tryz.func18 rfl trivial (fun _ => ?_) (fun h => by cases h)
  exact z7 tabOk Tryz.func18 rfl trivial rfl
 | true =>
 refine z6 tabOk Tryz.func18 rfl trivial (fun h => by cases h) (fun _ => ?_)
 refine za tabOk Tryz.func18 rfl trivial ?_
 refine z1q ?_
 refine z6 tabOk Tryz.func18 rfl trivial (fun _ => ?_) (fun h => by cases h)
 refine zh 60 tabOk Tryz.func18 rfl trivial ?_
 refine z1b (j := 1) tabOk rfl rfl rfl rfl rfl rfl rfl rfl (by decide) rfl rfl ?_
 refine ze tabOk Tryz.func18 rfl trivial (z7m (2 * (varsA g + 1)) c.p1 ⟨by omega, by omega⟩ hp1) (.refl _) rfl ⟨_, rfl⟩ (by rintro r o rfl; rfl) ?_
 rintro _ o rfl
 cases hq1 : c.p1.all (fun s => clOk (2 * (varsA g + 1)) s.2.1) with
 | false =>
  refine z6 tabOk Tryz.func18 rfl trivial (fun _ => ?_) (fun h => by cases h)
  exact z7 tabOk Tryz.func18 rfl trivial rfl
 | true =>
 refine z6 tabOk Tryz.func18 rfl trivial (fun h => by cases h) (fun _ => ?_)
 refine za tabOk Tryz.func18 rfl trivial ?_
 refine z1q ?_
 refine z6 tabOk Tryz.func18 rfl trivial (fun _ => ?_) (fun h => by cases h)
 refine zh 60 tabOk Tryz.func18 rfl trivial ?_
 refine z1b (j := 2) tabOk rfl rfl rfl rfl rfl rfl rfl rfl (by decide) rfl rfl ?_
 refine ze tabOk Tryz.func18 rfl trivial (z7m (varsA g + 1) c.p2 ⟨by omega, by omega⟩ hp2) (.refl _) rfl ⟨_, rfl⟩ (by rintro r o rfl; rfl) ?_
 rintro _ o rfl
 cases hq2 : c.p2.all (fun s => clOk (varsA g + 1) s.2.1) with
 | false =>
  refine z6 tabOk Tryz.func18 rfl trivial (fun _ => ?_) (fun h => by cases h)
  exact z7 tabOk Tryz.func18 rfl trivial rfl
 | true =>
 refine z6 tabOk Tryz.func18 rfl trivial (fun h => by cases h) (fun _ => ?_)
 refine za tabOk Tryz.func18 rfl trivial ?_
 refine z1q ?_
 refine z6 tabOk Tryz.func18 rfl trivial (fun h => by cases h) (fun _ => ?_)
 exact z7 tabOk Tryz.func18 rfl trivial rfl
theorem zrb (w : World) (d : Nat) (a c : Int) : (Op.equalIn (d + 1) 3 (.int .i64 a) (.int .i64 c)).run Tryz.prog w = .ok (a == c) w := by
 have ht : Tryz.prog.underlying 3 = some (.int .i64) := by kernel_rfl
 simp [Op.equalIn, run_underlying ht]
theorem zlw (w : World) (t : TypeId) (x y : Value) (ht : t = 3) : (part t #[x, y] 0).run Tryz.prog w = .ok x w := by
 subst ht
 have hd : Tryz.prog.underlying 3 = some (.int .i64) := by kernel_rfl
 simp [part, z5t hd, Pagg, hd]
theorem zlv (w : World) (t : TypeId) (x y : Value) (ht : t = 3) : (part t #[x, y] 1).run Tryz.prog w = .ok y w := by
 subst ht
 have hd : Tryz.prog.underlying 3 = some (.int .i64) := by kernel_rfl
 simp [part, z5t hd, Pagg, hd]
def pairB : Option TypeDesc → Bool
 | some (.struct ⟨[f, g]⟩) => f.type == 3 && g.type == 3 && f.offset == 0 && g.offset == 1 && f.name != "_" && g.name != "_"
 | _ => false
theorem zkp : ∃ f g : Field, Tryz.prog.underlying 98 = some (.struct ⟨[f, g]⟩) ∧ f.type = 3 ∧ g.type = 3 ∧ f.offset = 0 ∧ g.offset = 1 ∧ f.name ≠ "_" ∧ g.name ≠ "_" := by
 have h : pairB (Tryz.prog.underlying 98) = true := by kernel_rfl
 unfold pairB at h
 split at h
 ·rename_i f g hfg
  simp only [Bool.and_eq_true, beq_iff_eq, bne_iff_ne] at h
  obtain ⟨⟨⟨⟨⟨h1, h2⟩, h3⟩, h4⟩, h5⟩, h6⟩ := h
  exact ⟨f, g, hfg, h1, h2, h3, h4, h5, h6⟩
 ·cases h
theorem zrc (w : World) (a b c d : Int) : (Op.equal 98 (.agg #[.int .i64 a, .int .i64 b]) (.agg #[.int .i64 c, .int .i64 d])).run Tryz.prog w = .ok (a == c && b == d) w := by
 obtain ⟨f, g, h0, h1, h2, h3, h4, h5, h6⟩ := zkp
 have hs : Tryz.prog.stoodInHeld 98 = false := by kernel_rfl
 have key : ∀ D : Nat, (Op.equalIn (D + 1 + 1) 98 (.agg #[.int .i64 a, .int .i64 b]) (.agg #[.int .i64 c, .int .i64 d])).run Tryz.prog w = .ok (a == c && b == d) w := fun D => by
  have q := fun x y => zrb w D x y
  have p0 := fun x y => zlw w 3 x y rfl
  have p1 := fun x y => zlv w 3 x y rfl
  rw [Op.equalIn]
  generalize Op.equalIn (D + 1) = E at *
  cases e1 : (a == c) <;> cases e2 : (b == d) <;> simp [run_underlying h0, hs, h1, h2, h3, h4, h5, h6, p0, p1, q, e1, e2]
 exact key 9998
theorem zmy (w : World) (x y : Operand) (u v : Value) (hu : ∃ us, u = .agg us) (hv : ∃ vs, v = .agg vs) : (eqGuard .neq 98 x y u v).run Tryz.prog w = .ok () w := by
 obtain ⟨us, rfl⟩ := hu
 obtain ⟨vs, rfl⟩ := hv
 have h : Tryz.prog.eqGuardType Tryz.prog.depth 98 = false := by kernel_rfl
 simp [eqGuard, h]
theorem zln {w : World} {ok : Nat → Prop} {π : List Value} {p : P2} {v : Value} (h : RelV w ok π (.d (eP2 p)) v) : v = .agg #[.int .i64 p.1, .int .i64 p.2] := by
 cases h with | d h => cases h with | ag h =>
 cases h with | cons h1 _ h => cases h with | cons h2 _ h => cases h with | nil =>
 cases h1 with | v _ => cases h2 with | v _ => rfl
end Go.Proofs.YtkemmijjpclckaaGreatDoor
namespace Go.Proofs.YtkemmijjpclckaaGreatDoor
open Go Ab Go.RowKit
section
variable {f : FuncId} {fn : Func} {n : Nat} {C : Cx} {R : AV → List (Option AObj) → Prop} {k : List Item} {env : Env} {objs : List (Option AObj)} {ops : Array Oper}
theorem zc6 {i : Nat} {r : List Nat} {o : Oper} {e : Env} {x y : Operand} {t2 : TypeId} {p q : P2} (ho : ops[i]? = some o) (hw : wantE ops env o = .yes) (hop : o.op = .binOp .neq 98 x y t2)
  (hx : opnd env x = some (.d (eP2 p))) (hy : opnd env y = some (.d (eP2 q))) (hput : putE n o.dst (vB (!(p.1 == q.1 && p.2 == q.2))) env = some e)
  (h : ASat Tryz.prog f n C (.inRegion ops r :: k) e objs R) : ASat Tryz.prog f n C (.inRegion ops (i :: r) :: k) env objs R := by
 refine z2e _ ho hw (fun X π w tmps m he => ?_) hput h
 have hv := zln (zk (ds := []) he hx)
 have hu := zln (zk (ds := []) he hy)
 refine ⟨.bool (!(p.1 == q.1 && p.2 == q.2)), ?_, .d (.v rfl)⟩
 have hg := zmy w x y (.agg #[.int .i64 p.1, .int .i64 p.2]) (.agg #[.int .i64 q.1, .int .i64 q.2]) ⟨_, rfl⟩ ⟨_, rfl⟩
 have hq := zrc w p.1 p.2 q.1 q.2
 unfold execOp
 simp [hop, hv, hu, hg, binOp, hq]
end
theorem zpn (a b : List P2) (hla : a.length ≤ 1000000) : ACall Tryz.prog 55 [.d (eP2s a), .d (eP2s b)] [] (fun r o => r = vB (decide (a = b))) := by
 refine z8 Tryz.func55 rfl rfl (Nat.le_of_ble_eq_true rfl) fun C hC hCl hDs hGk => ?_
 refine z6 tabOk Tryz.func55 rfl trivial (fun h => ?_) (fun h => ?_) <;> simp only [bne_iff_ne, ne_eq, bne_eq_false_iff_eq, List.length_map] at h
 ·refine z7 tabOk Tryz.func55 rfl trivial ?_
  show vB false = vB _
  have : a ≠ b := by rintro rfl; exact h rfl
  simp [this]
 have hl : a.length = b.length := by omega
 refine za tabOk Tryz.func55 rfl trivial ?_
 refine zj (α := Nat) (fun i => [(0, .d (eP2s a)), (1, .d (eP2s b)), (12, vI .i64 a.length), (13, vI .i64 i)]) (fun _ => []) (fun i => i ≤ a.length ∧ a.take i = b.take i) (fun i => a.length - i) 0 ⟨Nat.zero_le _, rfl⟩ ?_ ?_
 ·exact fun h => zg h hC hCl ⟨⟨_, rfl, .refl _⟩, ⟨_, rfl, .refl _⟩, ⟨_, rfl, .of (by rw [List.length_map])⟩, ⟨_, rfl, .refl _⟩, trivial⟩ trivial rfl rfl (Nat.zero_le _)
 rintro i ⟨hi, hc⟩ ih
 refine z6 tabOk Tryz.func55 rfl trivial (fun hb => ?_) (fun hb => ?_) <;> simp only [decide_eq_true_eq, decide_eq_false_iff_not, List.length_map] at hb
 ·have hlt : i < a.length := by omega
  have hlb : i < b.length := by omega
  have ea : a.getD i (0, 0) = a[i] := by simp [hlt]
  have eb : b.getD i (0, 0) = b[i] := by simp [hlb]
  refine zn 8 tabOk Tryz.func55 rfl rfl trivial (by kernel_rfl) ?_
  refine zo tabOk rfl ?_ ?_
  ·exact (by simp only [andP, and_true, true_and, Int.toNat_natCast, List.length_map, List.length_append, List.length_cons, List.length_nil, List.length_replicate]; omega)
  refine zc6 (p := a.getD i (0, 0)) (q := b.getD i (0, 0)) rfl rfl rfl rfl rfl rfl ?_
  have hpq : ((a.getD i (0, 0)).1 == (b.getD i (0, 0)).1 && (a.getD i (0, 0)).2 == (b.getD i (0, 0)).2) = decide (a.getD i (0, 0) = b.getD i (0, 0)) := by
   rw [Bool.eq_iff_iff, Bool.and_eq_true, beq_iff_eq, beq_iff_eq, decide_eq_true_eq, Prod.ext_iff]
  rw [hpq]
  refine z6 tabOk Tryz.func55 rfl trivial (fun hb2 => ?_) (fun hb2 => ?_)
  ·rw [Bool.not_eq_true', decide_eq_false_iff_not] at hb2
   refine z7 tabOk Tryz.func55 rfl trivial ?_
   show vB false = vB _
   have : a ≠ b := by rintro rfl; exact hb2 rfl
   simp [this]
  ·rw [Bool.not_eq_false', decide_eq_true_eq, ea, eb] at hb2
   refine za tabOk Tryz.func55 rfl trivial ?_
   refine zg (ih (i + 1) ⟨by omega, ?_⟩ (by omega)) hC hCl ⟨⟨_, rfl, .refl _⟩, ⟨_, rfl, .refl _⟩, ⟨_, rfl, .refl _⟩, ⟨_, rfl, .of (by rw [zb (by omega) (by omega)]; rfl)⟩, trivial⟩ trivial rfl rfl (Nat.zero_le _)
   rw [List.take_add_one, List.take_add_one, hc, List.getElem?_eq_getElem hlt, List.getElem?_eq_getElem hlb, hb2]
 ·obtain rfl : i = a.length := by omega
  rw [List.take_length, hl, List.take_length] at hc
  refine z7 tabOk Tryz.func55 rfl trivial ?_
  show vB true = vB _
  simp [hc]
end Go.Proofs.YtkemmijjpclckaaGreatDoor
namespace Go.Proofs.YtkemmijjpclckaaGreatDoor
open Go Ab Go.RowKit
theorem zkl (a b : Ct) (hl : a.g.length ≤ 1000000) : ACall Tryz.prog 20 [.d (eCt a), .d (eCt b)] [] (fun r o => r = vB (decide (a.p0 = b.p0) && decide (a.p1 = b.p1) && decide (a.p2 = b.p2) && (a.inv == b.inv && decide (a.g = b.g)))) := by
 refine z8 Tryz.func20 rfl rfl (Nat.le_of_ble_eq_true rfl) fun C hC hCl hDs hGk => ?_
 refine za tabOk Tryz.func20 rfl trivial ?_
 refine z3f ?_
 refine z6 tabOk Tryz.func20 rfl trivial (fun _ => ?_) (fun h => by cases h)
 refine zn 8 tabOk Tryz.func20 rfl rfl trivial (by kernel_rfl) ?_
 refine zo tabOk rfl trivial ?_
 refine ze tabOk Tryz.func20 rfl trivial (z8z a.p0 b.p0) (.refl _) rfl ⟨_, rfl⟩ (by rintro r o rfl; rfl) ?_
 rintro _ o rfl
 cases q0 : decide (a.p0 = b.p0) with
 | false =>
  refine z6 tabOk Tryz.func20 rfl trivial (fun _ => ?_) (fun h => by cases h)
  exact z7 tabOk Tryz.func20 rfl trivial rfl
 | true =>
 refine z6 tabOk Tryz.func20 rfl trivial (fun h => by cases h) (fun _ => ?_)
 refine za tabOk Tryz.func20 rfl trivial ?_
 refine z1q ?_
 refine z6 tabOk Tryz.func20 rfl trivial (fun _ => ?_) (fun h => by cases h)
 refine zn 8 tabOk Tryz.func20 rfl rfl trivial (by kernel_rfl) ?_
 refine zo tabOk rfl trivial ?_
 refine ze tabOk Tryz.func20 rfl trivial (z8z a.p1 b.p1) (.refl _) rfl ⟨_, rfl⟩ (by rintro r o rfl; rfl) ?_
 rintro _ o rfl
 cases q1 : decide (a.p1 = b.p1) with
 | false =>
  refine z6 tabOk Tryz.func20 rfl trivial (fun _ => ?_) (fun h => by cases h)
  exact z7 tabOk Tryz.func20 rfl trivial rfl
 | true =>
 refine z6 tabOk Tryz.func20 rfl trivial (fun h => by cases h) (fun _ => ?_)
 refine za tabOk Tryz.func20 rfl trivial ?_
 refine z1q ?_
 refine z6 tabOk Tryz.func20 rfl trivial (fun _ => ?_) (fun h => by cases h)
 refine zn 8 tabOk Tryz.func20 rfl rfl trivial (by kernel_rfl) ?_
 refine zo tabOk rfl trivial ?_
 refine ze tabOk Tryz.func20 rfl trivial (z8z a.p2 b.p2) (.refl _) rfl ⟨_, rfl⟩ (by rintro r o rfl; rfl) ?_
 rintro _ o rfl
 cases q2 : decide (a.p2 = b.p2) with
 | false =>
  refine z6 tabOk Tryz.func20 rfl trivial (fun _ => ?_) (fun h => by cases h)
  exact z7 tabOk Tryz.func20 rfl trivial rfl
 | true =>
 refine z6 tabOk Tryz.func20 rfl trivial (fun h => by cases h) (fun _ => ?_)
 refine za tabOk Tryz.func20 rfl trivial ?_
 refine z1q ?_
 refine z6 tabOk Tryz.func20 rfl trivial (fun h => by cases h) (fun _ => ?_)
 refine z6 tabOk Tryz.func20 rfl trivial (fun h => ?_) (fun h => ?_)
 ·have h : (a.inv == b.inv) = true := h
  rw [h]
  refine ze tabOk Tryz.func20 rfl trivial (zpn a.g b.g hl) (.refl _) rfl ⟨_, rfl⟩ (by rintro r o rfl; rfl) ?_
  rintro _ o rfl
  exact z7 tabOk Tryz.func20 rfl trivial rfl
 ·have h : (a.inv == b.inv) = false := h
  rw [h]
  exact z7 tabOk Tryz.func20 rfl trivial rfl
end Go.Proofs.YtkemmijjpclckaaGreatDoor
namespace Go.Proofs.YtkemmijjpclckaaGreatDoor
open Go Ab
structure Rf (l : List (List Int)) (a xs : List Int) : Prop where
 asm : ∀ x ∈ a, x ∈ xs
 fo : ∀ x ∈ xs, Fo l a x
 con : ∀ x ∈ xs, -x ∉ xs
def One (l : List (List Int)) (xs : List Int) (x : Int) : Prop := x ≠ 0 ∧ ∃ c ∈ l, x ∈ c ∧ x ∉ xs ∧ -x ∉ xs ∧ ∀ y ∈ c, y ≠ x → -y ∈ xs
end Go.Proofs.YtkemmijjpclckaaGreatDoor
namespace Go.Proofs.YtkemmijjpclckaaGreatDoor
open Go Ab Go.RowKit
theorem sp_eq (x y : Sp) : x = y ↔ x.1 = y.1 ∧ x.2.1 = y.2.1 := by
 obtain ⟨d, c, ⟨⟩⟩ := x
 obtain ⟨e, k, ⟨⟩⟩ := y
 simp
theorem z8n (a b : List Sp) : ACall Tryz.prog 56 [.d (eSps a), .d (eSps b)] [] (fun r o => r = vB (decide (a = b))) := by
 refine z8 Tryz.func56 rfl rfl (Nat.le_of_ble_eq_true rfl) fun C hC hCl hDs hGk => ?_
 refine z4b (t := 0) rfl fun hlen => ?_
 rw [List.length_map] at hlen
 refine z6 tabOk Tryz.func56 rfl trivial (fun h => ?_) (fun h => ?_)
 ·refine z7 tabOk Tryz.func56 rfl trivial ?_
  show vB false = vB _
  have : a ≠ b := by rintro rfl; simp at h
  simp [this]
 have hl : a.length = b.length := by simp at h; omega
 refine za tabOk Tryz.func56 rfl trivial ?_
 refine zj (α := Nat) (fun i => [(0, .d (eSps a)), (1, .d (eSps b)), (5, vI .i64 (i : Int))]) (fun _ => []) (fun i => i ≤ a.length ∧ a.take i = b.take i) (fun i => a.length - i) 0 ⟨Nat.zero_le _, rfl⟩ ?_ ?_
 ·exact fun h => zg h hC hCl ⟨⟨_, rfl, .refl _⟩, ⟨_, rfl, .refl _⟩, ⟨_, rfl, .refl _⟩, trivial⟩ trivial rfl rfl (Nat.zero_le _)
 rintro i ⟨hi, hc⟩ ih
 refine z6 tabOk Tryz.func56 rfl trivial (fun hb => ?_) (fun hb => ?_) <;> simp only [decide_eq_true_eq, decide_eq_false_iff_not, List.length_map] at hb
 ·have hlt : i < a.length := by omega
  have hlb : i < b.length := by omega
  have ea : a.getD i (false, [], ()) = a[i] := by simp [hlt]
  have eb : b.getD i (false, [], ()) = b[i] := by simp [hlb]
  have no : a[i] ≠ b[i] → vB false = vB (decide (a = b)) := fun hne => by
   have : a ≠ b := by rintro rfl; exact hne rfl
   simp [this]
  refine zn 10 tabOk Tryz.func56 rfl rfl trivial (by kernel_rfl) ?_
  refine zo tabOk rfl (by simp only [andP, and_true, true_and, Int.toNat_natCast, List.length_map, List.length_append, List.length_cons, List.length_nil, List.length_replicate]; omega) ?_
  refine ze tabOk Tryz.func56 rfl trivial (zo3 (a.getD i (false, [], ())).2.1 (b.getD i (false, [], ())).2.1) (.refl _) rfl ⟨_, rfl⟩ (by rintro r o rfl; rfl) ?_
  rintro _ o rfl
  refine zn 13 tabOk Tryz.func56 rfl rfl trivial (by kernel_rfl) ?_
  refine z14 tabOk rfl trivial (fun h1 => ?_) (fun h1 => ?_)
  ·have h1 : (!decide ((a.getD i (false, [], ())).2.1 = (b.getD i (false, [], ())).2.1)) = true := h1
   refine zo tabOk rfl trivial ?_
   refine z6 tabOk Tryz.func56 rfl trivial (fun _ => ?_) (fun h => by cases h)
   refine z7 tabOk Tryz.func56 rfl trivial (no fun e => ?_)
   rw [← ea, ← eb] at e
   rw [e] at h1
   simp at h1
  ·have h1 : (!decide ((a.getD i (false, [], ())).2.1 = (b.getD i (false, [], ())).2.1)) = false := h1
   have h1 : (a.getD i (false, [], ())).2.1 = (b.getD i (false, [], ())).2.1 := by simpa using h1
   refine zo tabOk rfl (by simp only [andP, and_true, true_and, Int.toNat_natCast, List.length_map, List.length_append, List.length_cons, List.length_nil, List.length_replicate]; omega) ?_
   refine z6 tabOk Tryz.func56 rfl trivial (fun h2 => ?_) (fun h2 => ?_)
   ·have h2 : ((a.getD i (false, [], ())).1 != (b.getD i (false, [], ())).1) = true := h2
    refine z7 tabOk Tryz.func56 rfl trivial (no fun e => ?_)
    rw [← ea, ← eb] at e
    rw [e] at h2
    simp at h2
   ·have h2 : ((a.getD i (false, [], ())).1 != (b.getD i (false, [], ())).1) = false := h2
    have h2 : (a.getD i (false, [], ())).1 = (b.getD i (false, [], ())).1 := by simpa using h2
    have h3 : a[i] = b[i] := by rw [← ea, ← eb]; exact (sp_eq _ _).2 ⟨h2, h1⟩
    refine za tabOk Tryz.func56 rfl trivial ?_
    refine zg (ih (i + 1) ⟨by omega, ?_⟩ (by omega)) hC hCl ⟨⟨_, rfl, .refl _⟩, ⟨_, rfl, .refl _⟩, ⟨_, rfl, .of (by rw [zb (by omega) (by omega)]; rfl)⟩, trivial⟩ trivial rfl rfl (Nat.zero_le _)
    rw [List.take_add_one, List.take_add_one, hc, List.getElem?_eq_getElem hlt, List.getElem?_eq_getElem hlb, h3]
 ·obtain rfl : i = a.length := by omega
  refine z7 tabOk Tryz.func56 rfl trivial ?_
  rw [List.take_length, hl, List.take_length] at hc
  rw [decide_eq_true hc]
  rfl
end Go.Proofs.YtkemmijjpclckaaGreatDoor
namespace Ab
open Go
variable [Draws]
section
variable {P : Program} [Globals P] {T : Tab} {f : FuncId} {fn : Func} {n : Nat} {C : Cx} {R : AV → List (Option AObj) → Prop} {todo todo' : List Item} {env env' : Env} {objs objs' : List (Option AObj)} {nd : Prop}
theorem zf4 {ι : List Nat} {objs0 : List (Option AObj)} {bs az : List AV} {X : Nat → Prop} {π : List Value} {w : World} {vs : List Value} (hm : Mem X π objs' w) (hs : subR (rho ι objs'.length) objs' ι objs0) (hv : VLs az (AV.rens (rho ι objs'.length) bs)) (hd : refsBs ι.length bs = true) (hvs : RelVs w (okOf X π objs') π az vs) :
  RelVs w (okOf (lendX X π objs' ι) (lendP π ι) objs0) (lendP π ι) bs vs := by
 refine RelVs.unren (m := ι.length) (z6o hm hs) ?_ bs hd (hv.rel hvs)
 intro j' h' hj' hh'
 obtain ⟨i', hi'⟩ : ∃ i', nth ι j' = some i' := by
  rw [z1n]; exact ⟨ι[j'], List.getElem?_eq_getElem hj'⟩
 rw [zc9 hi'] at hh'
 rw [z2w hi' (z1w hh')]
 exact hh'
theorem zdm {ι : List Nat} {X : Nat → Prop} {π π' : List Value} {w w' : World} {o : List (Option AObj)} {tmps : Array Value} (L : Lended X π objs' w ι π' o w') (he : zz w (okOf X π objs') π env' tmps) :
  zz w' (okOf X (z1x ι π' π) (z35 ι o objs')) (z1x ι π' π) (z3l (memN ι) env') tmps := by
 intro t a ht
 rw [z5h] at ht
 cases hl : look env' t with
 | none => rw [hl] at ht; cases ht
 | some b =>
  rw [hl] at ht
  simp only [Option.map_some, Option.some.injEq] at ht
  subst ht
  exact L.keep _ _ (he t b hl)
theorem zii {ι : List Nat} {dst : Option Tmp} {e : Env} (hput : putE n dst .dead env' = some e) : putE n dst .dead (z3l (memN ι) env') = some (putD dst .dead (z3l (memN ι) env')) := by
 cases dst with
 | none => rfl
 | some d =>
  simp only [putE] at hput ⊢
  cases hb : Nat.blt d n with
  | false => rw [hb] at hput; cases hput
  | true => rfl
theorem z10 (ι : List Nat) {g : FuncId} {az bs : List AV} {objs0 : List (Option AObj)} {dst : Option Tmp} {R' : AV → List (Option AObj) → Prop} {Pn : D → Prop} (hT : TabOk P T) (hf : P.funcs[f]? = some fn) (h : srun T n fn.results.toList 2000 True todo env objs = .call nd g az dst todo' env' objs') (hn : nd)
  (hc : z59 P g bs objs0 R' Pn) (hp : ∀ x, Pn x → C.pn x) (hs : subR (rho ι objs'.length) objs' ι objs0) (hv : VLs az (AV.rens (rho ι objs'.length) bs)) (hnd : z60 ι = true) (hd : refsBs ι.length bs = true) (hro : refsO ι.length objs0 = true) (hdst : ∃ e, putE n dst .dead env' = some e)
  (k : ∀ r o, R' r o → ASat P f n C todo' (putD dst (r.ren (rho ι objs'.length)) (z3l (memN ι) env')) (z35 ι o objs') R) (hds : C.ds = [] := by with_reducible assumption) (hG : GOk P C.π C.objs C.w := by with_reducible assumption) : ASat P f n C todo env objs R := by
 suffices hcc : Cont P f n C R (.call nd g az dst todo' env' objs') from (z1f hT hf 2000 True todo env objs (by rw [h]; exact hcc)).2
 refine ⟨hn, hdst, fun π w tmps hs1 hm hh he vs hvs => ?_⟩
 refine (hc _ _ w vs (z9s (hG.hist hh) hm hs) (z9r hm hs hnd hro) (zf4 hm hs hv hd hvs)).mono ?_
 rintro e w' (⟨v, r, o, π', rfl, hR, hm', hrel, hhist⟩ | ⟨v, x, o, π', rfl, hP, hm', hrel, hhist⟩)
 ·refine .inl ⟨v, rfl, ?_⟩
  have L := lended hm hs hnd hm' hhist
  obtain ⟨e, hput⟩ := hdst
  obtain ⟨p1, p2⟩ := z1s (zdm L he) hs1 (z7f (zii hput)) (L.back _ _ hrel)
  exact k r o hR _ w' _ p2 L.mem (hh.trans L.hist) p1
 ·refine .inr ⟨_, rfl, fun fn' _ => ?_⟩
  have L := lended hm hs hnd hm' hhist
  rw [hds]
  exact .inr ⟨v, x, _, _, rfl, hp x hP, L.mem, L.back _ _ hrel, hh.trans L.hist⟩
theorem zjj (ι : List Nat) {g g' : FuncId} {d : Deferred} {vh : Value} {m : Nat} {cs : List AV} {o2 : List (Option AObj)} {env2 : Env} {az bs : List AV} {objs0 : List (Option AObj)} {dst : Option Tmp} {R' : AV → List (Option AObj) → Prop} {Pn : D → Prop} (hT : TabOk P T) (hf : P.funcs[f]? = some fn) (h : srun T n fn.results.toList 2000 True todo env objs = .call nd g az dst todo' env' objs') (hn : nd)
  (hds : C.ds = [d]) (hoff : OffV g' vh d) (hen : ∀ args w, (callFunc g' args).run P w = .ok (.enter g' args) w) (hm0 : ∀ o, nth (z35 ι o objs') m = some (some (.hold (.fn (.func g') cs) vh))) (hO : ∀ o, subO o2 (z35 ι o objs')) (hro2 : refsO o2.length o2 = true) (hcs : refsBs o2.length cs = true)
  {o0 : List (Option AObj)} (hC : C.objs = o0) (hCo : o0.length ≤ o2.length) (hCl : C.π.length = C.objs.length) (hE : subE env2 (z3l (memN ι) env')) (hpE : ptrE o2.length env2 = true)
  (hp : ∀ x, Pn x → ∃ o3 l, ACatch P g' cs o2 x o3 ∧ resOf T env2 o3 fn.results.toList = some l ∧ R (tupOf l) o3)
  (hc : z59 P g bs objs0 R' Pn) (hs : subR (rho ι objs'.length) objs' ι objs0) (hv : VLs az (AV.rens (rho ι objs'.length) bs)) (hnd : z60 ι = true) (hd : refsBs ι.length bs = true) (hro : refsO ι.length objs0 = true) (hdst : ∃ e, putE n dst .dead env' = some e)
  (k : ∀ r o, R' r o → ASat P f n C todo' (putD dst (r.ren (rho ι objs'.length)) (z3l (memN ι) env')) (z35 ι o objs') R) (hG : GOk P C.π C.objs C.w := by with_reducible assumption) : ASat P f n C todo env objs R := by
 suffices hcc : Cont P f n C R (.call nd g az dst todo' env' objs') from (z1f hT hf 2000 True todo env objs (by rw [h]; exact hcc)).2
 refine ⟨hn, hdst, fun π w tmps hs1 hm hh he vs hvs => ?_⟩
 refine (hc _ _ w vs (z9s (hG.hist hh) hm hs) (z9r hm hs hnd hro) (zf4 hm hs hv hd hvs)).mono ?_
 rintro e w' (⟨v, r, o, π', rfl, hR, hm', hrel, hhist⟩ | ⟨v, x, o, π', rfl, hP, hm', hrel, hhist⟩)
 ·refine .inl ⟨v, rfl, ?_⟩
  have L := lended hm hs hnd hm' hhist
  obtain ⟨e, hput⟩ := hdst
  obtain ⟨p1, p2⟩ := z1s (zdm L he) hs1 (z7f (zii hput)) (L.back _ _ hrel)
  exact k r o hR _ w' _ p2 L.mem (hh.trans L.hist) p1
 ·refine .inr ⟨_, rfl, fun fn' hfn' => ?_⟩
  rw [hf] at hfn'
  cases hfn'
  have L := lended hm hs hnd hm' hhist
  rw [hds]
  obtain ⟨o3, l, hcat, hres, hRR⟩ := hp x hP
  have hxd : RelD w' (okOf C.X (z1x ι π' π) (z35 ι o objs')) x v := by
   have := L.back _ _ hrel
   cases this with | d h => exact h
  exact z9c hT hoff hen (hm0 o) hcat (hO o) hro2 hcs (by rw [hC]; exact hCo) hCl hE hpE hres hRR L.mem (hh.trans L.hist) (zdm L he) hxd hG
end
end Ab
namespace Go.Proofs.YtkemmijjpclckaaGreatDoor
open Go Ab Go.RowKit
@[reducible] def wrC (at_ e : Int) : D := .ifc 114 (.ag [eI at_, eI e])
@[reducible] def ctO (b : List UInt8) (at_ : Int) : List (Option AObj) := [some (.cells 117 [.d (eBy b), vI .i64 at_])]
@[reducible] def prE {α : Type} (q : PR α) (x : D) : Prop := ∃ a e, q = .inl (a, e) ∧ x = wrC a e
@[reducible] def prR {α : Type} (b : List UInt8) (q : PR α) (enc : α → AV) (r : AV) (o : List (Option AObj)) : Prop := ∃ v p, q = .inr (v, p) ∧ r = enc v ∧ o = ctO b p
theorem z2a (b s : List UInt8) (at_ : Int) (hb : b.length ≤ 1000000) (hs : s.length ≤ 1000000) : z59 Tryz.prog 99 [.ptr 0 0, vTx s] (ctO b at_) (prR b (wordP b s at_) fun _ => .tp []) (prE (wordP b s at_)) := by
 refine z3o Tryz.func99 rfl rfl (Nat.le_of_ble_eq_true rfl) fun C hC hCl hDs hGk hPn => ?_
 unfold wordP
 refine zn 14 tabOk Tryz.func99 rfl rfl trivial (by kernel_rfl) ?_
 refine zx tabOk rfl trivial (zhw b at_ s hb hs) (zf Tryz.func136 rfl rfl) (by rintro r o rfl; rfl) (.refl _) rfl rfl ⟨_, rfl⟩ ?_
 refine zo tabOk rfl trivial ?_
 cases hi : isAt b at_ s with
 | false =>
  refine z6 tabOk Tryz.func99 rfl trivial (fun _ => ?_) (fun h => by cases h)
  refine zh 9 tabOk Tryz.func99 rfl trivial ?_
  refine z5q Tryz.func99 rfl rfl rfl rfl ?_
  rw [hPn]
  exact ⟨at_, 2, by unfold wordP; exact if_neg (by rw [hi]; decide), rfl⟩
 | true =>
  refine z6 tabOk Tryz.func99 rfl trivial (fun h => by cases h) (fun _ => ?_)
  exact zp tabOk Tryz.func99 rfl trivial hC hCl (.refl _) (o2 := ctO b (isTo b at_ s)) ⟨.refl _, trivial⟩ rfl rfl (Nat.le_refl _) ⟨_, _, if_pos rfl, rfl, rfl⟩
theorem znj (b : List UInt8) (at_ most : Int) {g : FuncId} (q : Int × Int × Int) (hen : ∀ args w, (callFunc g args).run Tryz.prog w = .ok (.enter g args) w)
  (hg : ACall Tryz.prog g [.d (eBy b), vI .i64 at_, vI .i64 most] [] (fun r o => r = tupOf [vI .i64 q.1, vI .i64 q.2.1, vI .i64 q.2.2])) :
  z59 Tryz.prog 100 [.ptr 0 0, .d (.v (.func (.func g) #[] #[])), vI .i64 most] (ctO b at_) (prR b (if q.2.2 ≠ 0 then .inl (at_, q.2.2) else .inr (q.1, q.2.1)) fun v => vI .i64 v) (prE (if q.2.2 ≠ 0 then .inl (at_, q.2.2) else .inr (q.1, q.2.1) : PR Int)) := by
 refine z3o Tryz.func100 rfl rfl (Nat.le_of_ble_eq_true rfl) fun C hC hCl hDs hGk hPn => ?_
 obtain ⟨v, nx, e⟩ := q
 simp only at hg hPn ⊢
 refine zn 17 tabOk Tryz.func100 rfl rfl trivial (by kernel_rfl) ?_
 refine zx tabOk rfl trivial hg hen (by rintro r o rfl; rfl) (.refl _) rfl rfl ⟨_, rfl⟩ ?_
 refine zo tabOk rfl trivial ?_
 refine z6 tabOk Tryz.func100 rfl trivial (fun he => ?_) (fun he => ?_)
 ·have he : (e != 0) = true := he
  rw [bne_iff_ne] at he
  refine zh 9 tabOk Tryz.func100 rfl trivial ?_
  refine z5q Tryz.func100 rfl rfl rfl rfl ?_
  rw [hPn]
  exact ⟨_, _, if_pos he, rfl⟩
 ·have he : (e != 0) = false := he
  rw [bne_eq_false_iff_eq] at he
  exact zp tabOk Tryz.func100 rfl trivial hC hCl (.refl _) (o2 := ctO b nx) ⟨.refl _, trivial⟩ rfl rfl (Nat.le_refl _) ⟨_, _, if_neg (not_not_intro he), rfl, rfl⟩
theorem z6c (b : List UInt8) (at_ most : Int) (hb : b.length ≤ 1000000) : z59 Tryz.prog 100 [.ptr 0 0, .d (.v (.func (.func 101) #[] #[])), vI .i64 most] (ctO b at_) (prR b (numP b most at_) fun v => vI .i64 v) (prE (numP b most at_)) :=
 znj b at_ most (numR b at_ most) (zf Tryz.func101 rfl rfl) (zbp b at_ most hb)
def signP (b : List UInt8) (most at_ : Int) : PR Int := if (signR b at_ most).2.2 ≠ 0 then .inl (at_, (signR b at_ most).2.2) else .inr ((signR b at_ most).1, (signR b at_ most).2.1)
theorem zki (b : List UInt8) (at_ most : Int) (hb : b.length ≤ 1000000) : z59 Tryz.prog 100 [.ptr 0 0, .d (.v (.func (.func 161) #[] #[])), vI .i64 most] (ctO b at_) (prR b (signP b most at_) fun v => vI .i64 v) (prE (signP b most at_)) :=
 znj b at_ most (signR b at_ most) (zf Tryz.func161 rfl rfl) (zhv b at_ most hb)
end Go.Proofs.YtkemmijjpclckaaGreatDoor
namespace Ab
open Go
variable [Draws]
section
variable {P : Program} [Globals P] {T : Tab} {f : FuncId} {fn : Func} {n m : Nat} {C : Cx} {R : AV → List (Option AObj) → Prop} {todo todo' k : List Item} {env env0 env' envF : Env} {objs objs' objs1 objs2 : List (Option AObj)} {nd : Prop} {ops : Array Oper} {l : List Oper} {K : Env → Prop} {X : Nat → Prop} {O : List Nat → List (Option AObj)}
def oneO (e : Nat) (o0 o1 : List (Option AObj)) (L : List Nat) : List (Option AObj) := if e ∈ L then o1 else o0
theorem zq7 {e j : Nat} {o0 o1 : List (Option AObj)} {L : List Nat} (h : j ≠ e) : oneO e o0 o1 (j :: L) = oneO e o0 o1 L := by
 simp only [oneO, List.mem_cons, Ne.symm h, false_or]
end
end Ab
namespace Ab
open Go
variable [Draws]
section
variable {P : Program} [Globals P] {T : Tab} {f : FuncId} {fn : Func} {n m : Nat} {C : Cx} {R : AV → List (Option AObj) → Prop} {todo todo' k : List Item} {env env0 env' envF : Env} {objs objs' objs1 : List (Option AObj)} {nd : Prop} {ops : Array Oper} {X : Nat → Prop} {O : List Nat → List (Option AObj)}
def befB (ops : Array Oper) : Nat → Nat → Nat → Bool
 | 0, _, _ => false
 | f + 1, a, b => z1m ops a b || (List.range a).any fun q => z1m ops a q && befB ops f q b
theorem zj5 {L : List Nat} (hcl : ∀ q ∈ L, ∀ q', z1m ops q q' = true → q' ∈ L) : ∀ f a b, befB ops f a b = true → a ∈ L → b ∈ L
 | 0, _, _, h, _ => by cases h
 | f + 1, a, b, h, ha => by
  simp only [befB, Bool.or_eq_true, List.any_eq_true, Bool.and_eq_true] at h
  rcases h with h | ⟨q, _, h1, h2⟩
  ·exact hcl a ha b h
  ·exact zj5 hcl f q b h2 (hcl a ha q h1)
theorem zk0 {o : Oper} {E : Env} {a : AV} {d : Nat} (hT : TabOk P T) (hw : wantE ops (restr E (o.looksAt ops)) o = .yes)
  (hs : pstep T o (restr E (o.looksAt ops)) objs = .ok a) (hdst : o.dst = some d) (hdn : Nat.blt d n = true) (hlook : look E d = some a) : z8h P n X objs ops E o := by
 intro π w tmps hsz hm hgk hlk
 have he : zz w (okOf X π objs) π (restr E (o.looksAt ops)) tmps := fun t b ht => by
  obtain ⟨h1, h2⟩ := z28 ht
  exact hlk t h1 b h2
 have hdo := z5f (ds := []) hT hm he o
 rw [hs] at hdo
 obtain ⟨v, d1, d2⟩ := hdo
 refine .inr ⟨(zw he).1 hw, .inl ⟨v, w, d2 w (.refl w), .refl w, fun d' hd => ?_⟩⟩
 rw [hdst] at hd
 cases hd
 exact ⟨by simpa [Nat.blt_eq] using hdn, _, hlook, d1⟩
theorem zim {L : List Nat} {j : Nat} {o : Oper} {o0 : List (Option AObj)} (hOL : O L = o0) (hOj : O (j :: L) = O L) (h : z8h P n X o0 ops envF o) {π : List Value} {w : World} {tmps : Array Value} (hs : tmps.size = n) (hm : Mem X π (O L) w) (hgk : GOk P π (O L) w) (hl : ∀ t ∈ o.looksAt ops, ∀ a, look envF t = some a → RelV w (okOf X π (O L)) π a (tmps.getD t undef)) :
  (Region.wanted o (yielded ops tmps) = false ∧ ∃ π', StepX X O m ops envF L j π w π' w ∧ PutOk n w (okOf X π' (O (j :: L))) π' envF o undef) ∨
  (Region.wanted o (yielded ops tmps) = true ∧
   ((∃ v w2 π', (execOp (Act.eval ⟨tmps, []⟩) o).run P w = .ok (.value v) w2 ∧ StepX X O m ops envF L j π w π' w2 ∧ PutOk n w2 (okOf X π' (O (j :: L))) π' envF o v) ∨
    (∃ w2 π', (execOp (Act.eval ⟨tmps, []⟩) o).run P w = .ok .skip w2 ∧ StepX X O m ops envF L j π w π' w2 ∧ PutOk n w2 (okOf X π' (O (j :: L))) π' envF o undef) ∨
    (∃ g args, (execOp (Act.eval ⟨tmps, []⟩) o).run P w = .ok (.enter g args) w ∧ Calls P g args w fun e w2 => ∃ v π', e = .returned v ∧ StepX X O m ops envF L j π w π' w2 ∧ PutOk n w2 (okOf X π' (O (j :: L))) π' envF o v))) := by
 subst hOL
 rcases h π w tmps hs hm hgk hl with ⟨hw, hp⟩ | ⟨hw, ⟨v, w2, hr, hlt, hp⟩ | ⟨g, args, hr, hc⟩⟩
 ·exact .inl ⟨hw, π, z75 hOj hm (.refl w), by rw [hOj]; exact hp⟩
 ·exact .inr ⟨hw, .inl ⟨v, w2, π, hr, z75 hOj hm hlt, by rw [hOj]; exact hp⟩⟩
 ·exact .inr ⟨hw, .inr (.inr ⟨g, args, hr, hc.mono fun e w2 ⟨v, h1, h2, h3⟩ => ⟨v, π, h1, z75 hOj hm h2, by rw [hOj]; exact h3⟩⟩)⟩
theorem zp2 {j : Nat} {o : Oper} {E : Env} {a : AV} {c : Option Prop} {L : List Nat} (hT : TabOk P T) (hw : wantE ops (restr E (o.looksAt ops)) o = .yes) (hE : ∀ t ∈ o.looksAt ops, ∀ b, look E t = some b → look envF t = some b)
  (hs : estep T o (restr E (o.looksAt ops)) (O L) = some ⟨c, true, a, none, O (j :: L)⟩) (hc : cond c) (hdst : o.dst = none) {π : List Value} {w : World} {tmps : Array Value} (hm : Mem X π (O L) w) (hlk : ∀ t ∈ o.looksAt ops, ∀ a, look envF t = some a → RelV w (okOf X π (O L)) π a (tmps.getD t undef)) :
  Region.wanted o (yielded ops tmps) = true ∧ ∃ w2 π', (execOp (Act.eval ⟨tmps, []⟩) o).run P w = .ok .skip w2 ∧ StepX X O m ops envF L j π w π' w2 ∧ PutOk n w2 (okOf X π' (O (j :: L))) π' envF o undef := by
 have he : zz w (okOf X π (O L)) π (restr E (o.looksAt ops)) tmps := fun t b ht => by
  obtain ⟨h1, h2⟩ := z28 ht
  exact hlk t h1 b (hE t h1 b h2)
 have hst := z8a (ds := []) hT hm he o
 rw [hs] at hst
 obtain ⟨v, w', π', h1, h2, _⟩ := hst hc
 refine ⟨(zw he).1 hw, w', π', h1, ⟨h2.mem, h2.hist, fun t a u _ _ hu => h2.keep _ _ hu⟩, fun d hd => ?_⟩
 rw [hdst] at hd
 cases hd
theorem zle (m js fuel : Nat) (late : List Nat) {os : Oper} {E : Env} {a : AV} {c : Option Prop} {id : Nat} (hT : TabOk P T) (hf : P.funcs[f]? = some fn) (hmx : P.follows .mixedOrders = true) (h : srun T n fn.results.toList 2000 True todo env objs = .draw nd id ops k env' objs') (hn : nd)
  (hB : drawB ops m = true) (hjs : Nat.blt js m = true) (hear : ((List.range m).all fun j => Nat.beq j js || late.any (Nat.beq j) || befB ops fuel js j) = true)
  (hD : DSat P n C.X objs' ops (fun x => x = E) (z3c ops m [(js, none)]) env')
  (hos : ops[js]? = some os) (hsd : os.dst = none) (hws : wantE ops (restr E (os.looksAt ops)) os = .yes)
  (hs : estep T os (restr E (os.looksAt ops)) objs' = some ⟨c, true, a, none, objs1⟩) (hc : cond c)
  (hlate : ∀ j ∈ late, ∃ o, ops[j]? = some o ∧ z8h P n C.X objs1 ops E o)
  (hk : ASat P f n C (.inRegion ops (List.range' m (ops.size - m)) :: k) E objs1 R) (hGk : GOk P C.π C.objs C.w := by with_reducible assumption) : ASat P f n C todo env objs R := by
 obtain ⟨E0, a1, a2, a3, rfl⟩ := hD
 have hq : ∀ {j : Nat} {o : Oper}, j < m → j ≠ js → ops[j]? = some o → o ∈ z3c ops m [(js, none)] := by
  intro j o hj hb ho
  unfold z3c
  rw [List.mem_filterMap]
  refine ⟨j, List.mem_filter.2 ⟨List.mem_range.2 hj, ?_⟩, ho⟩
  simp only [actB, List.any_cons, List.any_nil, Bool.or_false, Bool.not_eq_true']
  cases hx : Nat.beq js j with
  | false => rfl
  | true => exact absurd (Nat.eq_of_beq_eq_true hx).symm hb
 suffices hcc : Cont P f n C R (.draw nd id ops k env' objs') from (z1f hT hf 2000 True todo env objs (by rw [h]; exact hcc)).2
 refine ⟨hn, zfs (O := oneO js objs' objs1) (envF := E0) hmx hB ?_ (by simp [oneO]) (fun L hL => by rw [oneO, if_pos (hL js (by simpa [Nat.blt_eq] using hjs))]) ?_ hk⟩
 ·intro j o hj ho L hLm hjL hdeps hcl π w tmps hsz hm hgk hlk
  by_cases hjj : j = js
  ·subst hjj
   rw [hos] at ho
   cases ho
   have hOL : oneO j objs' objs1 L = objs' := by rw [oneO, if_neg hjL]
   have hOj : oneO j objs' objs1 (j :: L) = objs1 := by rw [oneO, if_pos (List.mem_cons_self ..)]
   obtain ⟨h1, w2, π', h2⟩ := zp2 (n := n) (m := m) (ops := ops) (O := oneO j objs' objs1) (L := L) hT hws (fun _ _ _ h => h) (by rw [hOL, hOj]; exact hs) hc hsd hm hlk
   exact .inr ⟨h1, .inr (.inl ⟨w2, π', h2⟩)⟩
  ·have hOj : oneO js objs' objs1 (j :: L) = oneO js objs' objs1 L := zq7 hjj
   by_cases hL : js ∈ L
   ·have hOL : oneO js objs' objs1 L = objs1 := by rw [oneO, if_pos hL]
    have h1 := List.all_eq_true.1 hear j (List.mem_range.2 hj)
    simp only [Bool.or_eq_true, List.any_eq_true] at h1
    rcases h1 with (h1 | ⟨q, h2, h3⟩) | h1
    ·exact absurd (Nat.eq_of_beq_eq_true h1) hjj
    ·obtain rfl := Nat.eq_of_beq_eq_true h3
     obtain ⟨o2, h4, h5⟩ := hlate j h2
     rw [ho] at h4
     cases h4
     exact zim hOL hOj h5 hsz hm hgk hlk
    ·exact absurd (zj5 hcl _ _ _ h1 hL) hjL
   ·have hOL : oneO js objs' objs1 L = objs' := by rw [oneO, if_neg hL]
    exact zim hOL hOj (a3 o (hq hj hjj ho)) hsz hm hgk hlk
 ·intro t ht a ha
  refine a1 t (fun o ho hd => ?_) a ha
  unfold z3c at ho
  rw [List.mem_filterMap] at ho
  obtain ⟨j, hj, ho⟩ := ho
  have hj := List.mem_range.1 (List.mem_filter.1 hj).1
  have := ht j hj
  rw [z1d.2 ⟨o, ho, hd⟩] at this
  cases this
end
end Ab
namespace Go.Proofs.YtkemmijjpclckaaGreatDoor
open Go Ab Go.RowKit
@[reducible] def gIn (l : List Int) : AObj := .grow 3 1 (l.map eI) (fun i => eI (l.getD i 0))
@[reducible] def zSp : AObj := .cells 87 [.d (.v (.bool false)), .d (.v (.slice none 0 0))]
@[reducible] def cspO (b : List UInt8) (at_ : Int) (del : Bool) (out : List Int) : List (Option AObj) := [some (.cells 117 [.d (eBy b), vI .i64 at_]), some zSp, some (.cells 87 [vB del, .gs 3]), some (gIn out)]
theorem z5a (b s : List UInt8) (at_ : Int) : (isAt b at_ s = true ∧ wordP b s at_ = .inr ((), isTo b at_ s)) ∨ (isAt b at_ s = false ∧ wordP b s at_ = .inl (at_, 2)) := by
 unfold wordP
 cases h : isAt b at_ s with
 | true => exact .inl ⟨rfl, if_pos rfl⟩
 | false => exact .inr ⟨rfl, if_neg (by decide)⟩
theorem zkh (b : List UInt8) (n at0 : Int) (hb : b.length ≤ 1000000) (h0 : 0 ≤ at0) (h1 : at0 ≤ b.length) : z59 Tryz.prog 140 [.ptr 0 0, vI .i64 n] (ctO b at0) (prR b (stepP b n at0) fun s => .d (eSp s)) (prE (stepP b n at0)) := by
 refine z3o Tryz.func140 rfl rfl (Nat.le_of_ble_eq_true rfl) fun C hC hCl hDs hGk hPn => ?_
 obtain ⟨hge, hle⟩ := @z8s b at0 sDel h0 h1
 unfold stepP at *
 generalize hq : clR b n (b.length + 1) (isTo b at0 sDel) [] = q at *
 refine zle 16 15 8 [12] (c := none) tabOk Tryz.func140 rfl rfl trivial (by kernel_rfl) (by kernel_rfl) (by kernel_rfl) (zx tabOk rfl trivial (zhw b at0 sDel hb (by decide)) (zf Tryz.func136 rfl rfl) (by rintro r o rfl; rfl) (.refl _) rfl rfl ⟨_, rfl⟩ (zo tabOk rfl trivial rfl)) rfl rfl rfl rfl trivial (List.forall_mem_cons.2 ⟨⟨_, rfl, zk0 tabOk rfl rfl rfl rfl rfl⟩, fun x h => by cases h⟩) ?_
 generalize isTo b at0 sDel = at1 at *
 generalize isAt b at0 sDel = del at *
 refine za tabOk Tryz.func140 rfl trivial ?_
 refine z5d 2 1 (e' := 3) (s := 1) (fun i => eI (([] : List Int).getD i 0)) rfl rfl ?_
 refine zj (α := Nat × Int × List Int) (fun s => [(0, .ptr 0 0), (1, vI .i64 n), (4, .ptr 1 0), (5, .ptr 2 0)]) (fun s => cspO b s.2.1 del s.2.2) (fun s => 0 ≤ s.2.1 ∧ s.2.1 ≤ b.length ∧ b.length - s.2.1 < s.1 ∧ s.2.2.length ≤ 1000 ∧ clR b n s.1 s.2.1 s.2.2 = q) (fun s => s.1) (b.length + 1, at1, []) ⟨by simp only; omega, by simp only; omega, by simp only; omega, by simp, hq⟩ ?_ ?_
 ·exact fun h => zg h hC hCl ⟨⟨_, rfl, .refl _⟩, ⟨_, rfl, .refl _⟩, ⟨_, rfl, .refl _⟩, ⟨_, rfl, .refl _⟩, trivial⟩ ⟨.refl _, .refl _, .refl _, .refl _, trivial⟩ rfl rfl (Nat.le_of_ble_eq_true rfl)
 rintro ⟨f, at_, out⟩ ⟨ha, hab, hf, hout, hcl⟩ ih
 simp only at ha hab hf hout hcl ih ⊢
 obtain ⟨f, rfl⟩ : ∃ k, f = k + 1 := ⟨f - 1, by omega⟩
 rw [clR] at hcl
 have hpl := @z6f b at_ n
 have hsp : signP b n at_ = if (signR b at_ n).2.2 ≠ 0 then .inl (at_, (signR b at_ n).2.2) else .inr ((signR b at_ n).1, (signR b at_ n).2.1) := rfl
 have hcall := zki b at_ n hb
 rw [hsp] at hcall
 clear hsp
 generalize signR b at_ n = sg at *
 obtain ⟨l, nx, e⟩ := sg
 simp only at hcl hpl hcall
 refine z10 [0] tabOk Tryz.func140 rfl trivial hcall ?_ ⟨⟨_, rfl, .refl _⟩, trivial⟩ (.refl _) rfl rfl rfl ⟨_, rfl⟩ ?_
 ·rintro x ⟨a, e2, hx, rfl⟩
  split at hx
  ·rename_i he
   rw [if_pos he] at hcl
   simp only [Sum.inl.injEq, Prod.mk.injEq] at hx
   obtain ⟨rfl, rfl⟩ := hx
   rw [hPn, ← hcl]
   exact ⟨_, _, rfl, rfl⟩
  ·cases hx
 rintro r o ⟨v, p, hx, rfl, rfl⟩
 split at hx
 ·cases hx
 rename_i he
 simp only [Sum.inr.injEq, Prod.mk.injEq] at hx
 obtain ⟨rfl, rfl⟩ := hx
 have he : e = 0 := Decidable.not_not.1 he
 obtain ⟨-, p2, p3⟩ := hpl he
 rw [if_neg (fun hh => hh he)] at hcl
 refine z6 tabOk Tryz.func140 rfl trivial (fun hl => ?_) (fun hl => ?_)
 ·have hl : l = 0 := by simpa using hl
  rw [if_pos hl] at hcl
  refine z10 [0] tabOk Tryz.func140 rfl trivial (z2a b sNl nx hb (by decide)) ?_ ⟨⟨_, rfl, .refl _⟩, trivial⟩ (.refl _) rfl rfl rfl ⟨_, rfl⟩ ?_
  ·rintro x ⟨a, e2, hx, rfl⟩
   rcases z5a b sNl nx with ⟨h1, h2⟩ | ⟨h1, h2⟩
   ·rw [h2] at hx
    cases hx
   ·rw [h2] at hx
    cases hx
    rw [if_neg (by rw [h1]; decide)] at hcl
    rw [hPn, ← hcl]
    exact ⟨_, _, rfl, rfl⟩
  rintro r o ⟨v, p, hx, rfl, rfl⟩
  rcases z5a b sNl nx with ⟨h1, h2⟩ | ⟨h1, h2⟩
  ·rw [h2] at hx
   cases hx
   rw [if_pos h1] at hcl
   refine zy 3 rfl ?_
   refine zp tabOk Tryz.func140 rfl trivial hC hCl (.refl _) (o2 := ctO b (isTo b nx sNl)) ⟨.refl _, trivial⟩ rfl rfl (Nat.le_refl _) ⟨(del, out, ()), _, ?_, rfl, rfl⟩
   rw [← hcl]
   rfl
  ·rw [h2] at hx
   cases hx
 have hl : l ≠ 0 := by simpa using hl
 rw [if_neg hl] at hcl
 refine z6 tabOk Tryz.func140 rfl trivial (fun ho => ?_) (fun ho => ?_)
 ·have ho : out.length = 1000 := by
   have ho : ((((out.map eI).length : Nat) : Int) == 1000) = true := ho
   rw [List.length_map, beq_iff_eq] at ho
   omega
  rw [if_pos ho] at hcl
  refine zh 9 tabOk Tryz.func140 rfl trivial ?_
  refine z5q Tryz.func140 rfl rfl rfl rfl ?_
  rw [hPn, ← hcl]
  exact ⟨_, _, rfl, rfl⟩
 have ho : out.length ≠ 1000 := by
  have ho : ((((out.map eI).length : Nat) : Int) == 1000) = false := ho
  rw [List.length_map, beq_eq_false_iff_ne] at ho
  omega
 rw [if_neg ho] at hcl
 refine z10 [0] tabOk Tryz.func140 rfl ?nd (z2a b sSp nx hb (by decide)) ?_ ⟨⟨_, rfl, .refl _⟩, trivial⟩ (.refl _) rfl rfl rfl ⟨_, rfl⟩ ?_
 case nd =>
  show ((out.map eI).length + 1) * 8 ≤ 140737488355328 ∧ True
  rw [List.length_map]
  exact ⟨by omega, trivial⟩
 ·rintro x ⟨a, e2, hx, rfl⟩
  rcases z5a b sSp nx with ⟨h1, h2⟩ | ⟨h1, h2⟩
  ·rw [h2] at hx
   cases hx
  ·rw [h2] at hx
   cases hx
   rw [if_neg (by rw [h1]; decide)] at hcl
   rw [hPn, ← hcl]
   exact ⟨_, _, rfl, rfl⟩
 rintro r o ⟨v, p, hx, rfl, rfl⟩
 rcases z5a b sSp nx with ⟨h1, h2⟩ | ⟨h1, h2⟩
 ·rw [h2] at hx
  cases hx
  rw [if_pos h1] at hcl
  obtain ⟨t1, t2, t3⟩ := z63 h1
  have t2 : isTo b nx sSp = nx + 1 := t2
  refine za tabOk Tryz.func140 rfl trivial ?_
  refine zg (ih (f, isTo b nx sSp, out ++ [l]) ⟨by simp only; omega, by simp only; omega, by simp only; omega, by simp only [List.length_append, List.length_cons, List.length_nil]; omega, hcl⟩ (by simp only; omega)) hC hCl ⟨⟨_, rfl, .refl _⟩, ⟨_, rfl, .refl _⟩, ⟨_, rfl, .refl _⟩, ⟨_, rfl, .refl _⟩, trivial⟩ ⟨.refl _, .refl _, .refl _, .grow ?_ (z2v eI 0 _), trivial⟩ rfl rfl (Nat.le_of_ble_eq_true rfl)
  rw [List.map_append]
  rfl
 ·rw [h2] at hx
  cases hx
theorem z7o (b : List UInt8) (n : Int) (p : Nat) (hb : b.length ≤ 1000000) (hp : p ≤ b.length) (hn : 0 ≤ n) : z59 Tryz.prog 102 [.ptr 0 0, vI .i64 n] (ctO b p) (prR b (z1v b n p) fun l => .d (eSps l)) (prE (z1v b n p)) := by
 refine z3o Tryz.func102 rfl rfl (Nat.le_of_ble_eq_true rfl) fun C hC hCl hDs hGk hPn => ?_
 obtain ⟨Q, hQ⟩ : ∃ Q, z1v b n p = Q := ⟨_, rfl⟩
 rw [hQ] at hPn ⊢
 unfold z1v at hQ
 refine z10 [0] tabOk Tryz.func102 rfl trivial (z2a b z2k p hb (by decide)) ?_ ⟨⟨_, rfl, .refl _⟩, trivial⟩ (.refl _) rfl rfl rfl ⟨_, rfl⟩ ?_
 ·rintro x ⟨a, e, hx, rfl⟩
  rw [hx] at hQ
  rw [hPn]
  exact ⟨_, _, hQ.symm, rfl⟩
 rintro r o ⟨v, p1, hx, rfl, rfl⟩
 obtain ⟨q1, t1, rfl, ⟨hq1, -⟩, -⟩ := (z1i hp).ok _ _ hx
 rw [hx] at hQ
 simp only [bnd] at hQ
 clear hx
 refine z10 [0] tabOk Tryz.func102 rfl trivial (z6c b q1 20000 hb) ?_ ⟨⟨_, rfl, .refl _⟩, trivial⟩ (.refl _) rfl rfl rfl ⟨_, rfl⟩ ?_
 ·rintro x ⟨a, e, hx, rfl⟩
  rw [hx] at hQ
  rw [hPn]
  exact ⟨_, _, hQ.symm, rfl⟩
 rintro r o ⟨m, p2, hx, rfl, rfl⟩
 obtain ⟨q2, t2, rfl, ⟨hq2, -⟩, -, hm0, hm1⟩ := (z2r hq1).ok _ _ hx
 rw [hx] at hQ
 simp only [bnd] at hQ
 clear hx
 refine z10 [0] tabOk Tryz.func102 rfl trivial (z2a b [10] q2 hb (by decide)) ?_ ⟨⟨_, rfl, .refl _⟩, trivial⟩ (.refl _) rfl rfl rfl ⟨_, rfl⟩ ?_
 ·rintro x ⟨a, e, hx, rfl⟩
  rw [hx] at hQ
  rw [hPn]
  exact ⟨_, _, hQ.symm, rfl⟩
 rintro r o ⟨v, p3, hx, rfl, rfl⟩
 obtain ⟨q3, t3, rfl, ⟨hq3, -⟩, -⟩ := (z1i hq2).ok _ _ hx
 rw [hx] at hQ
 simp only [bnd] at hQ
 clear hx
 refine za tabOk Tryz.func102 rfl trivial ?_
 refine z3r (e := 87) (s := 2) (t := 6) (.inl rfl) (fun i => eSp (([] : List Sp).getD i (false, [], ()))) ?_
 refine zj (α := Nat × Nat × List Sp) (fun s => [(0, .ptr 0 0), (1, vI .i64 n), (6, .gs 1), (13, vI .i64 m), (14, vI .i64 (s.1 : Int))]) (fun s => [some (.cells 117 [.d (eBy b), vI .i64 (s.2.1 : Int)]), some (gSps s.2.2)]) (fun s => (s.1 : Int) ≤ m ∧ s.2.1 ≤ b.length ∧ s.2.2.length = s.1 ∧ z4v b n (m.toNat - s.1) (s.2.1 : Int) s.2.2 = Q) (fun s => m.toNat - s.1) (0, q3, []) ⟨hm0, hq3, rfl, hQ⟩ ?_ ?_
 ·exact fun h => zg h hC hCl ⟨⟨_, rfl, .refl _⟩, ⟨_, rfl, .refl _⟩, ⟨_, rfl, .refl _⟩, ⟨_, rfl, .refl _⟩, ⟨_, rfl, .refl _⟩, trivial⟩ ⟨.refl _, .gL rfl, trivial⟩ rfl rfl (Nat.le_of_ble_eq_true rfl)
 rintro ⟨i, p4, out⟩ ⟨hi, hp4, hol, hcl⟩ ih
 simp only at hi hp4 hol hcl ih ⊢
 refine z6 tabOk Tryz.func102 rfl trivial (fun h1 => ?_) (fun h1 => ?_)
 ·have h1 : decide ((i : Int) < m) = true := h1
  rw [decide_eq_true_eq] at h1
  rw [show m.toNat - i = (m.toNat - (i + 1)) + 1 by omega, z4v] at hcl
  refine z10 [0] tabOk Tryz.func102 rfl trivial (zkh b n p4 hb (by omega) (by omega)) ?_ ⟨⟨_, rfl, .refl _⟩, trivial⟩ (.refl _) rfl rfl rfl ⟨_, rfl⟩ ?_
  ·rintro x ⟨a, e, hx, rfl⟩
   rw [hx] at hcl
   rw [hPn]
   exact ⟨_, _, hcl.symm, rfl⟩
  rintro r o ⟨s, p5, hx, rfl, rfl⟩
  obtain ⟨q5, t5, rfl, ⟨hq5, -⟩, -⟩ := (zaa hn hp4).ok _ _ hx
  rw [hx] at hcl
  simp only [bnd] at hcl
  refine za tabOk Tryz.func102 rfl ?nd ?_
  case nd =>
   rw [List.length_map]
   show (out.length + 1) * 32 ≤ 140737488355328 ∧ True
   exact ⟨by omega, trivial⟩
  refine zg (ih (i + 1, q5, out ++ [s]) ⟨by simp only; omega, hq5, by simp only [List.length_append, List.length_singleton]; omega, hcl⟩ (by simp only; omega)) hC hCl ⟨⟨_, rfl, .refl _⟩, ⟨_, rfl, .refl _⟩, ⟨_, rfl, .refl _⟩, ⟨_, rfl, .refl _⟩, ⟨_, rfl, .of (by rw [zb (by omega) (by omega)]; rfl)⟩, trivial⟩ ⟨.refl _, .gL ?_, trivial⟩ rfl rfl (Nat.le_of_ble_eq_true rfl)
  rw [List.map_append]
  rfl
 ·have h1 : decide ((i : Int) < m) = false := h1
  rw [decide_eq_false_iff_not] at h1
  rw [show m.toNat - i = 0 by omega, z4v] at hcl
  refine zy 1 rfl ?_
  exact zp tabOk Tryz.func102 rfl trivial hC hCl (.refl _) (o2 := ctO b p4) ⟨.refl _, trivial⟩ rfl rfl (Nat.le_refl _) ⟨_, _, hcl.symm, rfl, rfl⟩
end Go.Proofs.YtkemmijjpclckaaGreatDoor
