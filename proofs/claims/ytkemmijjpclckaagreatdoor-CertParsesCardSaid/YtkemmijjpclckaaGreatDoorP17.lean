/- A part of the proof. -/
import Derived.Test.YtkemmijjpclckaaGreatDoorP16
import Derived.Lib.ItoaLen
set_option linter.unusedVariables false
set_option linter.unusedSimpArgs false
set_option linter.unusedSectionVars false
set_option maxRecDepth 100000
set_option maxHeartbeats 8000000
namespace Go.Proofs.YtkemmijjpclckaaGreatDoor
open Go Ab Go.RowKit
def lit1 (l : Int) : List UInt8 := tItoa l ++ [32]
def litsT (c : List Int) : List UInt8 := c.flatMap lit1
def delT (d : Bool) : List UInt8 := if d = true then [100, 32] else []
def stepT (s : Sp) : List UInt8 := delT s.1 ++ litsT s.2.1 ++ [48, 10]
def z1j (p : List Sp) : List UInt8 := p.flatMap stepT
theorem zjw (c : List Int) (l : Int) : litsT (c ++ [l]) = litsT c ++ lit1 l := by simp [litsT]
theorem zgt (p : List Sp) (s : Sp) : z1j (p ++ [s]) = z1j p ++ stepT s := by simp [z1j]
theorem zdl {l : Int} (h0 : -9223372036854775808 ≤ l) (h1 : l ≤ 9223372036854775807) : (lit1 l).length ≤ 22 := by
 have := Go.Lib.itoa_length_le l h0 h1
 simp only [lit1, tItoa, List.length_append, List.length_cons, List.length_nil]
 omega
theorem zaw : ∀ {c : List Int}, (∀ l ∈ c, -9223372036854775808 ≤ l ∧ l ≤ 9223372036854775807) → (litsT c).length ≤ c.length * 22
 | [], _ => by simp [litsT]
 | l :: r, h => by
  have h1 := zdl (h l List.mem_cons_self).1 (h l List.mem_cons_self).2
  have h2 := zaw (c := r) fun x hx => h x (List.mem_cons_of_mem _ hx)
  simp only [litsT, List.flatMap_cons, List.length_append, List.length_cons] at h2 ⊢
  omega
theorem zl0 {s : Sp} {m : Nat} (h : ∀ l ∈ s.2.1, -9223372036854775808 ≤ l ∧ l ≤ 9223372036854775807) (hm : s.2.1.length ≤ m) : (stepT s).length ≤ m * 22 + 4 := by
 have h1 := zaw h
 have : (delT s.1).length ≤ 2 := by unfold delT; split <;> simp
 have : s.2.1.length * 22 ≤ m * 22 := Nat.mul_le_mul_right _ hm
 simp only [stepT, List.length_append, List.length_cons, List.length_nil]
 omega
theorem z6k {m : Nat} : ∀ {p : List Sp}, (∀ s ∈ p, (∀ l ∈ s.2.1, -9223372036854775808 ≤ l ∧ l ≤ 9223372036854775807) ∧ s.2.1.length ≤ m) → (z1j p).length ≤ p.length * (m * 22 + 4)
 | [], _ => by simp [z1j]
 | s :: r, h => by
  have h1 := zl0 (h s List.mem_cons_self).1 (h s List.mem_cons_self).2
  have h2 := z6k (p := r) fun x hx => h x (List.mem_cons_of_mem _ hx)
  simp only [z1j, List.flatMap_cons, List.length_append, List.length_cons] at h2 ⊢
  rw [Nat.add_mul]
  omega
@[reducible] def bldT (a : Bool) (bs : List UInt8) : List (Option AObj) := [some (bld 0 1 a bs), some (gB bs)]
theorem z3b {objs : List (Option AObj)} {i j : Nat} {a : Bool} {bs : List UInt8} (h1 : nth objs i = some (some (bld i j a bs))) (h2 : nth objs j = some (some (gB bs))) : subR (rho [i, j] objs.length) objs [i, j] [some (bld 0 1 a bs), some (gB bs)] := by
 refine ⟨⟨_, h1, ?_⟩, ⟨_, h2, .refl _⟩, trivial⟩
 rw [z5l]
 exact .refl _
theorem z7n (p : List Sp) (hp : ∀ s ∈ p, (∀ x ∈ s.2.1, -1000000 ≤ x ∧ x ≤ 1000000) ∧ s.2.1.length ≤ 1000) (hl : p.length ≤ 1000) : ACall Tryz.prog 40 [.d (eSps p)] [] (fun r o => r = vStr (z1j p)) := by
 refine z8 Tryz.func40 rfl rfl (Nat.le_of_ble_eq_true rfl) fun C hC hCl hDs hGk => ?_
 refine zh 7 tabOk Tryz.func40 rfl trivial ?_
 refine zeg 5 1 (fun i => eU8 (([] : List UInt8).getD i 0)) ?_
 refine za tabOk Tryz.func40 rfl trivial ?_
 have hlim : ∀ i, i ≤ p.length → (z1j (p.take i)).length ≤ 22004000 := fun i hi => by
  have := z6k (m := 1000) (p := p.take i) fun s hs => by
   obtain ⟨h1, h2⟩ := hp s (List.mem_of_mem_take hs)
   exact ⟨fun l hl => by have := h1 l hl; omega, h2⟩
  rw [List.length_take] at this
  have h2 : min i p.length * (1000 * 22 + 4) ≤ 1000 * (1000 * 22 + 4) := Nat.mul_le_mul_right _ (by omega)
  omega
 refine zj (α := Nat × Bool) (fun s => [(3, .ptr 0 0), (8, .d (eSps p)), (9, vI .i64 p.length), (10, vI .i64 (s.1 : Int))]) (fun s => bldT s.2 (z1j (p.take s.1))) (fun s => s.1 ≤ p.length) (fun s => p.length - s.1) (0, false) (Nat.zero_le _) ?_ ?_
 ·exact fun h => zg h hC hCl ⟨⟨_, rfl, .refl _⟩, ⟨_, rfl, .refl _⟩, ⟨_, rfl, .of (by rw [List.length_map])⟩, ⟨_, rfl, .refl _⟩, trivial⟩ ⟨.refl _, .refl _, trivial⟩ rfl rfl (Nat.zero_le _)
 rintro ⟨i, a⟩ hi ih
 simp only at hi ih ⊢
 refine z6 tabOk Tryz.func40 rfl trivial (fun h => ?_) (fun h => ?_)
 rotate_left
 ·have h : decide ((i : Int) < (p.length : Int)) = false := h
  rw [decide_eq_false_iff_not] at h
  obtain rfl : i = p.length := by omega
  rw [List.take_length]
  refine zm [0, 1] tabOk Tryz.func40 rfl trivial (zgd a (z1j p)) (z3b rfl rfl) (.refl _) rfl rfl (z1g _ _) ⟨_, rfl⟩ ?_
  rintro _ o ⟨rfl, rfl⟩
  exact z7 tabOk Tryz.func40 rfl trivial rfl
 have h : decide ((i : Int) < (p.length : Int)) = true := h
 rw [decide_eq_true_eq] at h
 have hlt : i < p.length := by omega
 have eg : p.getD i (false, [], ()) = p[i] := by simp [hlt]
 obtain ⟨hc1, hc2⟩ := hp _ (List.getElem_mem hlt)
 have hT0 := hlim i hi
 have hnext : z1j (p.take (i + 1)) = z1j (p.take i) ++ stepT p[i] := by rw [List.take_succ_eq_append_getElem hlt, zgt]
 rw [← eg] at hc1 hc2 hnext
 generalize z1j (p.take i) = T0 at *
 have hcl := fun k => zaw (c := (p.getD i (false, [], ())).2.1.take k) fun l hl => by have := hc1 l (List.mem_of_mem_take hl); omega
 generalize hsi : p.getD i (false, [], ()) = si at *
 obtain ⟨d, c, ⟨⟩⟩ := si
 simp only at hc1 hc2 hnext hcl
 apply letK (p := ASat Tryz.prog 40 Tryz.f40.ntmps C _ [(3, .ptr 0 0), (8, .d (eSps p)), (9, vI .i64 p.length), (10, vI .i64 (i : Int)), (18, .d (eIs c)), (19, vI .i64 c.length), (20, vI .i64 (0 : Int))] (bldT (d || a) (T0 ++ delT d)) (fun r o => r = vStr (z1j p)))
 ·intro key
  refine z6 tabOk Tryz.func40 rfl (by simp only [andP, and_true, true_and, Int.toNat_natCast, List.length_map, List.length_append, List.length_cons, List.length_nil, List.length_replicate]; omega) (fun hd => ?_) (fun hd => ?_)
  ·have hd : (p.getD i (false, [], ())).1 = true := hd
   rw [hsi] at hd
   cases hd
   refine zm [0, 1] tabOk Tryz.func40 rfl trivial (z3p a T0 [100, 32] (by omega) (by decide)) (z3b rfl rfl) (.refl _) rfl rfl (z1g _ _) ⟨_, rfl⟩ ?_
   rintro _ o ⟨rfl, rfl⟩
   refine za tabOk Tryz.func40 rfl trivial ?_
   refine zg key hC hCl ⟨⟨_, rfl, .refl _⟩, ⟨_, rfl, .refl _⟩, ⟨_, rfl, .refl _⟩, ⟨_, rfl, .refl _⟩, ⟨_, rfl, .of ?_⟩, ⟨_, rfl, .of ?_⟩, ⟨_, rfl, .refl _⟩, trivial⟩ ⟨.of (z5l _ _ _ _ _), .refl _, trivial⟩ rfl (z1g _ _) (Nat.zero_le _)
   ·show AV.d (eIs (p.getD i (false, [], ())).2.1) = _
    rw [hsi]
   ·show vI .i64 ((((p.getD i (false, [], ())).2.1.map eI).length : Nat) : Int) = _
    rw [hsi, List.length_map]
  ·have hd : (p.getD i (false, [], ())).1 = false := hd
   rw [hsi] at hd
   cases hd
   refine za tabOk Tryz.func40 rfl trivial ?_
   refine zg key hC hCl ⟨⟨_, rfl, .refl _⟩, ⟨_, rfl, .refl _⟩, ⟨_, rfl, .refl _⟩, ⟨_, rfl, .refl _⟩, ⟨_, rfl, .of ?_⟩, ⟨_, rfl, .of ?_⟩, ⟨_, rfl, .refl _⟩, trivial⟩ ⟨.of ?_, .of ?_, trivial⟩ rfl (z1g _ _) (Nat.zero_le _)
   ·show AV.d (eIs (p.getD i (false, [], ())).2.1) = _
    rw [hsi]
   ·show vI .i64 ((((p.getD i (false, [], ())).2.1.map eI).length : Nat) : Int) = _
    rw [hsi, List.length_map]
   ·rw [show T0 ++ delT false = T0 by simp [delT]]
    rfl
   ·rw [show T0 ++ delT false = T0 by simp [delT]]
 have hdl : (delT d).length ≤ 2 := by unfold delT; split <;> simp
 refine zj (α := Nat × Bool) (fun s => [(3, .ptr 0 0), (8, .d (eSps p)), (9, vI .i64 p.length), (10, vI .i64 (i : Int)), (18, .d (eIs c)), (19, vI .i64 c.length), (20, vI .i64 (s.1 : Int))]) (fun s => bldT s.2 (T0 ++ delT d ++ litsT (c.take s.1))) (fun s => s.1 ≤ c.length) (fun s => c.length - s.1) (0, d || a) (Nat.zero_le _) ?_ ?_
 ·refine fun h => zg h hC hCl ⟨⟨_, rfl, .refl _⟩, ⟨_, rfl, .refl _⟩, ⟨_, rfl, .refl _⟩, ⟨_, rfl, .refl _⟩, ⟨_, rfl, .refl _⟩, ⟨_, rfl, .refl _⟩, ⟨_, rfl, .refl _⟩, trivial⟩ ⟨.of ?_, .of ?_, trivial⟩ rfl (z1g _ _) (Nat.zero_le _) <;> simp [litsT]
 rintro ⟨k, a1⟩ hk ih2
 simp only at hk ih2 ⊢
 have hck := hcl k
 have hckm : (c.take k).length * 22 ≤ 1000 * 22 := Nat.mul_le_mul_right _ (by rw [List.length_take]; omega)
 have hsum : (T0 ++ delT d ++ litsT (c.take k)).length ≤ 23000000 := by simp only [List.length_append]; omega
 refine z6 tabOk Tryz.func40 rfl trivial (fun h2 => ?_) (fun h2 => ?_)
 ·have h2 : decide ((k : Int) < (c.length : Int)) = true := h2
  rw [decide_eq_true_eq] at h2
  have hk2 : k < c.length := by omega
  have eg2 : c.getD k 0 = c[k] := by simp [hk2]
  have hx := hc1 _ (List.getElem_mem hk2)
  rw [← eg2] at hx
  refine ze tabOk Tryz.func40 rfl (by simp only [andP, and_true, true_and, Int.toNat_natCast, List.length_map, List.length_append, List.length_cons, List.length_nil, List.length_replicate]; omega) (z3q (c.getD k 0) (by omega) (by omega)) (.refl _) rfl ⟨_, rfl⟩ (by rintro r o rfl; rfl) ?_
  rintro _ o rfl
  have hl1 := zdl (l := c.getD k 0) (by omega) (by omega)
  have e3 : T0 ++ delT d ++ litsT (c.take (k + 1)) = T0 ++ delT d ++ litsT (c.take k) ++ lit1 (c.getD k 0) := by
   rw [List.take_succ_eq_append_getElem hk2, zjw, ← eg2, List.append_assoc (T0 ++ delT d)]
  have hl2 : (tItoa (c.getD k 0)).length + 1 ≤ 22 := by simpa [lit1] using hl1
  refine zm [0, 1] tabOk Tryz.func40 rfl ?nd (z3p a1 (T0 ++ delT d ++ litsT (c.take k)) (lit1 (c.getD k 0)) (by omega) (by omega)) (z3b rfl rfl) ⟨.refl _, .of ?_, trivial⟩ rfl rfl (z1g _ _) ⟨_, rfl⟩ ?_
  case nd =>
   show (tItoa (c.getD k 0)).toArray.size + 1 ≤ 9223372036854775807 ∧ True
   rw [List.size_toArray]
   exact ⟨by omega, trivial⟩
  ·show AV.d (.v (.string ((⟨(tItoa (c.getD k 0)).toArray⟩ : ByteArray) ++ ⟨([32] : List UInt8).toArray⟩))) = _
   rw [z3m]
   rfl
  rintro _ o ⟨rfl, rfl⟩
  refine za tabOk Tryz.func40 rfl trivial ?_
  refine zg (ih2 (k + 1, true) (by simp only; omega) (by simp only; omega)) hC hCl ⟨⟨_, rfl, .refl _⟩, ⟨_, rfl, .refl _⟩, ⟨_, rfl, .refl _⟩, ⟨_, rfl, .refl _⟩, ⟨_, rfl, .refl _⟩, ⟨_, rfl, .refl _⟩, ⟨_, rfl, .of (by rw [zb (by omega) (by omega)]; rfl)⟩, trivial⟩ ⟨.of ?_, .of ?_, trivial⟩ rfl (z1g _ _) (Nat.zero_le _)
  ·show (bld 0 1 true _).ren _ = _
   rw [z5l]
   exact congrArg (bld 0 1 true) e3.symm
  ·exact congrArg gB e3.symm
 ·have h2 : decide ((k : Int) < (c.length : Int)) = false := h2
  rw [decide_eq_false_iff_not] at h2
  obtain rfl : k = c.length := by omega
  rw [List.take_length] at hsum ⊢
  refine zm [0, 1] tabOk Tryz.func40 rfl trivial (z3p a1 (T0 ++ delT d ++ litsT c) [48, 10] (by omega) (by decide)) (z3b rfl rfl) (.refl _) rfl rfl (z1g _ _) ⟨_, rfl⟩ ?_
  rintro _ o ⟨rfl, rfl⟩
  refine za tabOk Tryz.func40 rfl trivial ?_
  have e4 : z1j (p.take (i + 1)) = T0 ++ delT d ++ litsT c ++ [48, 10] := by
   rw [hnext, stepT, ← List.append_assoc, ← List.append_assoc]
  refine zg (ih (i + 1, true) (by simp only; omega) (by simp only; omega)) hC hCl ⟨⟨_, rfl, .refl _⟩, ⟨_, rfl, .refl _⟩, ⟨_, rfl, .refl _⟩, ⟨_, rfl, .of (by rw [zb (by omega) (by omega)]; rfl)⟩, trivial⟩ ⟨.of ?_, .of ?_, trivial⟩ rfl (z1g _ _) (Nat.zero_le _)
  ·show (bld 0 1 true _).ren _ = _
   rw [z5l]
   exact congrArg (bld 0 1 true) e4.symm
  ·exact congrArg gB e4.symm
theorem zil {α : Type} (p : α → Bool) (l : List α) : decide (idP p l ≥ 0) = l.any p := by
 unfold idP
 cases h : l.findIdx? p with
 | none =>
  rw [List.findIdx?_eq_none_iff] at h
  have : l.any p = false := by rw [List.any_eq_false]; intro x hx; rw [h x hx]; decide
  rw [this]
  rfl
 | some i =>
  have h2 := List.findIdx?_eq_some_iff_getElem.1 h
  obtain ⟨h3, h4, _⟩ := h2
  have : l.any p = true := List.any_eq_true.2 ⟨_, List.getElem_mem h3, h4⟩
  rw [this]
  simp
theorem zo5 (g : FuncId) (p : Int → Bool) (n : Int) (l0 : List (List Int)) (l : List Int) (hp : ∀ x ∈ l, ACall Tryz.prog g [vI .i64 x, .ptr 0 0] [some (bCf n l0)] (fun r o => r = vB (p x) ∧ o = [some (bCf n l0)])) :
  ACall Tryz.prog 131 [.d (eIs l), .fn (.func g) [.ptr 0 0]] [some (bCf n l0)] (fun r o => r = vI .i64 (idP p l) ∧ o = [some (bCf n l0)]) := by
 refine z8 Tryz.func131 rfl rfl (Nat.le_of_ble_eq_true rfl) fun C hC hCl hDs hGk => ?_
 refine z4b (t := 0) rfl fun hlen => ?_
 rw [List.length_map] at hlen
 refine za tabOk Tryz.func131 rfl trivial ?_
 refine zj (α := Nat) (fun i => [(0, .d (eIs l)), (1, .fn (.func g) [.ptr 0 0]), (7, vI .i64 l.length), (8, vI .i64 (i : Int))]) (fun i => [some (bCf n l0)]) (fun i => i ≤ l.length ∧ ∀ q (hq : q < l.length), q < i → p l[q] = false) (fun i => l.length - i) 0 ⟨Nat.zero_le _, fun q _ h => absurd h (Nat.not_lt_zero q)⟩ ?_ ?_
 ·exact fun h => zg h hC hCl ⟨⟨_, rfl, .refl _⟩, ⟨_, rfl, .refl _⟩, ⟨_, rfl, .of (by rw [List.length_map])⟩, ⟨_, rfl, .refl _⟩, trivial⟩ ⟨.refl _, trivial⟩ rfl rfl (Nat.le_refl _)
 rintro i ⟨hi, hno⟩ ih
 refine z6 tabOk Tryz.func131 rfl trivial (fun h => ?_) (fun h => ?_)
 ·have h : decide ((i : Int) < (l.length : Int)) = true := h
  rw [decide_eq_true_eq] at h
  have hlt : i < l.length := by omega
  have eg : l.getD i 0 = l[i] := by simp [hlt]
  refine zm [0] tabOk Tryz.func131 rfl (by simp only [andP, and_true, true_and, Int.toNat_natCast, List.length_map, List.length_append, List.length_cons, List.length_nil, List.length_replicate]; omega) (hp (l.getD i 0) (by rw [eg]; exact List.getElem_mem hlt)) ⟨⟨_, rfl, .refl _⟩, trivial⟩ (.refl _) rfl rfl rfl ⟨_, rfl⟩ ?_
  rintro r o ⟨rfl, rfl⟩
  refine z6 tabOk Tryz.func131 rfl trivial (fun h2 => ?_) (fun h2 => ?_)
  ·have h2 : p (l.getD i 0) = true := h2
   rw [eg] at h2
   refine zp tabOk Tryz.func131 rfl trivial hC hCl (.of ?_) (o2 := [some (bCf n l0)]) ⟨.refl _, trivial⟩ rfl rfl (Nat.le_refl _) ⟨rfl, rfl⟩
   rw [z84 hlt h2 hno]
   rfl
  ·have h2 : p (l.getD i 0) = false := h2
   rw [eg] at h2
   refine za tabOk Tryz.func131 rfl trivial ?_
   refine zg (ih (i + 1) ⟨by omega, fun q hq hqi => ?_⟩ (by omega)) hC hCl ⟨⟨_, rfl, .refl _⟩, ⟨_, rfl, .refl _⟩, ⟨_, rfl, .refl _⟩, ⟨_, rfl, .of (by rw [zb (by omega) (by omega)]; rfl)⟩, trivial⟩ ⟨.refl _, trivial⟩ rfl rfl (Nat.le_refl _)
   rcases Nat.lt_or_ge q i with h3 | h3
   ·exact hno q hq h3
   ·obtain rfl : q = i := by omega
    exact h2
 ·have h : decide ((i : Int) < (l.length : Int)) = false := h
  rw [decide_eq_false_iff_not] at h
  obtain rfl : i = l.length := by omega
  refine z7 tabOk Tryz.func131 rfl trivial ⟨?_, rfl⟩
  rw [z85 fun q hq => hno q hq hq]
  rfl
theorem zoc (g : FuncId) (p : Int → Bool) (n : Int) (l0 : List (List Int)) (l : List Int) (hp : ∀ x ∈ l, ACall Tryz.prog g [vI .i64 x, .ptr 0 0] [some (bCf n l0)] (fun r o => r = vB (p x) ∧ o = [some (bCf n l0)])) :
  ACall Tryz.prog 91 [.d (eIs l), .fn (.func g) [.ptr 0 0]] [some (bCf n l0)] (fun r o => r = vB (l.any p) ∧ o = [some (bCf n l0)]) := by
 refine z8 Tryz.func91 rfl rfl (Nat.le_of_ble_eq_true rfl) fun C hC hCl hDs hGk => ?_
 refine zm [0] tabOk Tryz.func91 rfl trivial (zo5 g p n l0 l hp) ⟨⟨_, rfl, .refl _⟩, trivial⟩ (.refl _) rfl rfl rfl ⟨_, rfl⟩ ?_
 rintro r o ⟨rfl, rfl⟩
 refine zp tabOk Tryz.func91 rfl trivial hC hCl (.of ?_) (o2 := [some (bCf n l0)]) ⟨.refl _, trivial⟩ rfl rfl (Nat.le_refl _) ⟨rfl, rfl⟩
 show vB (decide (idP p l ≥ 0)) = _
 rw [zil]
def badL (n x : Int) : Bool := decide (x = 0 ∨ x > n ∨ x < -n)
theorem zg0 (n x : Int) (l0 : List (List Int)) (hn : 0 ≤ n ∧ n ≤ 100000) : ACall Tryz.prog 112 [vI .i64 x, .ptr 0 0] [some (bCf n l0)] (fun r o => r = vB (badL n x) ∧ o = [some (bCf n l0)]) := by
 refine z8 Tryz.func112 rfl rfl (Nat.le_of_ble_eq_true rfl) fun C hC hCl hDs hGk => ?_
 have fin : ∀ b, b = badL n x → Less C.objs.length (fun r o => r = vB (badL n x) ∧ o = [some (bCf n l0)]) (vB b) [some (bCf n l0)] := by
  rintro b rfl
  exact ⟨_, _, ⟨rfl, rfl⟩, .refl _, ⟨.refl _, trivial⟩, rfl, rfl, by rw [hC]; exact Nat.le_refl _⟩
 refine zg7 hCl (R1 := fun r o => ∃ b, b = badL n x ∧ r = vB b ∧ o = [some (bCf n l0)]) ?_ (by rintro r o ⟨b, hb, rfl, rfl⟩; exact fin b hb)
 refine z6 tabOk Tryz.func112 rfl trivial (fun h => ?_) (fun h => ?_)
 ·have h : (x == 0) = true := h
  rw [beq_iff_eq] at h
  refine z6 tabOk Tryz.func112 rfl trivial (fun _ => ?_) (fun h => by cases h)
  exact z7 tabOk Tryz.func112 rfl trivial ⟨_, by simp [badL, h], rfl, rfl⟩
 have h : (x == 0) = false := h
 rw [beq_eq_false_iff_ne] at h
 refine z6 tabOk Tryz.func112 rfl trivial (fun h2 => ?_) (fun h2 => ?_)
 ·have h2 : decide (x > n) = true := h2
  rw [decide_eq_true_eq] at h2
  exact z7 tabOk Tryz.func112 rfl trivial ⟨_, by simp [badL, h2], rfl, rfl⟩
 have h2 : decide (x > n) = false := h2
 rw [decide_eq_false_iff_not] at h2
 refine z7 tabOk Tryz.func112 rfl trivial ⟨_, ?_, rfl, rfl⟩
 have e : IntKind.i64.wrap (0 - n) = -n := by rw [zb (by omega) (by omega)]; omega
 show decide (x < IntKind.i64.wrap (0 - n)) = _
 rw [e]
 simp [badL, h, h2]
@[reducible] def bFn1 : AObj := .cells 154 [.fn (.func 112) [.ptr 0 0]]
@[reducible] def crO (n : Int) (l0 : List (List Int)) : List (Option AObj) := [some (bCf n l0), some bFn1]
theorem zqu (n x : Int) : badL n x = !decide (litOk n x) := by
 by_cases h : litOk n x
 ·rw [decide_eq_true h]
  unfold litOk at h
  simp only [badL, Bool.not_true, decide_eq_false_iff_not]
  omega
 ·rw [decide_eq_false h]
  unfold litOk at h
  simp only [badL, Bool.not_false, decide_eq_true_eq]
  omega
theorem zqv (n : Int) (c : List Int) : (decide ((c.length : Int) > 1000) || c.any (badL n)) = !clOk n c := by
 have h1 : c.any (badL n) = !c.all (fun x => decide (litOk n x)) := by
  induction c with
  | nil => rfl
  | cons x r ih => simp only [List.any_cons, List.all_cons, ih, zqu, Bool.not_and]
 have h2 : decide ((c.length : Int) > 1000) = !decide (c.length ≤ 1000) := by
  by_cases h : c.length ≤ 1000
  ·rw [decide_eq_true h, decide_eq_false (by omega)]; rfl
  ·rw [decide_eq_false h, decide_eq_true (by omega)]; rfl
 rw [h1, h2, clOk, Bool.not_and]
theorem zfz (n : Int) (l0 : List (List Int)) (c : List Int) (hn : 0 ≤ n ∧ n ≤ 100000) : ACall Tryz.prog 113 [.d (eIs c), .ptr 1 0] (crO n l0) (fun r o => r = vB (!clOk n c) ∧ o = crO n l0) := by
 refine z8 Tryz.func113 rfl rfl (Nat.le_of_ble_eq_true rfl) fun C hC hCl hDs hGk => ?_
 rw [← zqv]
 refine z6 tabOk Tryz.func113 rfl trivial (fun h => ?_) (fun h => ?_)
 ·have h : decide ((((c.map eI).length : Nat) : Int) > 1000) = true := h
  rw [List.length_map] at h
  rw [h]
  exact z7 tabOk Tryz.func113 rfl trivial ⟨rfl, rfl⟩
 ·have h : decide ((((c.map eI).length : Nat) : Int) > 1000) = false := h
  rw [List.length_map] at h
  refine zm [0] tabOk Tryz.func113 rfl trivial (zoc 112 (badL n) n l0 c fun x _ => zg0 n x l0 hn) ⟨⟨_, rfl, .refl _⟩, trivial⟩ (.refl _) rfl rfl rfl ⟨_, rfl⟩ ?_
  rintro r o ⟨rfl, rfl⟩
  rw [h, Bool.false_or]
  exact z7 tabOk Tryz.func113 rfl trivial ⟨rfl, rfl⟩
theorem zo7 (n : Int) (l0 : List (List Int)) (g : FuncId) (p : List Int → Bool) (l : List (List Int)) (hp : ∀ x ∈ l, ACall Tryz.prog g [.d (eIs x), .ptr 1 0] (crO n l0) (fun r o => r = vB (p x) ∧ o = (crO n l0))) :
  ACall Tryz.prog 146 [.d (eIss l), .fn (.func g) [.ptr 1 0]] (crO n l0) (fun r o => r = vI .i64 (idP p l) ∧ o = (crO n l0)) := by
 refine z8 Tryz.func146 rfl rfl (Nat.le_of_ble_eq_true rfl) fun C hC hCl hDs hGk => ?_
 refine z4b (t := 0) rfl fun hlen => ?_
 rw [List.length_map] at hlen
 refine za tabOk Tryz.func146 rfl trivial ?_
 refine zj (α := Nat) (fun i => [(0, .d (eIss l)), (1, .fn (.func g) [.ptr 1 0]), (7, vI .i64 l.length), (8, vI .i64 (i : Int))]) (fun i => (crO n l0)) (fun i => i ≤ l.length ∧ ∀ q (hq : q < l.length), q < i → p l[q] = false) (fun i => l.length - i) 0 ⟨Nat.zero_le _, fun q _ h => absurd h (Nat.not_lt_zero q)⟩ ?_ ?_
 ·exact fun h => zg h hC hCl ⟨⟨_, rfl, .refl _⟩, ⟨_, rfl, .refl _⟩, ⟨_, rfl, .of (by rw [List.length_map])⟩, ⟨_, rfl, .refl _⟩, trivial⟩ ⟨.refl _, .refl _, trivial⟩ rfl rfl (Nat.le_refl _)
 rintro i ⟨hi, hno⟩ ih
 refine z6 tabOk Tryz.func146 rfl trivial (fun h => ?_) (fun h => ?_)
 ·have h : decide ((i : Int) < (l.length : Int)) = true := h
  rw [decide_eq_true_eq] at h
  have hlt : i < l.length := by omega
  have eg : l.getD i [] = l[i] := by simp [hlt]
  refine zm [0, 1] tabOk Tryz.func146 rfl (by simp only [andP, and_true, true_and, Int.toNat_natCast, List.length_map, List.length_append, List.length_cons, List.length_nil, List.length_replicate]; omega) (hp (l.getD i []) (by rw [eg]; exact List.getElem_mem hlt)) ⟨⟨_, rfl, .refl _⟩, ⟨_, rfl, .refl _⟩, trivial⟩ (.refl _) rfl rfl rfl ⟨_, rfl⟩ ?_
  rintro r o ⟨rfl, rfl⟩
  refine z6 tabOk Tryz.func146 rfl trivial (fun h2 => ?_) (fun h2 => ?_)
  ·have h2 : p (l.getD i []) = true := h2
   rw [eg] at h2
   refine zp tabOk Tryz.func146 rfl trivial hC hCl (.of ?_) (o2 := (crO n l0)) ⟨.refl _, .refl _, trivial⟩ rfl rfl (Nat.le_refl _) ⟨rfl, rfl⟩
   rw [z84 hlt h2 hno]
   rfl
  ·have h2 : p (l.getD i []) = false := h2
   rw [eg] at h2
   refine za tabOk Tryz.func146 rfl trivial ?_
   refine zg (ih (i + 1) ⟨by omega, fun q hq hqi => ?_⟩ (by omega)) hC hCl ⟨⟨_, rfl, .refl _⟩, ⟨_, rfl, .refl _⟩, ⟨_, rfl, .refl _⟩, ⟨_, rfl, .of (by rw [zb (by omega) (by omega)]; rfl)⟩, trivial⟩ ⟨.refl _, .refl _, trivial⟩ rfl rfl (Nat.le_refl _)
   rcases Nat.lt_or_ge q i with h3 | h3
   ·exact hno q hq h3
   ·obtain rfl : q = i := by omega
    exact h2
 ·have h : decide ((i : Int) < (l.length : Int)) = false := h
  rw [decide_eq_false_iff_not] at h
  obtain rfl : i = l.length := by omega
  refine z7 tabOk Tryz.func146 rfl trivial ⟨?_, rfl⟩
  rw [z85 fun q hq => hno q hq hq]
  rfl
theorem zod (n : Int) (l0 : List (List Int)) (g : FuncId) (p : List Int → Bool) (l : List (List Int)) (hp : ∀ x ∈ l, ACall Tryz.prog g [.d (eIs x), .ptr 1 0] (crO n l0) (fun r o => r = vB (p x) ∧ o = (crO n l0))) :
  ACall Tryz.prog 114 [.d (eIss l), .fn (.func g) [.ptr 1 0]] (crO n l0) (fun r o => r = vB (l.any p) ∧ o = (crO n l0)) := by
 refine z8 Tryz.func114 rfl rfl (Nat.le_of_ble_eq_true rfl) fun C hC hCl hDs hGk => ?_
 refine zm [0, 1] tabOk Tryz.func114 rfl trivial (zo7 n l0 g p l hp) ⟨⟨_, rfl, .refl _⟩, ⟨_, rfl, .refl _⟩, trivial⟩ (.refl _) rfl rfl rfl ⟨_, rfl⟩ ?_
 rintro r o ⟨rfl, rfl⟩
 refine zp tabOk Tryz.func114 rfl trivial hC hCl (.of ?_) (o2 := (crO n l0)) ⟨.refl _, .refl _, trivial⟩ rfl rfl (Nat.le_refl _) ⟨rfl, rfl⟩
 show vB (decide (idP p l ≥ 0)) = _
 rw [zil]
theorem zqw (n : Int) (l : List (List Int)) : (!l.any fun c => !clOk n c) = l.all (clOk n) := by
 induction l with
 | nil => rfl
 | cons c r ih => simp only [List.any_cons, List.all_cons, Bool.not_or, Bool.not_not, ih]
theorem z5k (n : Int) (l : List (List Int)) (hn : 0 ≤ n ∧ n ≤ 100000) (hl : l.length ≤ 20000) : ACall Tryz.prog 67 [.d (eCnf n l)] [] (fun r o => r = vB (l.all (clOk n))) := by
 refine z8 Tryz.func67 rfl rfl (Nat.le_of_ble_eq_true rfl) fun C hC hCl hDs hGk => ?_
 refine z6 tabOk Tryz.func67 rfl trivial (fun h1 => ?_) (fun h1 => ?_)
 rotate_left
 ·have h1 : decide (n ≥ 0) = false := h1
  rw [decide_eq_false_iff_not] at h1
  omega
 refine z6 tabOk Tryz.func67 rfl trivial (fun h2 => ?_) (fun h2 => ?_)
 rotate_left
 ·have h2 : decide (n ≤ 100000) = false := h2
  rw [decide_eq_false_iff_not] at h2
  omega
 refine z6 tabOk Tryz.func67 rfl trivial (fun h3 => ?_) (fun h3 => ?_)
 rotate_left
 ·have h3 : decide ((((l.map eIs).length : Nat) : Int) ≤ 20000) = false := h3
  rw [decide_eq_false_iff_not, List.length_map] at h3
  omega
 refine zm [0, 1] tabOk Tryz.func67 rfl trivial (zod n l 113 (fun c => !clOk n c) l fun c _ => zfz n l c hn) ⟨⟨_, rfl, .refl _⟩, ⟨_, rfl, .refl _⟩, trivial⟩ (.refl _) rfl rfl rfl ⟨_, rfl⟩ ?_
 rintro r o ⟨rfl, rfl⟩
 refine z7 tabOk Tryz.func67 rfl trivial ?_
 rw [← zqw]
 rfl
@[reducible] def bN (n : Int) : AObj := .cells 3 [vI .i64 n]
theorem zfv (n : Int) (s : Sp) (hn : 0 ≤ n ∧ n ≤ 100000) : ACall Tryz.prog 94 [.d (eSp s), .ptr 0 0] [some (bN n)] (fun r o => r = vB (!clOk n s.2.1) ∧ o = [some (bN n)]) := by
 refine z8 Tryz.func94 rfl rfl (Nat.le_of_ble_eq_true rfl) fun C hC hCl hDs hGk => ?_
 refine ze tabOk Tryz.func94 rfl trivial (z5k n [s.2.1] hn (by simp)) ⟨?_, trivial⟩ rfl ⟨_, rfl⟩ (by rintro r o rfl; rfl) ?_
 ·show VLe (.d (.ag [eI n, .sl 1 [eIs s.2.1] (litRd [eIs s.2.1])])) _
  exact VLe.dag ⟨.refl _, DLe.eL rfl, trivial⟩
 rintro _ o rfl
 refine zp tabOk Tryz.func94 rfl trivial hC hCl (.of ?_) (o2 := [some (bN n)]) ⟨.refl _, trivial⟩ rfl rfl (Nat.le_refl _) ⟨rfl, rfl⟩
 simp only [List.all_cons, List.all_nil, Bool.and_true]
 rfl
theorem zo4 (n : Int) (g : FuncId) (p : Sp → Bool) (l : List (Sp)) (hp : ∀ x ∈ l, ACall Tryz.prog g [.d (eSp x), .ptr 0 0] [some (bN n)] (fun r o => r = vB (p x) ∧ o = [some (bN n)])) :
  ACall Tryz.prog 135 [.d (eSps l), .fn (.func g) [.ptr 0 0]] [some (bN n)] (fun r o => r = vI .i64 (idP p l) ∧ o = [some (bN n)]) := by
 refine z8 Tryz.func135 rfl rfl (Nat.le_of_ble_eq_true rfl) fun C hC hCl hDs hGk => ?_
 refine z4b (t := 0) rfl fun hlen => ?_
 rw [List.length_map] at hlen
 refine za tabOk Tryz.func135 rfl trivial ?_
 refine zj (α := Nat) (fun i => [(0, .d (eSps l)), (1, .fn (.func g) [.ptr 0 0]), (7, vI .i64 l.length), (8, vI .i64 (i : Int))]) (fun i => [some (bN n)]) (fun i => i ≤ l.length ∧ ∀ q (hq : q < l.length), q < i → p l[q] = false) (fun i => l.length - i) 0 ⟨Nat.zero_le _, fun q _ h => absurd h (Nat.not_lt_zero q)⟩ ?_ ?_
 ·exact fun h => zg h hC hCl ⟨⟨_, rfl, .refl _⟩, ⟨_, rfl, .refl _⟩, ⟨_, rfl, .of (by rw [List.length_map])⟩, ⟨_, rfl, .refl _⟩, trivial⟩ ⟨.refl _, trivial⟩ rfl rfl (Nat.le_refl _)
 rintro i ⟨hi, hno⟩ ih
 refine z6 tabOk Tryz.func135 rfl trivial (fun h => ?_) (fun h => ?_)
 ·have h : decide ((i : Int) < (l.length : Int)) = true := h
  rw [decide_eq_true_eq] at h
  have hlt : i < l.length := by omega
  have eg : l.getD i (false, [], ()) = l[i] := by simp [hlt]
  refine zm [0] tabOk Tryz.func135 rfl (by simp only [andP, and_true, true_and, Int.toNat_natCast, List.length_map, List.length_append, List.length_cons, List.length_nil, List.length_replicate]; omega) (hp (l.getD i (false, [], ())) (by rw [eg]; exact List.getElem_mem hlt)) ⟨⟨_, rfl, .refl _⟩, trivial⟩ (.refl _) rfl rfl rfl ⟨_, rfl⟩ ?_
  rintro r o ⟨rfl, rfl⟩
  refine z6 tabOk Tryz.func135 rfl trivial (fun h2 => ?_) (fun h2 => ?_)
  ·have h2 : p (l.getD i (false, [], ())) = true := h2
   rw [eg] at h2
   refine zp tabOk Tryz.func135 rfl trivial hC hCl (.of ?_) (o2 := [some (bN n)]) ⟨.refl _, trivial⟩ rfl rfl (Nat.le_refl _) ⟨rfl, rfl⟩
   rw [z84 hlt h2 hno]
   rfl
  ·have h2 : p (l.getD i (false, [], ())) = false := h2
   rw [eg] at h2
   refine za tabOk Tryz.func135 rfl trivial ?_
   refine zg (ih (i + 1) ⟨by omega, fun q hq hqi => ?_⟩ (by omega)) hC hCl ⟨⟨_, rfl, .refl _⟩, ⟨_, rfl, .refl _⟩, ⟨_, rfl, .refl _⟩, ⟨_, rfl, .of (by rw [zb (by omega) (by omega)]; rfl)⟩, trivial⟩ ⟨.refl _, trivial⟩ rfl rfl (Nat.le_refl _)
   rcases Nat.lt_or_ge q i with h3 | h3
   ·exact hno q hq h3
   ·obtain rfl : q = i := by omega
    exact h2
 ·have h : decide ((i : Int) < (l.length : Int)) = false := h
  rw [decide_eq_false_iff_not] at h
  obtain rfl : i = l.length := by omega
  refine z7 tabOk Tryz.func135 rfl trivial ⟨?_, rfl⟩
  rw [z85 fun q hq => hno q hq hq]
  rfl
theorem zob (n : Int) (g : FuncId) (p : Sp → Bool) (l : List (Sp)) (hp : ∀ x ∈ l, ACall Tryz.prog g [.d (eSp x), .ptr 0 0] [some (bN n)] (fun r o => r = vB (p x) ∧ o = [some (bN n)])) :
  ACall Tryz.prog 95 [.d (eSps l), .fn (.func g) [.ptr 0 0]] [some (bN n)] (fun r o => r = vB (l.any p) ∧ o = [some (bN n)]) := by
 refine z8 Tryz.func95 rfl rfl (Nat.le_of_ble_eq_true rfl) fun C hC hCl hDs hGk => ?_
 refine zm [0] tabOk Tryz.func95 rfl trivial (zo4 n g p l hp) ⟨⟨_, rfl, .refl _⟩, trivial⟩ (.refl _) rfl rfl rfl ⟨_, rfl⟩ ?_
 rintro r o ⟨rfl, rfl⟩
 refine zp tabOk Tryz.func95 rfl trivial hC hCl (.of ?_) (o2 := [some (bN n)]) ⟨.refl _, trivial⟩ rfl rfl (Nat.le_refl _) ⟨rfl, rfl⟩
 show vB (decide (idP p l ≥ 0)) = _
 rw [zil]
theorem zpl (n : Int) (l : List Sp) : (!l.any fun s => !clOk n s.2.1) = l.all (fun s => clOk n s.2.1) := by
 induction l with
 | nil => rfl
 | cons c r ih => simp only [List.any_cons, List.all_cons, Bool.not_or, Bool.not_not, ih]
theorem z7m (n : Int) (p : List Sp) (hn : 0 ≤ n ∧ n ≤ 100000) (hl : p.length ≤ 20000) : ACall Tryz.prog 50 [vI .i64 n, .d (eSps p)] [] (fun r o => r = vB (p.all (fun s => clOk n s.2.1))) := by
 refine z8 Tryz.func50 rfl rfl (Nat.le_of_ble_eq_true rfl) fun C hC hCl hDs hGk => ?_
 refine z6 tabOk Tryz.func50 rfl trivial (fun h1 => ?_) (fun h1 => ?_)
 rotate_left
 ·have h1 : decide (n ≥ 0) = false := h1
  rw [decide_eq_false_iff_not] at h1
  omega
 refine z6 tabOk Tryz.func50 rfl trivial (fun h2 => ?_) (fun h2 => ?_)
 rotate_left
 ·have h2 : decide (n ≤ 100000) = false := h2
  rw [decide_eq_false_iff_not] at h2
  omega
 refine z6 tabOk Tryz.func50 rfl trivial (fun h3 => ?_) (fun h3 => ?_)
 rotate_left
 ·have h3 : decide ((((p.map eSp).length : Nat) : Int) ≤ 20000) = false := h3
  rw [decide_eq_false_iff_not, List.length_map] at h3
  omega
 refine zm [0] tabOk Tryz.func50 rfl trivial (zob n 94 (fun s => !clOk n s.2.1) p fun s _ => zfv n s hn) ⟨⟨_, rfl, .refl _⟩, trivial⟩ (.refl _) rfl rfl rfl ⟨_, rfl⟩ ?_
 rintro r o ⟨rfl, rfl⟩
 refine z7 tabOk Tryz.func50 rfl trivial ?_
 rw [← zpl]
 rfl
def zc2 (p : List Sp) (m : Int) : Bool := decide ((p.length : Int) ≤ m) && p.all (fun s => decide ((s.2.1.length : Int) ≤ m))
def z34 (n : Int) (p : List Sp) : Bool := decide (0 ≤ n ∧ n ≤ 100000 ∧ p.length ≤ 20000) && p.all (fun s => clOk n s.2.1)
end Go.Proofs.YtkemmijjpclckaaGreatDoor
