/- A part of the proof. -/
import Derived.Test.YtkemmijjpclckaaGreatDoorP15
set_option linter.unusedVariables false
set_option linter.unusedSimpArgs false
set_option linter.unusedSectionVars false
set_option maxRecDepth 100000
set_option maxHeartbeats 8000000
namespace Go.Proofs.YtkemmijjpclckaaGreatDoor
open Go Ab
abbrev P2 := Int × Int
structure Ag where
 i : Int
 l : List P2
 g : List P2
 outs : List Int
 bad : List Int
 con : List Int
 names : List (UInt8 × Int × List UInt8)
 deriving Inhabited
def litB (v : List Bool) (l : Int) : Bool := if l < 0 ∨ (v.length : Int) ≤ l / 2 then false else if l % 2 = 1 then !(v.getD (l / 2).toNat false) else v.getD (l / 2).toNat false
def valG : List P2 → List Bool → List Bool
 | [], v => v
 | p :: r, v => valG r (v ++ [litB v p.1 && litB v p.2])
theorem zje : ∀ (g h : List P2) (v : List Bool), valG (g ++ h) v = valG h (valG g v)
 | [], h, v => rfl
 | p :: g, h, v => zje g h _
theorem zdw : ∀ (g : List P2) (v : List Bool), (valG g v).length = v.length + g.length
 | [], v => rfl
 | p :: g, v => by rw [valG, zdw g, List.length_append, List.length_cons]; simp; omega
theorem zdv : ∀ (g : List P2) (v : List Bool), ∃ t, valG g v = v ++ t
 | [], v => ⟨[], by simp [valG]⟩
 | p :: g, v => by
  obtain ⟨t, h⟩ := zdv g (v ++ [litB v p.1 && litB v p.2])
  exact ⟨_, by rw [valG, h, List.append_assoc]⟩
theorem z75 {α : Type} {v t : List α} {j : Nat} (d : α) (h : j < v.length) : (v ++ t).getD j d = v.getD j d := by
 simp only [List.getD_eq_getElem?_getD, List.getElem?_append_left h]
theorem zek {v t : List Bool} {l : Int} (h : l / 2 < v.length) : litB (v ++ t) l = litB v l := by
 unfold litB
 by_cases h0 : l < 0
 ·rw [if_pos (.inl h0), if_pos (.inl h0)]
 ·have e1 : ¬ (l < 0 ∨ ((v ++ t).length : Int) ≤ l / 2) := by rw [List.length_append]; omega
  have e2 : ¬ (l < 0 ∨ (v.length : Int) ≤ l / 2) := by omega
  rw [if_neg e1, if_neg e2, z75 false (by omega)]
theorem zbt {g : List P2} {v : List Bool} {l : Int} (h : l / 2 < v.length) : litB (valG g v) l = litB v l := by
 obtain ⟨t, ht⟩ := zdv g v
 rw [ht, zek h]
def GOkF : Nat → List P2 → Prop
 | _, [] => True
 | v, p :: r => (0 ≤ p.2 ∧ p.2 ≤ p.1 ∧ p.1 < 2 * (v : Int)) ∧ GOkF (v + 1) r
def litF (n k : Nat) (l : Int) : Int := if l % 2 = 1 then -((k : Int) * ((n : Int) + 1) + l / 2 + 1) else (k : Int) * ((n : Int) + 1) + l / 2 + 1
def turnL (l : Int) : Int := if l % 2 = 1 then l - 1 else l + 1
theorem z5d (n k : Nat) (l : Int) : litF n k (turnL l) = -litF n k l := by
 unfold litF turnL
 by_cases h : l % 2 = 1
 ·rw [if_pos h, if_neg (by omega), if_pos h, Int.neg_neg]
  have : (l - 1) / 2 = l / 2 := by omega
  rw [this]
 ·rw [if_neg h, if_pos (by omega), if_neg h]
  have : (l + 1) / 2 = l / 2 := by omega
  rw [this]
def gatesF (n k : Nat) : Nat → List P2 → List (List Int)
 | _, [] => []
 | v, p :: r => [-litF n k (2 * (v : Int)), litF n k p.1] :: [-litF n k (2 * (v : Int)), litF n k p.2] :: [litF n k (2 * (v : Int)), -litF n k p.1, -litF n k p.2] :: gatesF n k (v + 1) r
def zz (n k b : Nat) (g : List P2) : List (List Int) := [-litF n k 0] :: gatesF n k (b + 1) g
def z1g (n : Nat) : Nat → List P2 → List (List Int)
 | _, [] => []
 | v, p :: r => (if p.2 = 0 then [[-litF n 0 (2 * (v : Int))]] else if p.2 = 1 then [[litF n 0 (2 * (v : Int))]] else []) ++ z1g n (v + 1) r
def linkF (n : Nat) : Nat → List P2 → List (List Int)
 | _, [] => []
 | v, p :: r => [-litF n 1 (2 * (v : Int)), litF n 0 p.1] :: [litF n 1 (2 * (v : Int)), -litF n 0 p.1] :: linkF n (v + 1) r
def consF (n : Nat) (c : List Int) : List (List Int) := c.map fun l => [litF n 0 l]
structure SimF (m : List Bool) (n k : Nat) (V : List Bool) : Prop where
 len : V.length = n + 1
 fit : (k + 1) * (n + 1) ≤ m.length
 get : ∀ j, j < n + 1 → m.getD (k * (n + 1) + j) false = V.getD j false
theorem SimF.lit {m V : List Bool} {n k : Nat} (h : SimF m n k V) {l : Int} (h0 : 0 ≤ l) (h1 : l ≤ 2 * (n : Int) + 1) : (litB V l = true → litT m (litF n k l)) ∧ (litB V l = false → litT m (-litF n k l)) := by
 have hj : (l / 2).toNat < n + 1 := by omega
 have hg := h.get _ hj
 have hm : k * (n + 1) + (l / 2).toNat < m.length := by
  have := h.fit
  rw [Nat.add_mul, Nat.one_mul] at this
  omega
 have hc : ((k * (n + 1) + (l / 2).toNat : Nat) : Int) = (k : Int) * ((n : Int) + 1) + l / 2 := by
  rw [Int.natCast_add, Int.natCast_mul, Int.natCast_add]
  have : (((l / 2).toNat : Nat) : Int) = l / 2 := by omega
  rw [this]
  rfl
 unfold litB litF
 rw [if_neg (by have := h.len; omega), ← hc]
 by_cases hp : l % 2 = 1
 ·rw [if_pos hp, if_pos hp]
  constructor
  ·intro hb
   rw [Bool.not_eq_true'] at hb
   exact ⟨_, hm, .inr ⟨by rw [hg]; exact hb, by omega⟩⟩
  ·intro hb
   rw [Bool.not_eq_false'] at hb
   exact ⟨_, hm, .inl ⟨by rw [hg]; exact hb, by omega⟩⟩
 ·rw [if_neg hp, if_neg hp]
  constructor
  ·intro hb
   exact ⟨_, hm, .inl ⟨by rw [hg]; exact hb, by omega⟩⟩
  ·intro hb
   exact ⟨_, hm, .inr ⟨by rw [hg]; exact hb, by omega⟩⟩
theorem SimF.or {m V : List Bool} {n k : Nat} (h : SimF m n k V) {l : Int} (h0 : 0 ≤ l) (h1 : l ≤ 2 * (n : Int) + 1) : (litB V l = true ∧ litT m (litF n k l)) ∨ (litB V l = false ∧ litT m (-litF n k l)) := by
 cases hb : litB V l with
 | true => exact .inl ⟨rfl, (h.lit h0 h1).1 hb⟩
 | false => exact .inr ⟨rfl, (h.lit h0 h1).2 hb⟩
theorem zge {V : List Bool} {v : Nat} (h : v < V.length) : litB V (2 * (v : Int)) = V.getD v false := by
 unfold litB
 rw [if_neg (by omega), if_neg (by omega)]
 have : (2 * (v : Int) / 2).toNat = v := by omega
 rw [this]
theorem zdj {m : List Bool} {n k : Nat} {V : List Bool} (h : SimF m n k V) : ∀ (g : List P2) (v : List Bool), valG g v = V → GOkF v.length g → z4o (gatesF n k v.length g) m
 | [], v, _, _ => fun c hc => by cases hc
 | p :: g, v, hV, hg => by
  obtain ⟨⟨g1, g2, g3⟩, hg'⟩ := hg
  have hlen := zdw (p :: g) v
  rw [hV, h.len, List.length_cons] at hlen
  have hn : v.length ≤ n := by omega
  have hpre := zdv g (v ++ [litB v p.1 && litB v p.2])
  obtain ⟨t, ht⟩ := hpre
  rw [valG] at hV
  rw [ht] at hV
  have e1 : litB V p.1 = litB v p.1 := by rw [← hV, List.append_assoc]; exact zek (by omega)
  have e2 : litB V p.2 = litB v p.2 := by rw [← hV, List.append_assoc]; exact zek (by omega)
  have e3 : litB V (2 * (v.length : Int)) = (litB v p.1 && litB v p.2) := by
   rw [zge (by rw [h.len]; omega), ← hV, List.append_assoc]
   simp [List.getD_eq_getElem?_getD]
  have o1 := h.or (l := p.1) (by omega) (by omega)
  have o2 := h.or (l := p.2) (by omega) (by omega)
  have o3 := h.or (l := 2 * (v.length : Int)) (by omega) (by omega)
  rw [e1] at o1
  rw [e2] at o2
  rw [e3] at o3
  have ih := zdj h g (v ++ [litB v p.1 && litB v p.2]) (by rw [ht, hV]) (by rw [List.length_append]; exact hg')
  rw [List.length_append, List.length_singleton] at ih
  intro c hc
  rw [gatesF, List.mem_cons, List.mem_cons, List.mem_cons] at hc
  rcases hc with rfl | rfl | rfl | hc
  ·rcases o3 with ⟨b3, t3⟩ | ⟨b3, t3⟩
   ·rw [Bool.and_eq_true] at b3
    rcases o1 with ⟨b1, t1⟩ | ⟨b1, t1⟩
    ·exact ⟨_, by simp, t1⟩
    ·rw [b1] at b3
     exact absurd b3.1 (by decide)
   ·exact ⟨_, by simp, t3⟩
  ·rcases o3 with ⟨b3, t3⟩ | ⟨b3, t3⟩
   ·rw [Bool.and_eq_true] at b3
    rcases o2 with ⟨b1, t1⟩ | ⟨b1, t1⟩
    ·exact ⟨_, by simp, t1⟩
    ·rw [b1] at b3
     exact absurd b3.2 (by decide)
   ·exact ⟨_, by simp, t3⟩
  ·rcases o1 with ⟨b1, t1⟩ | ⟨b1, t1⟩
   ·rcases o2 with ⟨b2, t2⟩ | ⟨b2, t2⟩
    ·rcases o3 with ⟨b3, t3⟩ | ⟨b3, t3⟩
     ·exact ⟨_, by simp, t3⟩
     ·rw [b1, b2] at b3
      cases b3
    ·exact ⟨_, by simp, t2⟩
   ·exact ⟨_, by simp, t1⟩
  ·exact ih c hc
def valA (g : List P2) (inp st : List Bool) : List Bool := valG g (false :: (inp ++ st))
theorem z5o (g : List P2) (inp st : List Bool) : (valA g inp st).length = inp.length + st.length + g.length + 1 := by
 unfold valA
 rw [zdw, List.length_cons, List.length_append]
 omega
theorem z9o {m : List Bool} {n k : Nat} {g : List P2} {inp st : List Bool} (h : SimF m n k (valA g inp st)) (hg : GOkF (inp.length + st.length + 1) g) : z4o (zz n k (inp.length + st.length) g) m := by
 have hl : (false :: (inp ++ st)).length = inp.length + st.length + 1 := by rw [List.length_cons, List.length_append]
 have h1 := zdj h g (false :: (inp ++ st)) rfl (by rw [hl]; exact hg)
 rw [hl] at h1
 intro c hc
 rw [zz, List.mem_cons] at hc
 rcases hc with rfl | hc
 ·refine ⟨_, List.mem_singleton.2 rfl, (h.lit (l := 0) (Int.le_refl _) (by omega)).2 ?_⟩
  unfold valA
  rw [zbt (by rw [hl]; omega)]
  rfl
 ·exact h1 c hc
theorem zct {g : List P2} {inp st : List Bool} {j : Nat} (h : j < st.length) : litB (valA g inp st) (2 * ((inp.length + 1 + j : Nat) : Int)) = st.getD j false := by
 unfold valA
 have hl : (false :: (inp ++ st)).length = inp.length + st.length + 1 := by rw [List.length_cons, List.length_append]
 rw [zbt (by rw [hl]; omega), zge (by rw [hl]; omega)]
 rw [show inp.length + 1 + j = (inp.length + j) + 1 by omega]
 simp only [List.getD_eq_getElem?_getD, List.getElem?_cons_succ]
 rw [List.getElem?_append_right (by omega), Nat.add_sub_cancel_left]
def zj7 (l : List P2) (st : List Bool) : Prop := st.length = l.length ∧ ∀ j (h : j < l.length), (l[j].2 = 0 → st.getD j false = false) ∧ (l[j].2 = 1 → st.getD j false = true)
theorem z9g {n : Nat} {c : List Int} : ∀ {l : List P2} {v : Nat}, c ∈ z1g n v l → ∃ j, ∃ h : j < l.length, (l[j].2 = 0 ∧ c = [-litF n 0 (2 * ((v + j : Nat) : Int))]) ∨ (l[j].2 = 1 ∧ c = [litF n 0 (2 * ((v + j : Nat) : Int))])
 | [], v, h => by simp [z1g] at h
 | p :: l, v, h => by
  rw [z1g, List.mem_append] at h
  rcases h with h | h
  ·refine ⟨0, by simp, ?_⟩
   split at h
   ·rename_i e
    exact .inl ⟨e, List.mem_singleton.1 h⟩
   ·split at h
    ·rename_i e
     exact .inr ⟨e, List.mem_singleton.1 h⟩
    ·cases h
  ·obtain ⟨j, hj, h2⟩ := z9g h
   refine ⟨j + 1, by simpa using hj, ?_⟩
   rw [show v + (j + 1) = v + 1 + j by omega]
   simpa using h2
theorem zls {m : List Bool} {n : Nat} {g l : List P2} {inp st : List Bool} (h : SimF m n 0 (valA g inp st)) (hs : zj7 l st) : z4o (z1g n (inp.length + 1) l) m := by
 intro c hc
 obtain ⟨j, hj, h2⟩ := z9g hc
 obtain ⟨s1, s2⟩ := hs.2 j hj
 have hjs : j < st.length := by rw [hs.1]; exact hj
 have hv := zct (g := g) (inp := inp) hjs
 have hlen := h.len
 rw [z5o] at hlen
 rcases h2 with ⟨e, rfl⟩ | ⟨e, rfl⟩
 ·exact ⟨_, List.mem_singleton.2 rfl, (h.lit (by omega) (by omega)).2 (by rw [hv, s1 e])⟩
 ·exact ⟨_, List.mem_singleton.2 rfl, (h.lit (by omega) (by omega)).1 (by rw [hv, s2 e])⟩
def nextB (l : List P2) (V : List Bool) : List Bool := l.map fun p => litB V p.1
theorem zbp {n : Nat} {c : List Int} : ∀ {l : List P2} {v : Nat}, c ∈ linkF n v l → ∃ j, ∃ h : j < l.length, c = [-litF n 1 (2 * ((v + j : Nat) : Int)), litF n 0 l[j].1] ∨ c = [litF n 1 (2 * ((v + j : Nat) : Int)), -litF n 0 l[j].1]
 | [], v, h => by simp [linkF] at h
 | p :: l, v, h => by
  rw [linkF, List.mem_cons, List.mem_cons] at h
  rcases h with rfl | rfl | h
  ·exact ⟨0, by simp, .inl rfl⟩
  ·exact ⟨0, by simp, .inr rfl⟩
  ·obtain ⟨j, hj, h2⟩ := zbp h
   refine ⟨j + 1, by simpa using hj, ?_⟩
   rw [show v + (j + 1) = v + 1 + j by omega]
   simpa using h2
theorem zoa {m : List Bool} {n : Nat} {g l : List P2} {V inp' : List Bool} (h0 : SimF m n 0 V) (h1 : SimF m n 1 (valA g inp' (nextB l V))) (hl : ∀ p ∈ l, 0 ≤ p.1 ∧ p.1 ≤ 2 * (n : Int) + 1) : z4o (linkF n (inp'.length + 1) l) m := by
 intro c hc
 obtain ⟨j, hj, h2⟩ := zbp hc
 obtain ⟨r0, r1⟩ := hl _ (List.getElem_mem hj)
 have hjs : j < (nextB l V).length := by unfold nextB; rw [List.length_map]; exact hj
 have hv := zct (g := g) (inp := inp') hjs
 have hlen := h1.len
 rw [z5o] at hlen
 have hnx : (nextB l V).getD j false = litB V l[j].1 := by
  unfold nextB
  simp [List.getD_eq_getElem?_getD, hj]
 rw [hnx] at hv
 have o1 := h1.or (l := 2 * ((inp'.length + 1 + j : Nat) : Int)) (by omega) (by omega)
 have o0 := h0.or (l := l[j].1) r0 r1
 rw [hv] at o1
 rcases h2 with rfl | rfl
 ·rcases o1 with ⟨b1, t1⟩ | ⟨b1, t1⟩
  ·rcases o0 with ⟨b0, t0⟩ | ⟨b0, t0⟩
   ·exact ⟨_, by simp, t0⟩
   ·rw [b1] at b0
    cases b0
  ·exact ⟨_, by simp, t1⟩
 ·rcases o1 with ⟨b1, t1⟩ | ⟨b1, t1⟩
  ·exact ⟨_, by simp, t1⟩
  ·rcases o0 with ⟨b0, t0⟩ | ⟨b0, t0⟩
   ·rw [b1] at b0
    cases b0
   ·exact ⟨_, by simp, t0⟩
theorem zpb {m : List Bool} {n : Nat} {V : List Bool} (h : SimF m n 0 V) {c : List Int} (hc : ∀ l ∈ c, (0 ≤ l ∧ l ≤ 2 * (n : Int) + 1) ∧ litB V l = true) : z4o (consF n c) m := by
 intro d hd
 obtain ⟨l, hl, rfl⟩ := List.mem_map.1 hd
 obtain ⟨⟨a, b⟩, t⟩ := hc l hl
 exact ⟨_, List.mem_singleton.2 rfl, (h.lit a b).1 t⟩
theorem z4n {l k : List (List Int)} {m : List Bool} (h1 : z4o l m) (h2 : z4o k m) : z4o (l ++ k) m := fun c hc => (List.mem_append.1 hc).elim (h1 c) (h2 c)
theorem zc0 {x : Int} {m : List Bool} (h : litT m x) : z4o [[x]] m := fun c hc => by
 rw [List.mem_singleton.1 hc]
 exact ⟨x, List.mem_singleton.2 rfl, h⟩
theorem zs0 (V : List Bool) (n : Nat) (h : V.length = n + 1) : SimF V n 0 V := ⟨h, by omega, fun j hj => by rw [Nat.zero_mul, Nat.zero_add]⟩
theorem zqa (V W : List Bool) (n : Nat) (h : V.length = n + 1) (h2 : W.length = n + 1) : SimF (V ++ W) n 0 V := ⟨h, by rw [List.length_append]; omega, fun j hj => by rw [Nat.zero_mul, Nat.zero_add]; exact z75 false (by omega)⟩
theorem zq9 (V W : List Bool) (n : Nat) (h : V.length = n + 1) (h2 : W.length = n + 1) : SimF (V ++ W) n 1 W := ⟨h2, by rw [List.length_append]; omega, fun j hj => by
 rw [Nat.one_mul]
 simp only [List.getD_eq_getElem?_getD]
 rw [List.getElem?_append_right (by omega), show n + 1 + j - V.length = j by omega]⟩
def z5q (n b : Nat) (i : Nat) (l g : List P2) (inv : Int) : List (List Int) := zz n 0 b g ++ z1g n (i + 1) l ++ [[-litF n 0 inv]]
def z8f (n b : Nat) (i : Nat) (l g : List P2) (con : List Int) (inv : Int) : List (List Int) := zz n 0 b g ++ zz n 1 b g ++ linkF n (i + 1) l ++ consF n con ++ [[litF n 0 inv]] ++ [[-litF n 1 inv]]
def safeF (n b : Nat) (g : List P2) (con : List Int) (inv bad : Int) : List (List Int) := zz n 0 b g ++ consF n con ++ [[litF n 0 inv]] ++ [[litF n 0 bad]]
theorem zfj {l g : List P2} {inv : Int} {inp st : List Bool} {p : List Sp} (hg : GOkF (inp.length + st.length + 1) g) (hi : 0 ≤ inv ∧ inv ≤ 2 * ((inp.length + st.length + g.length : Nat) : Int) + 1) (hs : zj7 l st)
  (hp : ∀ s ∈ p, ∀ x ∈ s.2.1, litOk (((inp.length + st.length + g.length + 1 : Nat)) : Int) x) (hc : (chk (z5q (inp.length + st.length + g.length) (inp.length + st.length) inp.length l g inv) 0 p).2 = 0) : litB (valA g inp st) inv = true := by
 rw [← Bool.not_eq_false]
 intro hb
 have hS := zs0 (valA g inp st) (inp.length + st.length + g.length) (z5o g inp st)
 refine (z95 (n := ((inp.length + st.length + g.length + 1 : Nat) : Int)) (by rw [z5o]) p _ 0 (z4n (z4n (z9o hS hg) (zls hS hs)) (zc0 ((hS.lit hi.1 hi.2).2 hb))) hp).1 hc
theorem zht {l g : List P2} {con : List Int} {inv : Int} {inp inp' st : List Bool} {p : List Sp} (hii : inp'.length = inp.length) (hsl : st.length = l.length) (hg : GOkF (inp.length + st.length + 1) g) (hi : 0 ≤ inv ∧ inv ≤ 2 * ((inp.length + st.length + g.length : Nat) : Int) + 1)
  (hl : ∀ p ∈ l, 0 ≤ p.1 ∧ p.1 ≤ 2 * ((inp.length + st.length + g.length : Nat) : Int) + 1) (hcon : ∀ c ∈ con, (0 ≤ c ∧ c ≤ 2 * ((inp.length + st.length + g.length : Nat) : Int) + 1) ∧ litB (valA g inp st) c = true) (hinv : litB (valA g inp st) inv = true)
  (hp : ∀ s ∈ p, ∀ x ∈ s.2.1, litOk ((2 * (inp.length + st.length + g.length + 1) : Nat) : Int) x) (hc : (chk (z8f (inp.length + st.length + g.length) (inp.length + st.length) inp.length l g con inv) 0 p).2 = 0) : litB (valA g inp' (nextB l (valA g inp st))) inv = true := by
 rw [← Bool.not_eq_false]
 intro hb
 have hnl : (nextB l (valA g inp st)).length = st.length := by unfold nextB; rw [List.length_map, hsl]
 have h1 := z5o g inp st
 have h2 : (valA g inp' (nextB l (valA g inp st))).length = inp.length + st.length + g.length + 1 := by rw [z5o, hii, hnl]
 have s0 := zqa _ _ _ h1 h2
 have s1 := zq9 _ _ _ h1 h2
 have f1 := z9o s1 (by rw [hii, hnl]; exact hg)
 rw [hii, hnl] at f1
 have lk := zoa (l := l) s0 s1 hl
 rw [hii] at lk
 refine (z95 (n := ((2 * (inp.length + st.length + g.length + 1) : Nat) : Int)) (by rw [List.length_append, h1, h2]; congr 1; omega) p _ 0 (z4n (z4n (z4n (z4n (z4n (z9o s0 hg) f1) lk) (zpb s0 hcon)) (zc0 ((s0.lit hi.1 hi.2).1 hinv))) (zc0 ((s1.lit hi.1 hi.2).2 hb))) hp).1 hc
def hangG : List P2 → List Bool → List Bool
 | [], h => h
 | p :: r, h => hangG r (h ++ [h.getD (p.1 / 2).toNat false || h.getD (p.2 / 2).toNat false])
def hang0 (i s : Nat) : List Bool := false :: (List.replicate i true ++ List.replicate s false)
def hangA (i s : Nat) (g : List P2) : List Bool := hangG g (hang0 i s)
theorem z5g (i s : Nat) : (hang0 i s).length = i + s + 1 := by simp [hang0]
theorem zgm : ∀ (g : List P2) (v : List Bool), (hangG g v).length = v.length + g.length
 | [], v => rfl
 | p :: g, v => by rw [hangG, zgm g, List.length_append, List.length_cons]; simp; omega
theorem zgn (i s : Nat) (g : List P2) : (hangA i s g).length = i + s + g.length + 1 := by
 unfold hangA
 rw [zgm, z5g]
 omega
structure Agree (H V W : List Bool) : Prop where
 lv : V.length = H.length
 lw : W.length = H.length
 eq : ∀ j, j < H.length → H.getD j false = false → V.getD j false = W.getD j false
theorem Agree.lit {H V W : List Bool} (h : Agree H V W) {l : Int} (h0 : 0 ≤ l) (h1 : l / 2 < H.length) (hf : H.getD (l / 2).toNat false = false) : litB V l = litB W l := by
 unfold litB
 rw [h.lv, h.lw, h.eq (l / 2).toNat (by omega) hf]
end Go.Proofs.YtkemmijjpclckaaGreatDoor
