/- A part of the proof. -/
import Derived.Test.YtkemmijjpclckaaGreatDoorP21
set_option linter.unusedVariables false
set_option linter.unusedSimpArgs false
set_option linter.unusedSectionVars false
set_option maxRecDepth 100000
set_option maxHeartbeats 8000000
namespace Go.Proofs.YtkemmijjpclckaaGreatDoor
open Go Ab Go.RowKit
theorem xor1 (m : Nat) : m ^^^ 1 = if m % 2 = 1 then m - 1 else m + 1 := by
 have h1 : (m ^^^ 1) / 2 = m / 2 := by
  have := Nat.xor_div_two (a := m) (b := 1)
  simpa using this
 have h2 := Nat.xor_mod_two_eq_one (a := m) (b := 1)
 split <;> omega
theorem xorI {x : Int} (h0 : 0 ≤ x) (h1 : x ≤ 1000000000000000) : IntKind.i64.wrap (bitI .i64 x ^^^ bitI .i64 1).toNat = turnL x := by
 have e : (bitI .i64 x ^^^ bitI .i64 1).toNat = x.toNat ^^^ 1 := by
  rw [BitVec.toNat_xor]
  unfold bitI
  rw [BitVec.toNat_ofInt, BitVec.toNat_ofInt]
  have a : (x % ((2 ^ IntKind.i64.bits : Nat) : Int)).toNat = x.toNat := by
   rw [Int.emod_eq_of_lt h0 (by show x < 18446744073709551616; omega)]
  rw [a]
  rfl
 rw [e, xor1]
 unfold turnL
 have hc : ((x.toNat : Nat) : Int) = x := by omega
 by_cases h : x % 2 = 1
 ·rw [if_pos (by omega), if_pos h, zb (by omega) (by omega)]
  omega
 ·rw [if_neg (by omega), if_neg h, zb (by omega) (by omega)]
  omega
theorem z8d {x : Int} (h : 0 ≤ x ∧ x ≤ 1000000000) : 0 ≤ turnL x ∧ turnL x ≤ 1000000000000 := by
 unfold turnL
 split <;> omega
theorem zdk (n k : Nat) : ∀ (l m : List P2) (v : Nat), gatesF n k v (l ++ m) = gatesF n k v l ++ gatesF n k (v + l.length) m
 | [], m, v => rfl
 | p :: l, m, v => by
  rw [List.cons_append, gatesF, gatesF, zdk n k l m, List.length_cons, show v + 1 + l.length = v + (l.length + 1) by omega]
  rfl
theorem z84 {n k v : Nat} {l : List P2} {i : Nat} (h : i < l.length) : gatesF n k v (l.take (i + 1)) = gatesF n k v (l.take i) ++ gatesF n k (v + i) [l[i]] := by
 rw [List.take_add_one, List.getElem?_eq_getElem h, Option.toList_some, zdk, List.length_take, Nat.min_eq_left (by omega)]
theorem z4c (n k : Nat) : ∀ (l : List P2) (v : Nat), (gatesF n k v l).length = 3 * l.length
 | [], v => rfl
 | p :: l, v => by
  rw [gatesF, List.length_cons, List.length_cons, List.length_cons, z4c n k l, List.length_cons]
  omega
theorem zin (a : Ag) (n k b : Nat) (h : AgB a) (hn : varsA a = (n : Int)) (hk : k ≤ 1000) (hb : a.i + (a.l.length : Int) = (b : Int)) (hl : ∀ p ∈ a.g, (0 ≤ p.1 ∧ p.1 ≤ 1000000000) ∧ 0 ≤ p.2 ∧ p.2 ≤ 1000000000) :
  ACall Tryz.prog 107 [.d (eAg a), vI .i64 (k : Int)] [] (fun r o => r = .d (eIss (zz n k b a.g))) := by
 refine za Tryz.func107 rfl rfl (Nat.le_of_ble_eq_true rfl) fun C hC hCl hDs hGk => ?_
 have hi1 := h.i1
 have hi0 := h.i0
 have hll := h.l
 have hgl := h.g
 have hnb := z1z h
 have hn3 : n ≤ 3000000 := by omega
 refine ze tabOk Tryz.func107 rfl trivial (z29 a n k [1] h hn hk (by
  intro x hx
  rw [List.mem_singleton] at hx
  omega) (by simp)) ⟨.refl _, .refl _, VLe.eL rfl, trivial⟩ rfl ⟨_, rfl⟩ (by rintro r o rfl; rfl) ?_
 rintro _ o rfl
 refine ze0 _ tabOk rfl rfl rfl rfl rfl trivial rfl ?_
 refine z8 tabOk Tryz.func107 rfl trivial ?_
 refine zh (α := Nat) (fun i => [(1, vI .i64 (k : Int)), (2, .ptr 0 0), (5, .gs 1), (16, .d (eP2s a.g)), (17, vI .i64 (a.g.length : Int)), (18, vI .i64 (i : Int))]) (fun i => [some (.cells 27 (AV.d (eAg a)).cells), some (gIcs (zz n k b (a.g.take i)))]) (fun i => i ≤ a.g.length) (fun i => a.g.length - i) 0 (Nat.zero_le _) ?_ ?_
 ·refine fun h => zg h hC hCl ⟨⟨_, rfl, .refl _⟩, ⟨_, rfl, .refl _⟩, ⟨_, rfl, .refl _⟩, ⟨_, rfl, .refl _⟩, ⟨_, rfl, .of (by rw [List.length_map])⟩, ⟨_, rfl, .refl _⟩, trivial⟩ ⟨.refl _, .gL ?_, trivial⟩ rfl rfl (Nat.zero_le _)
  have h1 := zjy n k 0
  rw [show 2 * ((0 : Nat) : Int) + 1 = 1 from rfl, show 2 * ((0 : Nat) : Int) = 0 from rfl] at h1
  rw [List.take_zero, zz, gatesF, ← h1]
  rfl
 rintro i hi ih
 have hcl : (zz n k b (a.g.take i)).length = 3 * i + 1 := by rw [zz, List.length_cons, z4c, List.length_take]; omega
 refine z6 tabOk Tryz.func107 rfl trivial (fun hb2 => ?_) (fun hb2 => ?_)
 rotate_left
 ·have hb2 : decide ((i : Int) < (a.g.length : Int)) = false := hb2
  rw [decide_eq_false_iff_not] at hb2
  obtain rfl : i = a.g.length := by omega
  rw [List.take_of_length_le (Nat.le_refl _)]
  refine zw 1 rfl ?_
  exact z7 tabOk Tryz.func107 rfl trivial rfl
 have hb2 : decide ((i : Int) < (a.g.length : Int)) = true := hb2
 rw [decide_eq_true_eq] at hb2
 have hlt : i < a.g.length := by omega
 have ih := ih (i + 1) (by omega) (by omega)
 have hft : zz n k b (a.g.take (i + 1)) = zz n k b (a.g.take i) ++ gatesF n k (b + 1 + i) [a.g[i]] := by
  rw [zz, z84 hlt]
  rfl
 rw [hft] at ih
 have hx0 := hl a.g[i] (List.getElem_mem hlt)
 have hgd : a.g.getD i (0, 0) = a.g[i] := by rw [List.getD_eq_getElem?_getD, List.getElem?_eq_getElem hlt]; rfl
 generalize a.g[i] = x at *
 have e0 : IntKind.i64.wrap (a.i + (((a.l.map eP2).length : Nat) : Int)) = (b : Int) := by rw [List.length_map, zb (by omega) (by omega)]; exact hb
 have e1 : IntKind.i64.wrap ((b : Int) + 1) = (b : Int) + 1 := zb (by omega) (by omega)
 have e2 : IntKind.i64.wrap ((b : Int) + 1 + (i : Int)) = (b : Int) + 1 + (i : Int) := zb (by omega) (by omega)
 have e3 : IntKind.i64.wrap (2 * ((b : Int) + 1 + (i : Int))) = 2 * ((b + 1 + i : Nat) : Int) := by rw [zb (by omega) (by omega)]; omega
 have eJ : IntKind.i64.wrap (2 * IntKind.i64.wrap (IntKind.i64.wrap (IntKind.i64.wrap (a.i + (((a.l.map eP2).length : Nat) : Int)) + 1) + (i : Int))) = 2 * ((b + 1 + i : Nat) : Int) := by rw [e0, e1, e2, e3]
 have hy : 0 ≤ 2 * ((b + 1 + i : Nat) : Int) ∧ 2 * ((b + 1 + i : Nat) : Int) ≤ 1000000000 := by omega
 refine zp 24 tabOk Tryz.func107 rfl rfl trivial (by kernel_rfl) ?_
 refine zo tabOk rfl (by simp only [andP, and_true, true_and, Int.toNat_natCast, List.length_map, List.length_append, List.length_cons, List.length_nil, List.length_replicate]; omega) ?_
 refine zp 25 tabOk Tryz.func107 rfl rfl trivial (by kernel_rfl) ?_
 have ht := z8d hy
 have ht1 := z8d hx0.1
 have ht2 := z8d hx0.2
 have w1 := xorI hy.1 (by omega)
 have w2 := xorI hx0.1.1 (by omega)
 have w3 := xorI hx0.2.1 (by omega)
 have hgt : gatesF n k (b + 1 + i) [x] = [[-litF n k (2 * ((b + 1 + i : Nat) : Int)), litF n k x.1], [-litF n k (2 * ((b + 1 + i : Nat) : Int)), litF n k x.2], [litF n k (2 * ((b + 1 + i : Nat) : Int)), -litF n k x.1, -litF n k x.2]] := rfl
 rw [hgt, ← z5d, ← z5d, ← z5d] at ih
 generalize 2 * ((b + 1 + i : Nat) : Int) = y at *
 have two : ∀ p q : Int, (0 ≤ p ∧ p ≤ 1000000000000) → (0 ≤ q ∧ q ≤ 1000000000000) → ∀ z ∈ [p, q], 0 ≤ z ∧ z ≤ 1000000000000 := fun p q h1 h2 z hz => by
  rcases List.mem_cons.1 hz with rfl | hz
  ·exact h1
  ·rw [List.mem_singleton.1 hz]
   exact h2
 have hc1 := z29 a n k [turnL y, x.1] h hn hk (two _ _ ht ⟨by omega, by omega⟩) (by simp)
 have hc2 := z29 a n k [turnL y, x.2] h hn hk (two _ _ ht ⟨by omega, by omega⟩) (by simp)
 have hc3 := z29 a n k [y, turnL x.1, turnL x.2] h hn hk (fun z hz => by
  rcases List.mem_cons.1 hz with rfl | hz
  ·omega
  ·exact two _ _ ht1 ht2 z hz) (by simp)
 refine z3b 6 tabOk rfl trivial ?_
 refine z2l tabOk rfl rfl rfl rfl rfl rfl rfl ?_
 refine zv tabOk rfl trivial hc1 (zf Tryz.func109 rfl rfl) (by rintro r o rfl; rfl) ⟨.refl _, .refl _, VLe.eL ?_, trivial⟩ rfl rfl ⟨_, rfl⟩ ?_
 ·show [eI (IntKind.i64.wrap ((bitI .i64 (IntKind.i64.wrap (2 * IntKind.i64.wrap (IntKind.i64.wrap (IntKind.i64.wrap (a.i + (((a.l.map eP2).length : Nat) : Int)) + 1) + (i : Int)))) ^^^ bitI .i64 1).toNat : Int)), eI (a.g.getD i (0, 0)).1] = _
  rw [eJ, w1, hgd]
  rfl
 refine z3b 5 tabOk rfl trivial ?_
 refine z2l tabOk rfl rfl rfl rfl rfl rfl rfl ?_
 refine zv tabOk rfl trivial hc2 (zf Tryz.func109 rfl rfl) (by rintro r o rfl; rfl) ⟨.refl _, .refl _, VLe.eL ?_, trivial⟩ rfl rfl ⟨_, rfl⟩ ?_
 ·show [eI (IntKind.i64.wrap ((bitI .i64 (IntKind.i64.wrap (2 * IntKind.i64.wrap (IntKind.i64.wrap (IntKind.i64.wrap (a.i + (((a.l.map eP2).length : Nat) : Int)) + 1) + (i : Int)))) ^^^ bitI .i64 1).toNat : Int)), eI (a.g.getD i (0, 0)).2] = _
  rw [eJ, w1, hgd]
  rfl
 refine z3b 7 tabOk rfl trivial ?_
 refine z2l tabOk rfl rfl rfl rfl rfl rfl rfl ?_
 refine zv tabOk rfl trivial hc3 (zf Tryz.func109 rfl rfl) (by rintro r o rfl; rfl) ⟨.refl _, .refl _, VLe.eL ?_, trivial⟩ rfl rfl ⟨_, rfl⟩ ?_
 ·show [eI (IntKind.i64.wrap (2 * IntKind.i64.wrap (IntKind.i64.wrap (IntKind.i64.wrap (a.i + (((a.l.map eP2).length : Nat) : Int)) + 1) + (i : Int)))), eI (IntKind.i64.wrap ((bitI .i64 ((a.g.getD i (0, 0)).1) ^^^ bitI .i64 1).toNat : Int)), eI (IntKind.i64.wrap ((bitI .i64 ((a.g.getD i (0, 0)).2) ^^^ bitI .i64 1).toNat : Int))] = _
  rw [eJ, hgd, w2, w3]
  rfl
 refine z2l tabOk rfl rfl rfl rfl rfl rfl rfl ?_
 refine zo tabOk rfl trivial ?_
 refine z8 tabOk Tryz.func107 rfl ?_ ?_
 ·exact (by simp only [andP, and_true, true_and, Int.toNat_natCast, List.length_map, List.length_append, List.length_cons, List.length_nil, List.length_replicate]; omega)
 refine zg ih hC hCl ⟨⟨_, rfl, .refl _⟩, ⟨_, rfl, .refl _⟩, ⟨_, rfl, .refl _⟩, ⟨_, rfl, .refl _⟩, ⟨_, rfl, .refl _⟩, ⟨_, rfl, .of (by rw [zb (by omega) (by omega)]; rfl)⟩, trivial⟩ ⟨.refl _, .gL ?_, trivial⟩ rfl rfl (Nat.zero_le _)
 rw [List.map_append]
 rfl
end Go.Proofs.YtkemmijjpclckaaGreatDoor
namespace Go.Proofs.YtkemmijjpclckaaGreatDoor
open Go Ab Go.RowKit
structure EncB (a : Ag) (n i b : Nat) : Prop where
 h : AgB a
 hn : varsA a = (n : Int)
 hi : a.i = (i : Int)
 hb : i + a.l.length = b
 g : ∀ p ∈ a.g, (0 ≤ p.1 ∧ p.1 ≤ 1000000000) ∧ 0 ≤ p.2 ∧ p.2 ≤ 1000000000
 l : ∀ p ∈ a.l, (0 ≤ p.1 ∧ p.1 ≤ 1000000000) ∧ 0 ≤ p.2
 c : ∀ x ∈ a.con, 0 ≤ x ∧ x ≤ 1000000000
 gl : a.g.length ≤ 20000
 ll : a.l.length ≤ 20000
 cl : a.con.length ≤ 50000
section
variable {a : Ag} {n i b : Nat} (h : EncB a n i b)
include h
theorem EncB.frame (k : Nat) (hk : k ≤ 1000) : ACall Tryz.prog 107 [.d (eAg a), vI .i64 (k : Int)] [] (fun r o => r = .d (eIss (zz n k b a.g))) :=
 zin a n k b h.h h.hn hk (by have := h.hi; have := h.hb; omega) h.g
theorem EncB.first : ACall Tryz.prog 108 [.d (eAg a)] [] (fun r o => r = .d (eIss (z1g n (i + 1) a.l))) := zio a n i h.h h.hn h.hi fun p hp => (h.l p hp).2
theorem EncB.link : ACall Tryz.prog 110 [.d (eAg a)] [] (fun r o => r = .d (eIss (linkF n (i + 1) a.l))) := zly a n i h.h h.hn h.hi fun p hp => ⟨(h.l p hp).1.1, by have := (h.l p hp).1.2; omega⟩
theorem EncB.one (k : Nat) (x : Int) (hk : k ≤ 1000) (hx : 0 ≤ x ∧ x ≤ 1000000000000) : ACall Tryz.prog 109 [.d (eAg a), vI .i64 (k : Int), .d (eIs [x])] [] (fun r o => r = .d (eIs [litF n k x])) :=
 z29 a n k [x] h.h h.hn hk (fun y hy => by rw [List.mem_singleton.1 hy]; exact hx) (by simp)
theorem EncB.holds (more : List Int) (hm : more.length ≤ 10) (hl : ∀ x ∈ more, 0 ≤ x ∧ x ≤ 1000000000000) : ACall Tryz.prog 111 [.d (eAg a), .d (eIs more)] [] (fun r o => r = .d (eIss (consF n (a.con ++ more)))) :=
 zim a n more h.h h.hn (fun x hx => by
  rcases List.mem_append.1 hx with hx | hx
  ·have := h.c x hx
   omega
  ·exact hl x hx) h.cl hm
theorem EncB.vars (k : Int) (hk : 0 ≤ k ∧ k ≤ 1000) : ACall Tryz.prog 93 [.d (eAg a), vI .i64 k] [] (fun r o => r = vI .i64 (k * ((n : Int) + 1))) := by
 have := z9p a k h.h hk
 rwa [h.hn] at this
theorem EncB.frl (k : Nat) : (zz n k b a.g).length ≤ 100000 := by
 have := h.gl
 rw [zz, List.length_cons, z4c]
 omega
theorem EncB.fil : (z1g n (i + 1) a.l).length ≤ 100000 := by
 have := h.ll
 have := z5k n a.l (i + 1)
 omega
theorem EncB.lil : (linkF n (i + 1) a.l).length ≤ 100000 := by
 have := h.ll
 rw [z6i]
 omega
theorem EncB.col {m : List Int} (hm : m.length ≤ 10) : (consF n (a.con ++ m)).length ≤ 100000 := by
 have := h.cl
 unfold consF
 rw [List.length_map, List.length_append]
 omega
end
theorem zh4 (a : Ag) (n i b : Nat) (inv : Int) (h : EncB a n i b) (hv : 0 ≤ inv ∧ inv ≤ 1000000000) : ACall Tryz.prog 64 [.d (eAg a), vI .i64 inv] [] (fun r o => r = .d (eCnf ((n : Int) + 1) (z5q n b i a.l a.g inv))) := by
 refine za Tryz.func64 rfl rfl (Nat.le_of_ble_eq_true rfl) fun C hC hCl hDs hGk => ?_
 have w1 := xorI hv.1 (by omega)
 have ht := z8d hv
 have hc := h.one 0 (turnL inv) (by omega) ht
 rw [z5d] at hc
 refine zp 10 tabOk Tryz.func64 rfl rfl trivial (by kernel_rfl) ?_
 refine zv tabOk rfl trivial (h.vars 1 (by decide)) (zf Tryz.func93 rfl rfl) (by rintro r o rfl; rfl) (.refl _) rfl rfl ⟨_, rfl⟩ ?_
 refine zv tabOk rfl trivial (h.frame 0 (by decide)) (zf Tryz.func107 rfl rfl) (by rintro r o rfl; rfl) (.refl _) rfl rfl ⟨_, rfl⟩ ?_
 refine zv tabOk rfl trivial h.first (zf Tryz.func108 rfl rfl) (by rintro r o rfl; rfl) (.refl _) rfl rfl ⟨_, rfl⟩ ?_
 refine z3b 3 tabOk rfl trivial ?_
 refine z2l tabOk rfl rfl rfl rfl rfl rfl rfl ?_
 refine zo tabOk rfl trivial ?_
 refine ze tabOk Tryz.func64 rfl trivial hc ⟨.refl _, .refl _, VLe.eL ?_, trivial⟩ rfl ⟨_, rfl⟩ (by rintro r o rfl; rfl) ?_
 ·show [eI (IntKind.i64.wrap ((bitI .i64 inv ^^^ bitI .i64 1).toNat : Int))] = _
  rw [w1]
  rfl
 rintro _ o rfl
 refine ze tabOk Tryz.func64 rfl trivial (z9t [zz n 0 b a.g, z1g n (i + 1) a.l, [[-litF n 0 inv]]] (Nat.le_of_ble_eq_true rfl) (by
  intro r hr
  rcases List.mem_cons.1 hr with rfl | hr
  ·exact h.frl 0
  rcases List.mem_cons.1 hr with rfl | hr
  ·exact h.fil
  ·rw [List.mem_singleton.1 hr]
   exact Nat.le_of_ble_eq_true rfl)) ⟨VLe.eL_c ⟨.refl _, .refl _, CLe.lit eIs [] [[_]] rfl, trivial⟩, trivial⟩ rfl ⟨_, rfl⟩ (by rintro r o rfl; rfl) ?_
 rintro _ o rfl
 refine z7 tabOk Tryz.func64 rfl trivial ?_
 show tupOf _ = _
 rw [Int.one_mul, show [zz n 0 b a.g, z1g n (i + 1) a.l, [[-litF n 0 inv]]].flatten = z5q n b i a.l a.g inv by simp [z5q]]
 rfl
theorem zik (a : Ag) (n i b : Nat) (inv : Int) (h : EncB a n i b) (hv : 0 ≤ inv ∧ inv ≤ 1000000000) : ACall Tryz.prog 65 [.d (eAg a), vI .i64 inv] [] (fun r o => r = .d (eCnf (2 * ((n : Int) + 1)) (z8f n b i a.l a.g a.con inv))) := by
 refine za Tryz.func65 rfl rfl (Nat.le_of_ble_eq_true rfl) fun C hC hCl hDs hGk => ?_
 have w1 := xorI hv.1 (by omega)
 have ht := z8d hv
 have hc := h.one 1 (turnL inv) (by omega) ht
 rw [z5d] at hc
 have hh := h.holds [inv] (by simp) (fun x hx => by rw [List.mem_singleton.1 hx]; omega)
 refine ze tabOk Tryz.func65 rfl trivial hc ⟨.refl _, .refl _, VLe.eL ?_, trivial⟩ rfl ⟨_, rfl⟩ (by rintro r o rfl; rfl) ?_
 ·show [eI (IntKind.i64.wrap ((bitI .i64 inv ^^^ bitI .i64 1).toNat : Int))] = _
  rw [w1]
  rfl
 rintro _ o rfl
 refine zp 13 tabOk Tryz.func65 rfl rfl trivial (by kernel_rfl) ?_
 refine zv tabOk rfl trivial (h.vars 2 (by decide)) (zf Tryz.func93 rfl rfl) (by rintro r o rfl; rfl) (.refl _) rfl rfl ⟨_, rfl⟩ ?_
 refine zv tabOk rfl trivial (h.frame 0 (by decide)) (zf Tryz.func107 rfl rfl) (by rintro r o rfl; rfl) (.refl _) rfl rfl ⟨_, rfl⟩ ?_
 refine zv tabOk rfl trivial (h.frame 1 (by decide)) (zf Tryz.func107 rfl rfl) (by rintro r o rfl; rfl) (.refl _) rfl rfl ⟨_, rfl⟩ ?_
 refine zv tabOk rfl trivial h.link (zf Tryz.func110 rfl rfl) (by rintro r o rfl; rfl) (.refl _) rfl rfl ⟨_, rfl⟩ ?_
 refine z3b 2 tabOk rfl trivial ?_
 refine z2l tabOk rfl rfl rfl rfl rfl rfl rfl ?_
 refine zv tabOk rfl trivial hh (zf Tryz.func111 rfl rfl) (by rintro r o rfl; rfl) ⟨.refl _, VLe.eL rfl, trivial⟩ rfl rfl ⟨_, rfl⟩ ?_
 refine zo tabOk rfl trivial ?_
 refine ze tabOk Tryz.func65 rfl trivial (z9t [zz n 0 b a.g, zz n 1 b a.g, linkF n (i + 1) a.l, consF n (a.con ++ [inv]), [[-litF n 1 inv]]] (Nat.le_of_ble_eq_true rfl) (by
  intro r hr
  rcases List.mem_cons.1 hr with rfl | hr
  ·exact h.frl 0
  rcases List.mem_cons.1 hr with rfl | hr
  ·exact h.frl 1
  rcases List.mem_cons.1 hr with rfl | hr
  ·exact h.lil
  rcases List.mem_cons.1 hr with rfl | hr
  ·exact h.col (by simp)
  ·rw [List.mem_singleton.1 hr]
   exact Nat.le_of_ble_eq_true rfl)) ⟨VLe.eL_c ⟨.refl _, .refl _, .refl _, .refl _, CLe.lit eIs [] [[_]] rfl, trivial⟩, trivial⟩ rfl ⟨_, rfl⟩ (by rintro r o rfl; rfl) ?_
 rintro _ o rfl
 refine z7 tabOk Tryz.func65 rfl trivial ?_
 show tupOf _ = _
 rw [show [zz n 0 b a.g, zz n 1 b a.g, linkF n (i + 1) a.l, consF n (a.con ++ [inv]), [[-litF n 1 inv]]].flatten = z8f n b i a.l a.g a.con inv by simp [z8f, consF]]
 rfl
theorem zlx (a : Ag) (n i b : Nat) (inv bad : Int) (h : EncB a n i b) (hv : 0 ≤ inv ∧ inv ≤ 1000000000) (hbd : 0 ≤ bad ∧ bad ≤ 1000000000) : ACall Tryz.prog 66 [.d (eAg a), vI .i64 inv, vI .i64 bad] [] (fun r o => r = .d (eCnf ((n : Int) + 1) (safeF n b a.g a.con inv bad))) := by
 refine za Tryz.func66 rfl rfl (Nat.le_of_ble_eq_true rfl) fun C hC hCl hDs hGk => ?_
 have hh := h.holds [inv, bad] (by simp) (fun x hx => by
  rcases List.mem_cons.1 hx with rfl | hx
  ·omega
  ·rw [List.mem_singleton.1 hx]; omega)
 refine zp 8 tabOk Tryz.func66 rfl rfl trivial (by kernel_rfl) ?_
 refine zv tabOk rfl trivial (h.vars 1 (by decide)) (zf Tryz.func93 rfl rfl) (by rintro r o rfl; rfl) (.refl _) rfl rfl ⟨_, rfl⟩ ?_
 refine zv tabOk rfl trivial (h.frame 0 (by decide)) (zf Tryz.func107 rfl rfl) (by rintro r o rfl; rfl) (.refl _) rfl rfl ⟨_, rfl⟩ ?_
 refine z3b 3 tabOk rfl trivial ?_
 refine z2l tabOk rfl rfl rfl rfl rfl rfl rfl ?_
 refine zo tabOk rfl trivial ?_
 refine ze tabOk Tryz.func66 rfl trivial hh ⟨.refl _, VLe.eL rfl, trivial⟩ rfl ⟨_, rfl⟩ (by rintro r o rfl; rfl) ?_
 rintro _ o rfl
 refine ze tabOk Tryz.func66 rfl trivial (z9t [zz n 0 b a.g, consF n (a.con ++ [inv, bad])] (Nat.le_of_ble_eq_true rfl) (by
  intro r hr
  rcases List.mem_cons.1 hr with rfl | hr
  ·exact h.frl 0
  ·rw [List.mem_singleton.1 hr]
   exact h.col (by simp))) ⟨VLe.eL_c ⟨.refl _, .refl _, trivial⟩, trivial⟩ rfl ⟨_, rfl⟩ (by rintro r o rfl; rfl) ?_
 rintro _ o rfl
 refine z7 tabOk Tryz.func66 rfl trivial ?_
 show tupOf _ = _
 rw [Int.one_mul, show [zz n 0 b a.g, consF n (a.con ++ [inv, bad])].flatten = safeF n b a.g a.con inv bad by simp [safeF, consF]]
 rfl
end Go.Proofs.YtkemmijjpclckaaGreatDoor
namespace Go.Proofs.YtkemmijjpclckaaGreatDoor
open Go Ab Go.RowKit
theorem zp1 {a : Ag} (h : RightA a) : EncB a (varsA a).toNat a.i.toNat (a.i.toNat + a.l.length) := by
 have h0 := h.i0
 have h1 := h.v1
 have hv : varsA a = a.i + a.l.length + a.g.length := rfl
 have hlat := (zbw _ _ _ _).1 h.lat
 have hgat := (z5h _ _).1 h.gat
 have hcon := h.con
 unfold z1m at hcon
 rw [Bool.and_eq_true, decide_eq_true_eq, List.all_eq_true] at hcon
 refine ⟨z6t (z13.2 h), by omega, by omega, rfl, fun p hp => ?_, fun p hp => ?_, fun x hx => ?_, by omega, by omega, by omega⟩
 ·obtain ⟨j, hj, rfl⟩ := List.mem_iff_getElem.1 hp
  have := hgat j hj
  omega
 ·obtain ⟨j, hj, rfl⟩ := List.mem_iff_getElem.1 hp
  have := hlat j hj
  omega
 ·have := hcon.2 x hx
  rw [decide_eq_true_eq] at this
  omega
theorem zds {n : Int} {l : List (List Int)} (h : l.all (clOk n) = true) : Cls n l := by
 rw [List.all_eq_true] at h
 refine ⟨fun c hc x hx => ?_, fun c hc => ?_⟩
 ·have := h c hc
  unfold clOk at this
  rw [Bool.and_eq_true, List.all_eq_true] at this
  exact of_decide_eq_true (this.2 x hx)
 ·have := h c hc
  unfold clOk at this
  rw [Bool.and_eq_true] at this
  exact of_decide_eq_true this.1
theorem z3z {n : Int} {p : List Sp} (h : z1l n p = true) : ∀ s ∈ p, (∀ x ∈ s.2.1, litOk n x) ∧ s.2.1.length ≤ 1000 := by
 unfold z1l at h
 rw [Bool.and_eq_true, List.all_eq_true] at h
 intro s hs
 have := h.2 s hs
 unfold clOk at this
 rw [Bool.and_eq_true, List.all_eq_true] at this
 exact ⟨fun x hx => of_decide_eq_true (this.2 x hx), of_decide_eq_true this.1⟩
def ask0 (g : Ag) (inv : Int) : List (List Int) := z5q (varsA g).toNat (g.i.toNat + g.l.length) g.i.toNat g.l g.g inv
def ask1 (g : Ag) (inv : Int) : List (List Int) := z8f (varsA g).toNat (g.i.toNat + g.l.length) g.i.toNat g.l g.g g.con inv
def ask2 (g : Ag) (inv bad : Int) : List (List Int) := safeF (varsA g).toNat (g.i.toNat + g.l.length) g.g g.con inv bad
noncomputable def z6q (a : Ag) (c : Ct) (k : Int) : Int × Int :=
 if z2z a c = false ∨ k < 0 ∨ (a.bad.length : Int) ≤ k then (0, 7)
 else if (ask0 (zk a c) c.inv).all (clOk (varsA (zk a c) + 1)) = false ∨ (ask1 (zk a c) c.inv).all (clOk (2 * (varsA (zk a c) + 1))) = false ∨ (ask2 (zk a c) c.inv (a.bad.getD k.toNat 0)).all (clOk (varsA (zk a c) + 1)) = false then (0, 3)
 else if (chk (ask0 (zk a c) c.inv) 0 c.p0).2 ≠ 0 then (1, 6)
 else if (chk (ask1 (zk a c) c.inv) 0 c.p1).2 ≠ 0 then (2, 6)
 else if (chk (ask2 (zk a c) c.inv (a.bad.getD k.toNat 0)) 0 c.p2).2 ≠ 0 then (3, 6)
 else (0, 0)
theorem z8c (a : Ag) (c : Ct) (k : Int) (h : AcB a c)
  (hs : z2z a c = true → (ask0 (zk a c) c.inv).length + c.p0.length ≤ 1000 ∧ (ask1 (zk a c) c.inv).length + c.p1.length ≤ 1000 ∧ (ask2 (zk a c) c.inv (a.bad.getD k.toNat 0)).length + c.p2.length ≤ 1000) :
  ACall Tryz.prog 25 [.d (eAg a), vI .i64 k, .d (eCt c)] [] (fun r o => r = tupOf [vI .i64 (z6q a c k).1, vI .i64 (z6q a c k).2]) := by
 refine za Tryz.func25 rfl rfl (Nat.le_of_ble_eq_true rfl) fun C hC hCl hDs hGk => ?_
 have hG := z7g a c h.ag h.cg
 refine ze tabOk Tryz.func25 rfl trivial (z6r a c h) (.refl _) rfl ⟨_, rfl⟩ (by rintro r o rfl; rfl) ?_
 rintro _ o rfl
 unfold z6q
 cases hR : z2z a c with
 | false =>
  rw [if_pos (.inl rfl)]
  repeat refine z6 tabOk Tryz.func25 rfl trivial (fun _ => ?_) (fun h => by cases h)
  exact z7 tabOk Tryz.func25 rfl trivial rfl
 | true =>
 refine z6 tabOk Tryz.func25 rfl trivial (fun h => by cases h) (fun _ => ?_)
 refine z6 tabOk Tryz.func25 rfl trivial (fun h1 => ?_) (fun h1 => ?_)
 ·have h1 : decide (k < 0) = true := h1
  rw [decide_eq_true_eq] at h1
  rw [if_pos (.inr (.inl h1))]
  repeat refine z6 tabOk Tryz.func25 rfl trivial (fun _ => ?_) (fun h => by cases h)
  exact z7 tabOk Tryz.func25 rfl trivial rfl
 have h1 : decide (k < 0) = false := h1
 rw [decide_eq_false_iff_not] at h1
 refine z6 tabOk Tryz.func25 rfl trivial (fun h2 => ?_) (fun h2 => ?_)
 ·have h2 : decide (k ≥ (((a.bad.map eI).length : Nat) : Int)) = true := h2
  rw [decide_eq_true_eq, List.length_map] at h2
  rw [if_pos (.inr (.inr h2))]
  exact z7 tabOk Tryz.func25 rfl trivial rfl
 have h2 : decide (k ≥ (((a.bad.map eI).length : Nat) : Int)) = false := h2
 rw [decide_eq_false_iff_not, List.length_map] at h2
 rw [if_neg (by rintro (h3 | h3 | h3) <;> first | cases h3 | omega)]
 obtain ⟨s0, s1, s2⟩ := hs hR
 obtain ⟨-, hA, hinv, -, hp0, hp1, hp2⟩ := z3i.1 hR
 have hA' := z13.1 hA
 have hbad := hA'.bad
 unfold z1m at hbad
 rw [Bool.and_eq_true, decide_eq_true_eq, List.all_eq_true] at hbad
 have hE := zp1 hA'
 have hv := hE.hn
 have hv1 := hA'.v1
 have hbr := hbad.2 (a.bad.getD k.toNat 0) (by
  rw [List.getD_eq_getElem?_getD, List.getElem?_eq_getElem (show k.toNat < a.bad.length by omega)]
  exact List.getElem_mem _)
 rw [decide_eq_true_eq] at hbr
 refine ze tabOk Tryz.func25 rfl trivial hG (.refl _) rfl ⟨_, rfl⟩ (by rintro r o rfl; rfl) ?_
 rintro _ o rfl
 have hc0 := zh4 _ _ _ _ c.inv hE (by omega)
 have hc1 := zik _ _ _ _ c.inv hE (by omega)
 have hc2 := zlx _ _ _ _ c.inv (a.bad.getD k.toNat 0) hE (by omega) (by omega)
 rw [← hv] at hc0 hc1 hc2
 change ACall _ _ _ _ (fun r o => r = .d (eCnf _ (ask0 (zk a c) c.inv))) at hc0
 change ACall _ _ _ _ (fun r o => r = .d (eCnf _ (ask1 (zk a c) c.inv))) at hc1
 change ACall _ _ _ _ (fun r o => r = .d (eCnf _ (ask2 (zk a c) c.inv (a.bad.getD k.toNat 0)))) at hc2
 have hV : 0 ≤ varsA (zk a c) + 1 ∧ 2 * (varsA (zk a c) + 1) ≤ 100000 := by omega
 generalize ask0 (zk a c) c.inv = l0 at *
 generalize ask1 (zk a c) c.inv = l1 at *
 generalize ask2 (zk a c) c.inv (a.bad.getD k.toNat 0) = l2 at *
 generalize zk a c = g at *
 generalize varsA g + 1 = N at *
 have hki : ((k.toNat : Nat) : Int) = k := by omega
 refine zd2 20 18 19 (c := none) (a := .dead) (o2 := .cells 132 [.d (eI N), .d (eIss l0), .d (eI (2 * N)), .d (eIss l1), .d (eI N), .d (eIss l2)]) tabOk Tryz.func25 rfl rfl trivial (by kernel_rfl) (by kernel_rfl) rfl rfl rfl (by kernel_rfl) (by rw [hCl, hC]; exact Nat.zero_le _) rfl rfl rfl rfl rfl rfl
  (fun _ => zv tabOk rfl trivial hc0 (zf Tryz.func64 rfl rfl) (by rintro r o rfl; rfl) (.refl _) rfl rfl ⟨_, rfl⟩ (zv tabOk rfl trivial hc1 (zf Tryz.func65 rfl rfl) (by rintro r o rfl; rfl) (.refl _) rfl rfl ⟨_, rfl⟩ (zv tabOk rfl (by rw [List.length_map]; exact ⟨⟨by omega, by omega⟩, trivial⟩) hc2 (zf Tryz.func66 rfl rfl) (by rintro r o rfl; rfl) (.refl _) rfl rfl ⟨_, rfl⟩ (zo tabOk rfl trivial rfl))))
  (by rfl) (by rfl) (by rfl) (by rfl) trivial ?_
 have hN0 : 0 ≤ N ∧ N ≤ 100000 := by omega
 have hN1 : 0 ≤ 2 * N ∧ 2 * N ≤ 100000 := by omega
 refine z8 tabOk Tryz.func25 rfl trivial ?_
 refine z3n ?_
 refine z6 tabOk Tryz.func25 rfl trivial (fun _ => ?_) (fun h => by cases h)
 refine zj 60 tabOk Tryz.func25 rfl trivial ?_
 refine z1c (j := 0) tabOk rfl rfl rfl rfl rfl rfl rfl rfl (by decide) rfl rfl ?_
 refine ze tabOk Tryz.func25 rfl trivial (z5u (N) l0 (by omega) (by omega)) (.refl _) rfl ⟨_, rfl⟩ (by rintro r o rfl; rfl) ?_
 rintro _ o rfl
 cases hq0 : l0.all (clOk (N)) with
 | false =>
  refine z6 tabOk Tryz.func25 rfl trivial (fun _ => ?_) (fun h => by cases h)
  rw [if_pos (.inl rfl)]
  exact z7 tabOk Tryz.func25 rfl trivial rfl
 | true =>
 refine z6 tabOk Tryz.func25 rfl trivial (fun h => by cases h) (fun _ => ?_)
 refine z8 tabOk Tryz.func25 rfl trivial ?_
 refine z1v ?_
 refine z6 tabOk Tryz.func25 rfl trivial (fun _ => ?_) (fun h => by cases h)
 refine zj 60 tabOk Tryz.func25 rfl trivial ?_
 refine z1c (j := 1) tabOk rfl rfl rfl rfl rfl rfl rfl rfl (by decide) rfl rfl ?_
 refine ze tabOk Tryz.func25 rfl trivial (z5u (2 * N) l1 (by omega) (by omega)) (.refl _) rfl ⟨_, rfl⟩ (by rintro r o rfl; rfl) ?_
 rintro _ o rfl
 cases hq1 : l1.all (clOk (2 * N)) with
 | false =>
  refine z6 tabOk Tryz.func25 rfl trivial (fun _ => ?_) (fun h => by cases h)
  rw [if_pos (.inr (.inl rfl))]
  exact z7 tabOk Tryz.func25 rfl trivial rfl
 | true =>
 refine z6 tabOk Tryz.func25 rfl trivial (fun h => by cases h) (fun _ => ?_)
 refine z8 tabOk Tryz.func25 rfl trivial ?_
 refine z1v ?_
 refine z6 tabOk Tryz.func25 rfl trivial (fun _ => ?_) (fun h => by cases h)
 refine zj 60 tabOk Tryz.func25 rfl trivial ?_
 refine z1c (j := 2) tabOk rfl rfl rfl rfl rfl rfl rfl rfl (by decide) rfl rfl ?_
 refine ze tabOk Tryz.func25 rfl trivial (z5u (N) l2 (by omega) (by omega)) (.refl _) rfl ⟨_, rfl⟩ (by rintro r o rfl; rfl) ?_
 rintro _ o rfl
 cases hq2 : l2.all (clOk (N)) with
 | false =>
  refine z6 tabOk Tryz.func25 rfl trivial (fun _ => ?_) (fun h => by cases h)
  rw [if_pos (.inr (.inr rfl))]
  exact z7 tabOk Tryz.func25 rfl trivial rfl
 | true =>
 refine z6 tabOk Tryz.func25 rfl trivial (fun h => by cases h) (fun _ => ?_)
 rw [if_neg (by rintro (h3 | h3 | h3) <;> cases h3)]
 refine z8 tabOk Tryz.func25 rfl trivial ?_
 refine z1v ?_
 refine z6 tabOk Tryz.func25 rfl trivial (fun h => by cases h) (fun _ => ?_)
 refine z8 tabOk Tryz.func25 rfl trivial ?_
 refine z3n ?_
 apply letK (p := ASat Tryz.prog 25 Tryz.f25.ntmps C _ [(5, .ptr 1 0), (60, .d (.ag [eI N, eIss l0, eI (2 * N), eIss l1, eI N, eIss l2])), (61, vI .i64 0)] [some (.cells 27 (AV.d (eAg a)).cells), some (bCt c)] _)
 ·intro key
  exact zg key hC hCl ⟨⟨_, rfl, .refl _⟩, ⟨_, rfl, .refl _⟩, ⟨_, rfl, .refl _⟩, trivial⟩ ⟨.refl _, .refl _, trivial⟩ rfl rfl (Nat.zero_le _)
 refine z6 tabOk Tryz.func25 rfl trivial (fun _ => ?_) (fun h => by cases h)
 refine zj 60 tabOk Tryz.func25 rfl trivial ?_
 refine z1c (j := 0) tabOk rfl rfl rfl rfl rfl rfl rfl rfl (by decide) rfl rfl ?_
 refine zp 10 tabOk Tryz.func25 rfl rfl trivial (by kernel_rfl) ?_
 refine zv tabOk rfl trivial (z9y (n := N) (l0 := l0) (p := c.p0) (by omega) (zds hq0) (z3z hp0) s0) (zf Tryz.func68 rfl rfl) (by rintro r o rfl; rfl) (.refl _) rfl rfl ⟨_, rfl⟩ ?_
 refine zo tabOk rfl trivial ?_
 refine z6 tabOk Tryz.func25 rfl trivial (fun h3 => ?_) (fun h3 => ?_)
 ·have h3 : ((chk l0 0 c.p0).2 != 0) = true := h3
  rw [bne_iff_ne] at h3
  rw [if_pos h3]
  exact z7 tabOk Tryz.func25 rfl trivial rfl
 have h3 : ((chk l0 0 c.p0).2 != 0) = false := h3
 rw [bne_eq_false_iff_eq] at h3
 rw [if_neg (fun hh => hh h3)]
 refine z8 tabOk Tryz.func25 rfl trivial ?_
 refine z1v ?_
 apply letK (p := ASat Tryz.prog 25 Tryz.f25.ntmps C _ [(5, .ptr 1 0), (60, .d (.ag [eI N, eIss l0, eI (2 * N), eIss l1, eI N, eIss l2])), (61, vI .i64 1)] [some (.cells 27 (AV.d (eAg a)).cells), some (bCt c)] _)
 ·intro key
  exact zg key hC hCl ⟨⟨_, rfl, .refl _⟩, ⟨_, rfl, .refl _⟩, ⟨_, rfl, .refl _⟩, trivial⟩ ⟨.refl _, .refl _, trivial⟩ rfl rfl (Nat.zero_le _)
 refine z6 tabOk Tryz.func25 rfl trivial (fun _ => ?_) (fun h => by cases h)
 refine zj 60 tabOk Tryz.func25 rfl trivial ?_
 refine z1c (j := 1) tabOk rfl rfl rfl rfl rfl rfl rfl rfl (by decide) rfl rfl ?_
 refine zp 10 tabOk Tryz.func25 rfl rfl trivial (by kernel_rfl) ?_
 refine zv tabOk rfl trivial (z9y (n := 2 * N) (l0 := l1) (p := c.p1) (by omega) (zds hq1) (z3z hp1) s1) (zf Tryz.func68 rfl rfl) (by rintro r o rfl; rfl) (.refl _) rfl rfl ⟨_, rfl⟩ ?_
 refine zo tabOk rfl trivial ?_
 refine z6 tabOk Tryz.func25 rfl trivial (fun h3 => ?_) (fun h3 => ?_)
 ·have h3 : ((chk l1 0 c.p1).2 != 0) = true := h3
  rw [bne_iff_ne] at h3
  rw [if_pos h3]
  exact z7 tabOk Tryz.func25 rfl trivial rfl
 have h3 : ((chk l1 0 c.p1).2 != 0) = false := h3
 rw [bne_eq_false_iff_eq] at h3
 rw [if_neg (fun hh => hh h3)]
 refine z8 tabOk Tryz.func25 rfl trivial ?_
 refine z1v ?_
 apply letK (p := ASat Tryz.prog 25 Tryz.f25.ntmps C _ [(5, .ptr 1 0), (60, .d (.ag [eI N, eIss l0, eI (2 * N), eIss l1, eI N, eIss l2])), (61, vI .i64 2)] [some (.cells 27 (AV.d (eAg a)).cells), some (bCt c)] _)
 ·intro key
  exact zg key hC hCl ⟨⟨_, rfl, .refl _⟩, ⟨_, rfl, .refl _⟩, ⟨_, rfl, .refl _⟩, trivial⟩ ⟨.refl _, .refl _, trivial⟩ rfl rfl (Nat.zero_le _)
 refine z6 tabOk Tryz.func25 rfl trivial (fun _ => ?_) (fun h => by cases h)
 refine zj 60 tabOk Tryz.func25 rfl trivial ?_
 refine z1c (j := 2) tabOk rfl rfl rfl rfl rfl rfl rfl rfl (by decide) rfl rfl ?_
 refine zp 10 tabOk Tryz.func25 rfl rfl trivial (by kernel_rfl) ?_
 refine zv tabOk rfl trivial (z9y (n := N) (l0 := l2) (p := c.p2) (by omega) (zds hq2) (z3z hp2) s2) (zf Tryz.func68 rfl rfl) (by rintro r o rfl; rfl) (.refl _) rfl rfl ⟨_, rfl⟩ ?_
 refine zo tabOk rfl trivial ?_
 refine z6 tabOk Tryz.func25 rfl trivial (fun h3 => ?_) (fun h3 => ?_)
 ·have h3 : ((chk l2 0 c.p2).2 != 0) = true := h3
  rw [bne_iff_ne] at h3
  rw [if_pos h3]
  exact z7 tabOk Tryz.func25 rfl trivial rfl
 have h3 : ((chk l2 0 c.p2).2 != 0) = false := h3
 rw [bne_eq_false_iff_eq] at h3
 rw [if_neg (fun hh => hh h3)]
 refine z8 tabOk Tryz.func25 rfl trivial ?_
 refine z1v ?_
 apply letK (p := ASat Tryz.prog 25 Tryz.f25.ntmps C _ [(5, .ptr 1 0), (60, .d (.ag [eI N, eIss l0, eI (2 * N), eIss l1, eI N, eIss l2])), (61, vI .i64 3)] [some (.cells 27 (AV.d (eAg a)).cells), some (bCt c)] _)
 ·intro key
  exact zg key hC hCl ⟨⟨_, rfl, .refl _⟩, ⟨_, rfl, .refl _⟩, ⟨_, rfl, .refl _⟩, trivial⟩ ⟨.refl _, .refl _, trivial⟩ rfl rfl (Nat.zero_le _)
 refine z6 tabOk Tryz.func25 rfl trivial (fun h => by cases h) (fun _ => ?_)
 exact z7 tabOk Tryz.func25 rfl trivial rfl
theorem z2c {l : Int} (h0 : -9223372036854775808 ≤ l) (h1 : l ≤ 9223372036854775807) : (tItoa l).length ≤ 21 := by
 have := zel h0 h1
 simpa [lit1] using this
theorem szS (l : List UInt8) : (⟨l.toArray⟩ : ByteArray).size = l.length := by simp [ByteArray.size]
theorem szA : (⟨#[10]⟩ : ByteArray).size = 1 ∧ (⟨#[32]⟩ : ByteArray).size = 1 ∧ (⟨#[105, 110, 118, 32]⟩ : ByteArray).size = 4 := ⟨rfl, rfl, rfl⟩
theorem szP : (⟨#[112, 114, 111, 111, 102, 32]⟩ : ByteArray).size = 6 := rfl
@[reducible] def bCr (a : Ag) (c : Ct) (f : Bool) (bs : List UInt8) : List (Option AObj) := [some (.cells 27 (AV.d (eAg a)).cells), some (bCt c), some (bld 2 3 f bs), some (gB bs)]
theorem z7c (a : Ag) (c : Ct) (f : Bool) (bs : List UInt8) : refsO 4 (bCr a c f bs) = true := by
 simp only [refsO, zkn (show 2 < 4 by decide) (show 3 < 4 by decide)]
 rfl
theorem zlq (l : List P2) (p : P2) : (l ++ [p]).flatMap gateT = l.flatMap gateT ++ gateT p := by simp
theorem zc5 : ∀ (l : List P2), (∀ p ∈ l, (0 ≤ p.1 ∧ p.1 ≤ 1000000000) ∧ 0 ≤ p.2 ∧ p.2 ≤ 1000000000) → (l.flatMap gateT).length ≤ l.length * 50
 | [], _ => by simp
 | p :: l, h => by
  have h1 := h p List.mem_cons_self
  have h2 := zc5 l fun x hx => h x (List.mem_cons_of_mem _ hx)
  have i0 := z2c (l := p.1) (by omega) (by omega)
  have i1 := z2c (l := p.2) (by omega) (by omega)
  simp only [List.flatMap_cons, List.length_append, List.length_cons, gateT, List.length_nil] at h2 ⊢
  omega
theorem zng {n : Int} {p : List Sp} (hn : 0 ≤ n ∧ n ≤ 100000) (h : z1l n p = true) (hl : p.length ≤ 1000) : (z1q p).length ≤ 22004000 ∧ (prT p).length ≤ 22005000 ∧ ∀ s ∈ p, (∀ x ∈ s.2.1, -1000000 ≤ x ∧ x ≤ 1000000) ∧ s.2.1.length ≤ 1000 := by
 have hs := z3z h
 have h1 : ∀ s ∈ p, (∀ x ∈ s.2.1, -1000000 ≤ x ∧ x ≤ 1000000) ∧ s.2.1.length ≤ 1000 := fun s hs' => ⟨fun x hx => by
  have := (hs s hs').1 x hx
  unfold litOk at this
  omega, (hs s hs').2⟩
 have h2 := z6w (m := 1000) (p := p) fun s hs' => ⟨fun l hl => by have := (h1 s hs').1 l hl; omega, (h1 s hs').2⟩
 have h3 : p.length * (1000 * 22 + 4) ≤ 1000 * (1000 * 22 + 4) := Nat.mul_le_mul_right _ hl
 have i0 := z2c (l := (p.length : Int)) (by omega) (by omega)
 refine ⟨by omega, ?_, h1⟩
 simp only [prT, za5, List.length_append, List.length_cons, List.length_nil]
 omega
theorem ziz (a : Ag) (c : Ct) (h : AcB a c) (hp : z2z a c = true → c.p0.length ≤ 1000 ∧ c.p1.length ≤ 1000 ∧ c.p2.length ≤ 1000) :
  ACall Tryz.prog 13 [.d (eAg a), .d (eCt c)] [] (fun r o => r = if z2z a c = true then tupOf [vStr (certT c), vI .i64 0] else tupOf [vStr [], vI .i64 1]) := by
 refine za Tryz.func13 rfl rfl (Nat.le_of_ble_eq_true rfl) fun C hC hCl hDs hGk => ?_
 refine ze tabOk Tryz.func13 rfl trivial (z6r a c h) (.refl _) rfl ⟨_, rfl⟩ (by rintro r o rfl; rfl) ?_
 rintro _ o rfl
 cases hR : z2z a c with
 | false =>
  rw [if_neg (by decide)]
  refine z6 tabOk Tryz.func13 rfl trivial (fun _ => ?_) (fun h => by cases h)
  exact z7 tabOk Tryz.func13 rfl trivial rfl
 | true =>
 rw [if_pos rfl]
 refine z6 tabOk Tryz.func13 rfl trivial (fun h => by cases h) (fun _ => ?_)
 obtain ⟨l0, l1, l2⟩ := hp hR
 obtain ⟨hg, hA, hinv, -, hp0, hp1, hp2⟩ := z3i.1 hR
 have hA' := z13.1 hA
 have hv1 := hA'.v1
 refine zj 7 tabOk Tryz.func13 rfl trivial ?_
 refine zfp 5 1 (fun i => eU8 (([] : List UInt8).getD i 0)) ?_
 have i0 := z2c (l := (c.g.length : Int)) (by omega) (by omega)
 have i1 := z2c (l := c.inv) (by omega) (by omega)
 have hlen : (((c.g.map eP2).length : Nat) : Int) = (c.g.length : Int) := by rw [List.length_map]
 refine zp 9 tabOk Tryz.func13 rfl rfl trivial (by kernel_rfl) ?_
 refine zv tabOk rfl trivial (z3w (c.g.length : Int) (by omega) (by omega)) (zf Tryz.func39 rfl rfl) (by rintro r o rfl; rfl) ⟨.of (congrArg (vI .i64) hlen), trivial⟩ rfl rfl ⟨_, rfl⟩ ?_
 refine zv tabOk rfl ?nd (z3w c.inv (by omega) (by omega)) (zf Tryz.func39 rfl rfl) (by rintro r o rfl; rfl) (.refl _) rfl rfl ⟨_, rfl⟩ ?_
 case nd =>
  refine ⟨?_, ?_, trivial⟩ <;> (simp only [ByteArray.size_append, szS, szA, List.length_cons, List.length_nil]; omega)
 refine zo tabOk rfl trivial ?_
 refine zn [2, 3] tabOk Tryz.func13 rfl ?nd (z3v false [] (kInv ++ (tItoa (c.g.length : Int) ++ [32]) ++ (tItoa c.inv ++ [10])) (by decide) ?nd2) (z3k rfl rfl) ⟨.refl _, .of ?_, trivial⟩ rfl rfl (z1n _ _) ⟨_, rfl⟩ ?_
 case nd =>
  refine ⟨?_, ?_, trivial⟩ <;> (simp only [ByteArray.size_append, szS, szA, List.length_cons, List.length_nil]; omega)
 case nd2 =>
  simp only [List.length_append, List.length_cons, List.length_nil, kInv]
  omega
 ·show AV.d (.v (.string (((((⟨[105, 110, 118, 32].toArray⟩ : ByteArray) ++ ⟨(tItoa (c.g.length : Int)).toArray⟩) ++ ⟨[32].toArray⟩) ++ ⟨(tItoa c.inv).toArray⟩) ++ ⟨[10].toArray⟩))) = vStr _
  rw [z3s, z3s, z3s, z3s, show kInv ++ (tItoa (c.g.length : Int) ++ [32]) ++ (tItoa c.inv ++ [10]) = [105, 110, 118, 32] ++ tItoa (c.g.length : Int) ++ [32] ++ tItoa c.inv ++ [10] by simp [kInv]]
 rintro _ o ⟨rfl, rfl⟩
 rw [List.nil_append]
 have hH0 : (kInv ++ (tItoa (c.g.length : Int) ++ [32]) ++ (tItoa c.inv ++ [10])).length ≤ 100 := by
  simp only [List.length_append, List.length_cons, List.length_nil, kInv]
  omega
 have hct : certT c = kInv ++ (tItoa (c.g.length : Int) ++ [32]) ++ (tItoa c.inv ++ [10]) ++ c.g.flatMap gateT ++ prT c.p0 ++ prT c.p1 ++ prT c.p2 := rfl
 rw [hct]
 generalize kInv ++ (tItoa (c.g.length : Int) ++ [32]) ++ (tItoa c.inv ++ [10]) = H0 at *
 refine z8 tabOk Tryz.func13 rfl trivial ?_
 have hgat := hA'.gat
 have hgi : ∀ p ∈ c.g, (0 ≤ p.1 ∧ p.1 ≤ 1000000000) ∧ 0 ≤ p.2 ∧ p.2 ≤ 1000000000 := fun p hp => (zp1 hA').g p (List.mem_append_right _ hp)
 have hgl : ∀ i, ((c.g.take i).flatMap gateT).length ≤ 20000 * 50 := fun i => by
  have := zc5 (c.g.take i) fun p hp => hgi p (List.mem_of_mem_take hp)
  rw [List.length_take] at this
  omega
 refine zh (α := Nat) (fun i => [(3, .ptr 1 0), (6, .ptr 2 0), (28, .d (eP2s c.g)), (29, vI .i64 c.g.length), (30, vI .i64 (i : Int))]) (fun i => bCr a c true (H0 ++ (c.g.take i).flatMap gateT)) (fun i => i ≤ c.g.length) (fun i => c.g.length - i) 0 (Nat.zero_le _) ?_ ?_
 ·refine fun h => zg h hC hCl ⟨⟨_, rfl, .refl _⟩, ⟨_, rfl, .refl _⟩, ⟨_, rfl, .refl _⟩, ⟨_, rfl, .of (by rw [List.length_map])⟩, ⟨_, rfl, .refl _⟩, trivial⟩ ⟨.refl _, .refl _, .of ?_, .of ?_, trivial⟩ rfl ?_ (Nat.zero_le _)
  ·show (bld 0 1 true _).ren _ = _
   rw [z5v, List.take_zero, List.flatMap_nil, List.append_nil]
   rfl
  ·rw [List.take_zero, List.flatMap_nil, List.append_nil]
   rfl
  ·exact z7c _ _ _ _
 rintro i hi ih
 have hgl0 := hgl i
 refine z6 tabOk Tryz.func13 rfl trivial (fun hb => ?_) (fun hb => ?_)
 ·have hb : decide ((i : Int) < (c.g.length : Int)) = true := hb
  rw [decide_eq_true_eq] at hb
  have hlt : i < c.g.length := by omega
  have ih := ih (i + 1) (by omega) (by omega)
  have hx := hgi c.g[i] (List.getElem_mem hlt)
  have hgd : c.g.getD i (0, 0) = c.g[i] := by rw [List.getD_eq_getElem?_getD, List.getElem?_eq_getElem hlt]; rfl
  rw [List.take_succ_eq_append_getElem hlt, zlq, ← List.append_assoc] at ih
  generalize c.g[i] = x at *
  have j0 := z2c (l := x.1) (by omega) (by omega)
  have j1 := z2c (l := x.2) (by omega) (by omega)
  refine zp 7 tabOk Tryz.func13 rfl rfl (by simp only [andP, and_true, true_and, Int.toNat_natCast, List.length_map, List.length_append, List.length_cons, List.length_nil, List.length_replicate]; omega) (by kernel_rfl) ?_
  refine zv tabOk rfl trivial (z3w x.1 (by omega) (by omega)) (zf Tryz.func39 rfl rfl) (by rintro r o rfl; rfl) ⟨.of (congrArg (fun z : P2 => vI .i64 z.1) hgd), trivial⟩ rfl rfl ⟨_, rfl⟩ ?_
  refine zv tabOk rfl ?nd (z3w x.2 (by omega) (by omega)) (zf Tryz.func39 rfl rfl) (by rintro r o rfl; rfl) ⟨.of (congrArg (fun z : P2 => vI .i64 z.2) hgd), trivial⟩ rfl rfl ⟨_, rfl⟩ ?_
  case nd =>
   refine ⟨?_, trivial⟩
   simp only [ByteArray.size_append, szS, szA, List.length_cons, List.length_nil]; omega
  refine zo tabOk rfl trivial ?_
  refine zn [2, 3] tabOk Tryz.func13 rfl ?nd3 (z3v true (H0 ++ (c.g.take i).flatMap gateT) (gateT x) (by rw [List.length_append]; omega) ?nd4) (z3k rfl rfl) ⟨.refl _, .of ?_, trivial⟩ rfl rfl (z1n _ _) ⟨_, rfl⟩ ?_
  case nd3 =>
   refine ⟨?_, ?_, trivial⟩ <;> (simp only [ByteArray.size_append, szS, szA, List.length_cons, List.length_nil]; omega)
  case nd4 =>
   simp only [List.length_append, List.length_cons, List.length_nil, gateT]
   omega
  ·show AV.d (.v (.string ((((⟨(tItoa x.1).toArray⟩ : ByteArray) ++ ⟨[32].toArray⟩) ++ ⟨(tItoa x.2).toArray⟩) ++ ⟨[10].toArray⟩))) = vStr _
   rw [z3s, z3s, z3s, show gateT x = tItoa x.1 ++ [32] ++ tItoa x.2 ++ [10] by simp [gateT]]
  rintro _ o ⟨rfl, rfl⟩
  refine z8 tabOk Tryz.func13 rfl trivial ?_
  refine zg ih hC hCl ⟨⟨_, rfl, .refl _⟩, ⟨_, rfl, .refl _⟩, ⟨_, rfl, .refl _⟩, ⟨_, rfl, .refl _⟩, ⟨_, rfl, .of (by rw [zb (by omega) (by omega)]; rfl)⟩, trivial⟩ ⟨.refl _, .refl _, .of ?_, .refl _, trivial⟩ rfl (z7c _ _ _ _) (Nat.zero_le _)
  show (bld 0 1 true _).ren _ = _
  rw [z5v]
  rfl
 have hb : decide ((i : Int) < (c.g.length : Int)) = false := hb
 rw [decide_eq_false_iff_not] at hb
 obtain rfl : i = c.g.length := by omega
 rw [List.take_length] at hgl0 ⊢
 obtain ⟨x0, y0, z0⟩ := zng (by omega) hp0 l0
 obtain ⟨x1, y1, z1⟩ := zng (by omega) hp1 l1
 obtain ⟨x2, y2, z2⟩ := zng (by omega) hp2 l2
 generalize hT : H0 ++ c.g.flatMap gateT = T at *
 have hTl : T.length ≤ 1000100 := by rw [← hT, List.length_append]; omega
 refine z8 tabOk Tryz.func13 rfl trivial ?_
 refine z3n ?_
 apply letK (p := ASat Tryz.prog 13 Tryz.f13.ntmps C _ [(6, .ptr 2 0), (46, .d (.ag [eSps c.p0, eSps c.p1, eSps c.p2])), (47, vI .i64 0)] (bCr a c true (T)) _)
 ·intro key
  refine zg key hC hCl ⟨⟨_, rfl, .refl _⟩, ⟨_, rfl, .refl _⟩, ⟨_, rfl, .refl _⟩, trivial⟩ ⟨.refl _, .refl _, .refl _, .refl _, trivial⟩ rfl (z7c _ _ _ _) (Nat.zero_le _)
 refine z6 tabOk Tryz.func13 rfl trivial (fun _ => ?_) (fun h => by cases h)
 refine zj 60 tabOk Tryz.func13 rfl trivial ?_
 refine z1c (j := 0) tabOk rfl rfl rfl rfl rfl rfl rfl rfl (by decide) rfl rfl ?_
 have q0 := z2c (l := (c.p0.length : Int)) (by omega) (by omega)
 refine ze tabOk Tryz.func13 rfl trivial (z3w (c.p0.length : Int) (by omega) (by omega)) ⟨.of (congrArg (vI .i64) zoc), trivial⟩ rfl ⟨_, rfl⟩ (by rintro r o rfl; rfl) ?_
 rintro _ o rfl
 refine ze tabOk Tryz.func13 rfl ?_ (z89 c.p0 z0 l0) (.refl _) rfl ⟨_, rfl⟩ (by rintro r o rfl; rfl) ?_
 ·refine ⟨?_, ?_, trivial⟩ <;> (simp only [ByteArray.size_append, szS, szA, szP, List.length_cons, List.length_nil]; omega)
 rintro _ o rfl
 refine zn [2, 3] tabOk Tryz.func13 rfl ?nd10 (z3v true (T) (prT c.p0) (by omega) (by omega)) (z3k rfl rfl) ⟨.refl _, .of ?_, trivial⟩ rfl rfl (z1n _ _) ⟨_, rfl⟩ ?_
 case nd10 =>
  refine ⟨?_, trivial⟩
  simp only [ByteArray.size_append, szS, szA, szP, List.length_cons, List.length_nil]; omega
 ·show AV.d (.v (.string ((((⟨[112, 114, 111, 111, 102, 32].toArray⟩ : ByteArray) ++ ⟨(tItoa (c.p0.length : Int)).toArray⟩) ++ ⟨[10].toArray⟩) ++ ⟨(z1q c.p0).toArray⟩))) = vStr _
  rw [z3s, z3s, z3s, show prT c.p0 = [112, 114, 111, 111, 102, 32] ++ tItoa (c.p0.length : Int) ++ [10] ++ z1q c.p0 by simp [prT, za5]]
 rintro _ o ⟨rfl, rfl⟩
 refine z8 tabOk Tryz.func13 rfl trivial ?_
 refine z1v ?_
 apply letK (p := ASat Tryz.prog 13 Tryz.f13.ntmps C _ [(6, .ptr 2 0), (46, .d (.ag [eSps c.p0, eSps c.p1, eSps c.p2])), (47, vI .i64 1)] (bCr a c true (T ++ prT c.p0)) _)
 ·intro key
  refine zg key hC hCl ⟨⟨_, rfl, .refl _⟩, ⟨_, rfl, .refl _⟩, ⟨_, rfl, .refl _⟩, trivial⟩ ⟨.refl _, .refl _, .of ?_, .refl _, trivial⟩ rfl (z7c _ _ _ _) (Nat.zero_le _)
  show (bld 0 1 true _).ren _ = _
  rw [z5v]
  rfl
 refine z6 tabOk Tryz.func13 rfl trivial (fun _ => ?_) (fun h => by cases h)
 refine zj 60 tabOk Tryz.func13 rfl trivial ?_
 refine z1c (j := 1) tabOk rfl rfl rfl rfl rfl rfl rfl rfl (by decide) rfl rfl ?_
 have q1 := z2c (l := (c.p1.length : Int)) (by omega) (by omega)
 refine ze tabOk Tryz.func13 rfl trivial (z3w (c.p1.length : Int) (by omega) (by omega)) ⟨.of (congrArg (vI .i64) zoc), trivial⟩ rfl ⟨_, rfl⟩ (by rintro r o rfl; rfl) ?_
 rintro _ o rfl
 refine ze tabOk Tryz.func13 rfl ?_ (z89 c.p1 z1 l1) (.refl _) rfl ⟨_, rfl⟩ (by rintro r o rfl; rfl) ?_
 ·refine ⟨?_, ?_, trivial⟩ <;> (simp only [ByteArray.size_append, szS, szA, szP, List.length_cons, List.length_nil]; omega)
 rintro _ o rfl
 refine zn [2, 3] tabOk Tryz.func13 rfl ?nd11 (z3v true (T ++ prT c.p0) (prT c.p1) (by simp only [List.length_append]; omega) (by omega)) (z3k rfl rfl) ⟨.refl _, .of ?_, trivial⟩ rfl rfl (z1n _ _) ⟨_, rfl⟩ ?_
 case nd11 =>
  refine ⟨?_, trivial⟩
  simp only [ByteArray.size_append, szS, szA, szP, List.length_cons, List.length_nil]; omega
 ·show AV.d (.v (.string ((((⟨[112, 114, 111, 111, 102, 32].toArray⟩ : ByteArray) ++ ⟨(tItoa (c.p1.length : Int)).toArray⟩) ++ ⟨[10].toArray⟩) ++ ⟨(z1q c.p1).toArray⟩))) = vStr _
  rw [z3s, z3s, z3s, show prT c.p1 = [112, 114, 111, 111, 102, 32] ++ tItoa (c.p1.length : Int) ++ [10] ++ z1q c.p1 by simp [prT, za5]]
 rintro _ o ⟨rfl, rfl⟩
 refine z8 tabOk Tryz.func13 rfl trivial ?_
 refine z1v ?_
 apply letK (p := ASat Tryz.prog 13 Tryz.f13.ntmps C _ [(6, .ptr 2 0), (46, .d (.ag [eSps c.p0, eSps c.p1, eSps c.p2])), (47, vI .i64 2)] (bCr a c true (T ++ prT c.p0 ++ prT c.p1)) _)
 ·intro key
  refine zg key hC hCl ⟨⟨_, rfl, .refl _⟩, ⟨_, rfl, .refl _⟩, ⟨_, rfl, .refl _⟩, trivial⟩ ⟨.refl _, .refl _, .of ?_, .refl _, trivial⟩ rfl (z7c _ _ _ _) (Nat.zero_le _)
  show (bld 0 1 true _).ren _ = _
  rw [z5v]
  rfl
 refine z6 tabOk Tryz.func13 rfl trivial (fun _ => ?_) (fun h => by cases h)
 refine zj 60 tabOk Tryz.func13 rfl trivial ?_
 refine z1c (j := 2) tabOk rfl rfl rfl rfl rfl rfl rfl rfl (by decide) rfl rfl ?_
 have q2 := z2c (l := (c.p2.length : Int)) (by omega) (by omega)
 refine ze tabOk Tryz.func13 rfl trivial (z3w (c.p2.length : Int) (by omega) (by omega)) ⟨.of (congrArg (vI .i64) zoc), trivial⟩ rfl ⟨_, rfl⟩ (by rintro r o rfl; rfl) ?_
 rintro _ o rfl
 refine ze tabOk Tryz.func13 rfl ?_ (z89 c.p2 z2 l2) (.refl _) rfl ⟨_, rfl⟩ (by rintro r o rfl; rfl) ?_
 ·refine ⟨?_, ?_, trivial⟩ <;> (simp only [ByteArray.size_append, szS, szA, szP, List.length_cons, List.length_nil]; omega)
 rintro _ o rfl
 refine zn [2, 3] tabOk Tryz.func13 rfl ?nd12 (z3v true (T ++ prT c.p0 ++ prT c.p1) (prT c.p2) (by simp only [List.length_append]; omega) (by omega)) (z3k rfl rfl) ⟨.refl _, .of ?_, trivial⟩ rfl rfl (z1n _ _) ⟨_, rfl⟩ ?_
 case nd12 =>
  refine ⟨?_, trivial⟩
  simp only [ByteArray.size_append, szS, szA, szP, List.length_cons, List.length_nil]; omega
 ·show AV.d (.v (.string ((((⟨[112, 114, 111, 111, 102, 32].toArray⟩ : ByteArray) ++ ⟨(tItoa (c.p2.length : Int)).toArray⟩) ++ ⟨[10].toArray⟩) ++ ⟨(z1q c.p2).toArray⟩))) = vStr _
  rw [z3s, z3s, z3s, show prT c.p2 = [112, 114, 111, 111, 102, 32] ++ tItoa (c.p2.length : Int) ++ [10] ++ z1q c.p2 by simp [prT, za5]]
 rintro _ o ⟨rfl, rfl⟩
 refine z8 tabOk Tryz.func13 rfl trivial ?_
 refine z1v ?_
 apply letK (p := ASat Tryz.prog 13 Tryz.f13.ntmps C _ [(6, .ptr 2 0), (46, .d (.ag [eSps c.p0, eSps c.p1, eSps c.p2])), (47, vI .i64 3)] (bCr a c true (T ++ prT c.p0 ++ prT c.p1 ++ prT c.p2)) _)
 ·intro key
  refine zg key hC hCl ⟨⟨_, rfl, .refl _⟩, ⟨_, rfl, .refl _⟩, ⟨_, rfl, .refl _⟩, trivial⟩ ⟨.refl _, .refl _, .of ?_, .refl _, trivial⟩ rfl (z7c _ _ _ _) (Nat.zero_le _)
  show (bld 0 1 true _).ren _ = _
  rw [z5v]
  rfl
 refine z6 tabOk Tryz.func13 rfl trivial (fun h => by cases h) (fun _ => ?_)
 refine zn [2, 3] tabOk Tryz.func13 rfl trivial (zhp true (T ++ prT c.p0 ++ prT c.p1 ++ prT c.p2)) (z3k rfl rfl) (.refl _) rfl rfl (z1n _ _) ⟨_, rfl⟩ ?_
 rintro _ o ⟨rfl, rfl⟩
 exact z7 tabOk Tryz.func13 rfl trivial rfl
end Go.Proofs.YtkemmijjpclckaaGreatDoor
