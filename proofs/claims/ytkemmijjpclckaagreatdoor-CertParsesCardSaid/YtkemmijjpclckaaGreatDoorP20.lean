/- A part of the proof. -/
import Derived.Test.YtkemmijjpclckaaGreatDoorP19
set_option linter.unusedVariables false
set_option linter.unusedSimpArgs false
set_option linter.unusedSectionVars false
set_option maxRecDepth 100000
set_option maxHeartbeats 8000000
namespace Go.Proofs.YtkemmijjpclckaaGreatDoor
open Go Ab Go.RowKit
@[reducible] def rdR (b : List UInt8) (p : Nat) : AObj := .cells 117 [.d (eBy b), vI .i64 (p : Int)]
@[reducible] def nilD : D := .v (.slice none 0 0)
@[reducible] def zCt : AObj := .cells 31 [.d nilD, .d (eI 0), .d nilD, .d nilD, .d nilD]
@[reducible] def gP2s (l : List P2) : AObj := gL 98 2 eP2 (0, 0) l
theorem dnil2 {s : Nat} {rd : Nat → D} : DLe (.v (.slice none 0 0)) (.sl s [] rd) := fun _ _ _ h => by
 cases h
 exact .nil (Nat.zero_le _)
theorem zk4 {v : Int} {g : List P2} {x : P2} (h : gatOk v g = true) (hx : 0 ≤ x.2 ∧ x.2 ≤ x.1 ∧ x.1 < 2 * (v + g.length)) : gatOk v (g ++ [x]) = true := by
 rw [z87, h, Bool.true_and, gatOk, gatOk, Bool.and_true]
 exact decide_eq_true hx
theorem zkk (a : Ag) (b : List UInt8) (ha : RightA a) (hb : b.length ≤ 1000000) : z59 Tryz.prog 59 [.ptr 0 0, .d (eAg a)] (ctO b 0) (prR b (bodyP a b) fun c => .d (eCt c)) (prE (bodyP a b)) := by
 refine z3o Tryz.func59 rfl rfl (Nat.le_of_ble_eq_true rfl) fun C hC hCl hDs hGk hPn => ?_
 have hB := z6g (z13.2 ha)
 have hbd := z48 hB
 have hv1 := ha.v1
 have hvw := z47 a hB
 obtain ⟨Q, hQ⟩ : ∃ Q, bodyP a b = Q := ⟨_, rfl⟩
 rw [hQ] at hPn ⊢
 unfold bodyP at hQ
 have er : ∀ {α : Type} {q : PR α} {F : α → Int → PR Ct}, bnd q F = Q → ∀ x, prE q x → C.pn x := by
  rintro α q F h x ⟨p, e, rfl, rfl⟩
  rw [hPn]
  exact ⟨_, _, h.symm, rfl⟩
 refine z10 [0] tabOk Tryz.func59 rfl trivial (z2a b kInv 0 hb (by decide)) (er hQ) ⟨⟨_, rfl, .refl _⟩, trivial⟩ (.refl _) rfl rfl rfl ⟨_, rfl⟩ ?_
 rintro r o ⟨_, p1, hx, rfl, rfl⟩
 obtain ⟨p1, t1, rfl, ⟨hp1, -⟩, -⟩ := (z1i (p := 0) (Nat.zero_le _)).ok _ _ hx
 rw [hx] at hQ
 simp only [bnd] at hQ
 clear hx
 refine ze tabOk Tryz.func59 rfl trivial hvw (.refl _) rfl ⟨_, rfl⟩ (by rintro r o rfl; rfl) ?_
 rintro _ o rfl
 have e1 : IntKind.i64.wrap (20000 - varsA a) = 20000 - varsA a := zb (by omega) (by omega)
 refine z10 [0] tabOk Tryz.func59 rfl trivial (z6c b p1 (20000 - varsA a) hb) (er hQ) ⟨⟨_, rfl, .refl _⟩, trivial⟩ ⟨.refl _, .refl _, .of (congrArg (fun z => vI .i64 z) e1), trivial⟩ rfl rfl rfl ⟨_, rfl⟩ ?_
 rintro r o ⟨m, p2, hx, rfl, rfl⟩
 obtain ⟨p2, t2, rfl, ⟨hp2, -⟩, -, hm0, hm1⟩ := (z2r hp1).ok _ _ hx
 rw [hx] at hQ
 simp only [bnd] at hQ
 clear hx
 refine z10 [0] tabOk Tryz.func59 rfl trivial (z2a b [32] p2 hb (by decide)) (er hQ) ⟨⟨_, rfl, .refl _⟩, trivial⟩ (.refl _) rfl rfl rfl ⟨_, rfl⟩ ?_
 rintro r o ⟨_, p3, hx, rfl, rfl⟩
 obtain ⟨p3, t3, rfl, ⟨hp3, -⟩, -⟩ := (z1i hp2).ok _ _ hx
 rw [hx] at hQ
 simp only [bnd] at hQ
 clear hx
 have e2 : IntKind.i64.wrap (varsA a + m) = varsA a + m := zb (by omega) (by omega)
 have e3 : IntKind.i64.wrap (2 * (varsA a + m)) = 2 * (varsA a + m) := zb (by omega) (by omega)
 have e4 : IntKind.i64.wrap (2 * (varsA a + m) + 1) = 2 * (varsA a + m) + 1 := zb (by omega) (by omega)
 refine zn 9 tabOk Tryz.func59 rfl rfl trivial (by kernel_rfl) ?_
 refine zx tabOk rfl trivial (hvw) (zf Tryz.func47 rfl rfl) (by rintro r o rfl; rfl) (.refl _) rfl rfl ⟨_, rfl⟩ ?_
 refine zo tabOk rfl trivial ?_
 apply letK (p := ASat Tryz.prog 59 Tryz.f59.ntmps C _ [(0, .ptr 0 0), (3, .ptr 1 0), (4, .ptr 2 0), (5, .ptr 3 0), (6, vI .i64 m), (7, vI .i64 (varsA a + m)), (8, vI .i64 (p3 : Int))] [some (rdR b p3), some (bAg a), some zCt, some zCt] _)
 ·intro key
  refine zh 3 tabOk Tryz.func59 rfl trivial ?_
  exact zg key hC hCl ⟨⟨_, rfl, .refl _⟩, ⟨_, rfl, .refl _⟩, ⟨_, rfl, .refl _⟩, ⟨_, rfl, .refl _⟩, ⟨_, rfl, .refl _⟩, ⟨_, rfl, .of (congrArg (fun z => vI .i64 z) e2)⟩, ⟨_, rfl, .refl _⟩, trivial⟩ ⟨.refl _, .refl _, .refl _, .refl _, trivial⟩ rfl rfl (Nat.le_of_ble_eq_true rfl)
 refine z10 [0] tabOk Tryz.func59 rfl trivial (z6c b p3 (2 * (varsA a + m) + 1) hb) (er hQ) ⟨⟨_, rfl, .refl _⟩, trivial⟩ ⟨.refl _, .refl _, .of ?vl, trivial⟩ rfl rfl rfl ⟨_, rfl⟩ ?_
 case vl =>
  show vI .i64 (IntKind.i64.wrap (IntKind.i64.wrap (2 * (varsA a + m)) + 1)) = _
  rw [e3, e4]
  rfl
 rintro r o ⟨inv, p4, hx, rfl, rfl⟩
 obtain ⟨p4, t4, rfl, ⟨hp4, -⟩, -, hi0, hi1⟩ := (z2r hp3).ok _ _ hx
 rw [hx] at hQ
 simp only [bnd] at hQ
 clear hx
 refine z10 [0] tabOk Tryz.func59 rfl trivial (z2a b [10] p4 hb (by decide)) (er hQ) ⟨⟨_, rfl, .refl _⟩, trivial⟩ (.refl _) rfl rfl rfl ⟨_, rfl⟩ ?_
 rintro r o ⟨_, p5, hx, rfl, rfl⟩
 obtain ⟨p5, t5, rfl, ⟨hp5, -⟩, -⟩ := (z1i hp4).ok _ _ hx
 rw [hx] at hQ
 simp only [bnd] at hQ
 clear hx
 refine za tabOk Tryz.func59 rfl trivial ?_
 refine z5d 3 0 (e' := 98) (s := 2) (fun i => eP2 (([] : List P2).getD i (0, 0))) rfl rfl ?_
 refine zj (α := Nat × Nat × List P2) (fun s => [(0, .ptr 0 0), (3, .ptr 1 0), (4, .ptr 2 0), (5, .ptr 3 0), (8, vI .i64 (p3 : Int)), (39, vI .i64 m), (40, vI .i64 (s.1 : Int))]) (fun s => [some (rdR b s.2.1), some (bAg a), some zCt, some (.cells 31 [.gs 4, vI .i64 inv, .d nilD, .d nilD, .d nilD]), some (gP2s s.2.2)])
  (fun s => (s.1 : Int) ≤ m ∧ s.2.1 ≤ b.length ∧ s.2.2.length = s.1 ∧ gatOk (varsA a + 1) s.2.2 = true ∧ bnd (z3j b (varsA a) (m.toNat - s.1) (s.2.1 : Int) s.2.2) (fun g p6 => if z2y { a with g := a.g ++ g } inv = true then .inl ((p3 : Int), 2) else restP b (varsA a + g.length + 1) g inv p6) = Q) (fun s => m.toNat - s.1) (0, p5, []) ⟨hm0, hp5, rfl, rfl, hQ⟩ ?_ ?_
 ·refine fun h => zg h hC hCl ⟨⟨_, rfl, .refl _⟩, ⟨_, rfl, .refl _⟩, ⟨_, rfl, .refl _⟩, ⟨_, rfl, .refl _⟩, ⟨_, rfl, .refl _⟩, ⟨_, rfl, .refl _⟩, ⟨_, rfl, .refl _⟩, trivial⟩ ⟨.refl _, .refl _, .refl _, .refl _, .gL rfl, trivial⟩ rfl rfl (Nat.le_of_ble_eq_true rfl)
 rintro ⟨i, p6, g⟩ ⟨hi, hp6, hgl, hgo, hcl⟩ ih
 simp only at hi hp6 hgl hgo hcl ih ⊢
 clear hQ
 refine z6 tabOk Tryz.func59 rfl trivial (fun h1 => ?_) (fun h1 => ?_)
 ·have h1 : decide ((i : Int) < m) = true := h1
  rw [decide_eq_true_eq] at h1
  rw [show m.toNat - i = (m.toNat - (i + 1)) + 1 by omega, z3j] at hcl
  unfold gateP at hcl
  have f1 : IntKind.i64.wrap (varsA a + 1) = varsA a + 1 := zb (by omega) (by omega)
  have f2 : IntKind.i64.wrap (varsA a + 1 + (i : Int)) = varsA a + 1 + (i : Int) := zb (by omega) (by omega)
  have f3 : IntKind.i64.wrap (2 * (varsA a + 1 + (i : Int))) = 2 * (varsA a + 1 + (i : Int)) := zb (by omega) (by omega)
  have f4 : IntKind.i64.wrap (2 * (varsA a + 1 + (i : Int)) - 1) = 2 * (varsA a + 1 + (i : Int)) - 1 := zb (by omega) (by omega)
  have er2 : ∀ {α : Type} {q : PR α} {F : α → Int → PR P2} {F2 : P2 → Int → PR (List P2)} {F3 : List P2 → Int → PR Ct}, bnd (bnd (bnd q F) F2) F3 = Q → ∀ x, prE q x → C.pn x := by
   rintro α q F F2 F3 h x ⟨p, e, rfl, rfl⟩
   rw [hPn]
   exact ⟨_, _, h.symm, rfl⟩
  rw [show (g.length : Int) = (i : Int) by omega] at hcl
  refine ze tabOk Tryz.func59 rfl trivial hvw (.refl _) rfl ⟨_, rfl⟩ (by rintro r o rfl; rfl) ?_
  rintro _ o rfl
  refine z10 [0] tabOk Tryz.func59 rfl trivial (z6c b p6 (2 * (varsA a + 1 + (i : Int)) - 1) hb) (er2 hcl) ⟨⟨_, rfl, .refl _⟩, trivial⟩ ⟨.refl _, .refl _, .of ?vl2, trivial⟩ rfl rfl rfl ⟨_, rfl⟩ ?_
  case vl2 =>
   show vI .i64 (IntKind.i64.wrap (IntKind.i64.wrap (2 * IntKind.i64.wrap (IntKind.i64.wrap (varsA a + 1) + (i : Int))) - 1)) = _
   rw [f1, f2, f3, f4]
   rfl
  rintro r o ⟨x, p7, hx, rfl, rfl⟩
  obtain ⟨p7, t7, rfl, ⟨hp7, -⟩, -, hx0, hx1⟩ := (z2r hp6).ok _ _ hx
  rw [hx] at hcl
  simp only [bnd] at hcl
  clear hx
  refine z10 [0] tabOk Tryz.func59 rfl trivial (z2a b [32] p7 hb (by decide)) (er2 hcl) ⟨⟨_, rfl, .refl _⟩, trivial⟩ (.refl _) rfl rfl rfl ⟨_, rfl⟩ ?_
  rintro r o ⟨_, p8, hx, rfl, rfl⟩
  obtain ⟨p8, t8, rfl, ⟨hp8, -⟩, -⟩ := (z1i hp7).ok _ _ hx
  rw [hx] at hcl
  simp only [bnd] at hcl
  clear hx
  refine z10 [0] tabOk Tryz.func59 rfl trivial (z6c b p8 x hb) (er2 hcl) ⟨⟨_, rfl, .refl _⟩, trivial⟩ (.refl _) rfl rfl rfl ⟨_, rfl⟩ ?_
  rintro r o ⟨y, p9, hx, rfl, rfl⟩
  obtain ⟨p9, t9, rfl, ⟨hp9, -⟩, -, hy0, hy1⟩ := (z2r hp8).ok _ _ hx
  rw [hx] at hcl
  simp only [bnd] at hcl
  clear hx
  refine z10 [0] tabOk Tryz.func59 rfl trivial (z2a b [10] p9 hb (by decide)) (er2 hcl) ⟨⟨_, rfl, .refl _⟩, trivial⟩ (.refl _) rfl rfl rfl ⟨_, rfl⟩ ?_
  rintro r o ⟨_, p10, hx, rfl, rfl⟩
  obtain ⟨p10, t10, rfl, ⟨hp10, -⟩, -⟩ := (z1i hp9).ok _ _ hx
  rw [hx] at hcl
  simp only [bnd] at hcl
  clear hx
  refine za tabOk Tryz.func59 rfl ?nd ?_
  case nd =>
   rw [List.length_map]
   show (g.length + 1) * 16 ≤ 140737488355328 ∧ True
   exact ⟨by omega, trivial⟩
  refine zg (ih (i + 1, p10, g ++ [(x, y)]) ⟨by simp only; omega, hp10, by simp only [List.length_append, List.length_singleton]; omega, zk4 hgo (by simp only; omega), hcl⟩ (by simp only; omega)) hC hCl ⟨⟨_, rfl, .refl _⟩, ⟨_, rfl, .refl _⟩, ⟨_, rfl, .refl _⟩, ⟨_, rfl, .refl _⟩, ⟨_, rfl, .refl _⟩, ⟨_, rfl, .refl _⟩, ⟨_, rfl, .of (by rw [zb (by omega) (by omega)]; rfl)⟩, trivial⟩ ⟨.refl _, .refl _, .refl _, .refl _, .gL ?_, trivial⟩ rfl rfl (Nat.le_of_ble_eq_true rfl)
  rw [List.map_append]
  rfl
 have h1 : decide ((i : Int) < m) = false := h1
 rw [decide_eq_false_iff_not] at h1
 obtain rfl : g.length = i := hgl
 have hml : (g.length : Int) = m := by omega
 rw [show m.toNat - g.length = 0 by omega, z3j] at hcl
 simp only [bnd] at hcl
 clear ih
 refine zy 4 rfl ?_
 have hgr := z5u (a := a) (c := ⟨g, inv, [], [], []⟩) ha (by simp only; omega) hgo
 have hvg : varsA (zu a ⟨g, inv, [], [], []⟩) = varsA a + g.length := z2i _ _
 have hcl : (if z2y (zu a ⟨g, inv, [], [], []⟩) inv = true then .inl ((p3 : Int), 2) else restP b (varsA a + g.length + 1) g inv p6) = Q := hcl
 refine ze tabOk Tryz.func59 rfl trivial (z6y a ⟨g, inv, [], [], []⟩ (by have := hB.g; have := ha.i0; unfold varsA at hv1; omega) (by simp only; omega)) ⟨.refl _, VLe.dag ⟨.refl _, .refl _, dnil2, dnil2, dnil2, trivial⟩, trivial⟩ rfl ⟨_, rfl⟩ (by rintro r o rfl; rfl) ?_
 rintro _ o rfl
 have hBG := z6g (z13.2 hgr)
 have hgat := hgr.gat
 generalize zu a ⟨g, inv, [], [], []⟩ = G at *
 refine ze tabOk Tryz.func59 rfl trivial (zcl G inv hBG hgat ⟨hi0, by rw [hvg]; omega⟩) (.refl _) rfl ⟨_, rfl⟩ (by rintro r o rfl; rfl) ?_
 rintro _ o rfl
 cases hH : z2y G inv with
 | true =>
  rw [if_pos hH] at hcl
  refine z6 tabOk Tryz.func59 rfl trivial (fun _ => ?_) (fun h => by cases h)
  refine zh 9 tabOk Tryz.func59 rfl trivial ?_
  refine z5q Tryz.func59 rfl rfl rfl rfl ?_
  rw [hPn]
  exact ⟨_, _, hcl.symm, rfl⟩
 | false =>
 rw [if_neg (by rw [hH]; decide)] at hcl
 refine z6 tabOk Tryz.func59 rfl trivial (fun h => by cases h) (fun _ => ?_)
 refine ze tabOk Tryz.func59 rfl trivial (zcw G hBG) (.refl _) rfl ⟨_, rfl⟩ (by rintro r o rfl; rfl) ?_
 rintro _ o rfl
 have hN : varsA G + 1 = varsA a + g.length + 1 := by rw [hvg]
 rw [← hN] at hcl
 have hN2 : 0 ≤ varsA G + 1 ∧ varsA G + 1 ≤ 20001 := by omega
 generalize hN' : varsA G + 1 = N at *
 unfold restP at hcl
 refine za tabOk Tryz.func59 rfl trivial ?_
 refine z3f ?_
 apply letK (p := ASat Tryz.prog 59 Tryz.f59.ntmps C _ [(0, .ptr 0 0), (4, .ptr 2 0), (5, .ptr 3 0), (80, .d (.ag [eI N, eI (2 * N), eI N])), (81, vI .i64 0)] [some (rdR b p6), none, some zCt, some (.cells 31 [.d (eP2s g), vI .i64 inv, .d nilD, .d nilD, .d nilD])] _)
 ·intro key
  exact zg key hC hCl ⟨⟨_, rfl, .refl _⟩, ⟨_, rfl, .refl _⟩, ⟨_, rfl, .refl _⟩, ⟨_, rfl, .of (by rw [← hN'])⟩, ⟨_, rfl, .refl _⟩, trivial⟩ ⟨.refl _, .refl _, .refl _, trivial⟩ rfl rfl (Nat.le_of_ble_eq_true rfl)
 refine z6 tabOk Tryz.func59 rfl trivial (fun _ => ?_) (fun h => by cases h)
 refine zh 60 tabOk Tryz.func59 rfl trivial ?_
 refine z1b (j := 0) tabOk rfl rfl rfl rfl rfl rfl rfl rfl (by decide) rfl rfl ?_
 refine z10 [0] tabOk Tryz.func59 rfl trivial (z7o b N p6 hb hp6 (by omega)) (er hcl) ⟨⟨_, rfl, .refl _⟩, trivial⟩ (.refl _) rfl rfl rfl ⟨_, rfl⟩ ?_
 rintro r o ⟨x, p7, hx, rfl, rfl⟩
 obtain ⟨p7, t7, rfl, ⟨hp7, -⟩, -⟩ := (z36 ⟨by omega, by omega⟩ hp6).ok _ _ hx
 rw [hx] at hcl
 simp only [bnd] at hcl
 clear hx
 refine za tabOk Tryz.func59 rfl trivial ?_
 refine z1q ?_
 apply letK (p := ASat Tryz.prog 59 Tryz.f59.ntmps C _ [(0, .ptr 0 0), (4, .ptr 2 0), (5, .ptr 3 0), (80, .d (.ag [eI N, eI (2 * N), eI N])), (81, vI .i64 1)] [some (rdR b p7), none, some zCt, some (.cells 31 [.d (eP2s g), vI .i64 inv, .d (eSps x), .d nilD, .d nilD])] _)
 ·intro key
  exact zg key hC hCl ⟨⟨_, rfl, .refl _⟩, ⟨_, rfl, .refl _⟩, ⟨_, rfl, .refl _⟩, ⟨_, rfl, .refl _⟩, ⟨_, rfl, .refl _⟩, trivial⟩ ⟨.refl _, .refl _, .refl _, trivial⟩ rfl rfl (Nat.le_of_ble_eq_true rfl)
 refine z6 tabOk Tryz.func59 rfl trivial (fun _ => ?_) (fun h => by cases h)
 refine zh 60 tabOk Tryz.func59 rfl trivial ?_
 refine z1b (j := 1) tabOk rfl rfl rfl rfl rfl rfl rfl rfl (by decide) rfl rfl ?_
 refine z10 [0] tabOk Tryz.func59 rfl trivial (z7o b (2 * N) p7 hb hp7 (by omega)) (er hcl) ⟨⟨_, rfl, .refl _⟩, trivial⟩ (.refl _) rfl rfl rfl ⟨_, rfl⟩ ?_
 rintro r o ⟨y, p8, hx, rfl, rfl⟩
 obtain ⟨p8, t8, rfl, ⟨hp8, -⟩, -⟩ := (z36 ⟨by omega, by omega⟩ hp7).ok _ _ hx
 rw [hx] at hcl
 simp only [bnd] at hcl
 clear hx
 refine za tabOk Tryz.func59 rfl trivial ?_
 refine z1q ?_
 apply letK (p := ASat Tryz.prog 59 Tryz.f59.ntmps C _ [(0, .ptr 0 0), (4, .ptr 2 0), (5, .ptr 3 0), (80, .d (.ag [eI N, eI (2 * N), eI N])), (81, vI .i64 2)] [some (rdR b p8), none, some zCt, some (.cells 31 [.d (eP2s g), vI .i64 inv, .d (eSps x), .d (eSps y), .d nilD])] _)
 ·intro key
  exact zg key hC hCl ⟨⟨_, rfl, .refl _⟩, ⟨_, rfl, .refl _⟩, ⟨_, rfl, .refl _⟩, ⟨_, rfl, .refl _⟩, ⟨_, rfl, .refl _⟩, trivial⟩ ⟨.refl _, .refl _, .refl _, trivial⟩ rfl rfl (Nat.le_of_ble_eq_true rfl)
 refine z6 tabOk Tryz.func59 rfl trivial (fun _ => ?_) (fun h => by cases h)
 refine zh 60 tabOk Tryz.func59 rfl trivial ?_
 refine z1b (j := 2) tabOk rfl rfl rfl rfl rfl rfl rfl rfl (by decide) rfl rfl ?_
 refine z10 [0] tabOk Tryz.func59 rfl trivial (z7o b N p8 hb hp8 (by omega)) (er hcl) ⟨⟨_, rfl, .refl _⟩, trivial⟩ (.refl _) rfl rfl rfl ⟨_, rfl⟩ ?_
 rintro r o ⟨z, p9, hx, rfl, rfl⟩
 obtain ⟨p9, t9, rfl, ⟨hp9, -⟩, -⟩ := (z36 ⟨by omega, by omega⟩ hp8).ok _ _ hx
 rw [hx] at hcl
 simp only [bnd] at hcl
 clear hx
 refine za tabOk Tryz.func59 rfl trivial ?_
 refine z1q ?_
 apply letK (p := ASat Tryz.prog 59 Tryz.f59.ntmps C _ [(0, .ptr 0 0), (4, .ptr 2 0), (5, .ptr 3 0), (80, .d (.ag [eI N, eI (2 * N), eI N])), (81, vI .i64 3)] [some (rdR b p9), none, some zCt, some (.cells 31 [.d (eP2s g), vI .i64 inv, .d (eSps x), .d (eSps y), .d (eSps z)])] _)
 ·intro key
  exact zg key hC hCl ⟨⟨_, rfl, .refl _⟩, ⟨_, rfl, .refl _⟩, ⟨_, rfl, .refl _⟩, ⟨_, rfl, .refl _⟩, ⟨_, rfl, .refl _⟩, trivial⟩ ⟨.refl _, .refl _, .refl _, trivial⟩ rfl rfl (Nat.le_of_ble_eq_true rfl)
 refine z6 tabOk Tryz.func59 rfl trivial (fun h => by cases h) (fun _ => ?_)
 refine zn 9 tabOk Tryz.func59 rfl rfl trivial (by kernel_rfl) ?_
 refine zo tabOk rfl trivial ?_
 refine z6 tabOk Tryz.func59 rfl trivial (fun h2 => ?_) (fun h2 => ?_)
 ·have h2 : decide ((p9 : Int) < (((b.map eU8).length : Nat) : Int)) = true := h2
  rw [decide_eq_true_eq, List.length_map] at h2
  rw [if_pos h2] at hcl
  refine zh 12 tabOk Tryz.func59 rfl trivial ?_
  refine z5q Tryz.func59 rfl rfl rfl rfl ?_
  rw [hPn]
  exact ⟨_, _, hcl.symm, rfl⟩
 ·have h2 : decide ((p9 : Int) < (((b.map eU8).length : Nat) : Int)) = false := h2
  rw [decide_eq_false_iff_not, List.length_map] at h2
  rw [if_neg h2] at hcl
  exact zp tabOk Tryz.func59 rfl trivial hC hCl (.refl _) (o2 := ctO b p9) ⟨.refl _, trivial⟩ rfl rfl (Nat.le_refl _) ⟨⟨g, inv, x, y, z⟩, _, hcl.symm, rfl, rfl⟩
@[reducible] def zAgO : AObj := .cells 27 [.d (eI 0), .d nilD, .d nilD, .d nilD, .d nilD, .d nilD, .d nilD]
@[reducible] def gAn (l : List P2) : AObj := .grow 98 2 (l.map eP2) (fun j => eP2 (l.getD j (0, 0)))
theorem zgs (a : Ag) (c : Ct) (h1 : a.g.length ≤ 100000) (h2 : c.g.length ≤ 100000) : ACall Tryz.prog 17 [.d (eAg a), .d (eCt c)] [] (fun r o => r = .d (eAg (zu a c))) := by
 refine z8 Tryz.func17 rfl rfl (Nat.le_of_ble_eq_true rfl) fun C hC hCl hDs hGk => ?_
 have hpl : C.π.length = 0 := by rw [hCl, hC]; rfl
 refine z5s 6 1 [(3, some (8, .gs 3))] (fun L => [some (bAg a), some (bCt c), some zAgO, some (pk 3 L (gAn a.g) HD)]) _ (objsF := [some (bAg a), some (bCt c), some zAgO, some (gAn a.g)]) tabOk Tryz.func17 rfl rfl trivial (by kernel_rfl) (by kernel_rfl) ?_ ?_ ?_ rfl (fun L => by
   refine z9g tabOk rfl rfl rfl rfl rfl rfl rfl ?_
   exact zo tabOk rfl trivial rfl) ?_ ?_
 ·rfl
 ·intro L hL
  simp only [zpr (hL 3 (by decide))]
 ·intro j L hb
  simp only [actB, List.any_cons, List.any_nil, Bool.or_false] at hb
  have n1 := Nat.ne_of_beq_eq_false hb
  simp only [pk_ne (fun e => n1 e.symm)]
 ·refine List.forall_mem_cons.2 ⟨⟨_, rfl, rfl, ?_⟩, fun x h => by cases h⟩
  refine zk2 (p := 3) (ys := a.g.map eP2) (rd2 := fun j => eP2 (a.g.getD j (0, 0))) tabOk rfl (fun _ _ _ h => h) rfl rfl rfl (fun L => rfl) rfl rfl rfl rfl rfl rfl ?_ rfl rfl rfl (by omega) ?_ ?_
  ·show (a.g.map eP2).length * 16 ≤ 140737488355328
   rw [List.length_map]
   omega
  ·intro L h1 _
   simp only [pk_no h1]
   rfl
  ·intro L h1 _
   simp only [zlu, pk_no h1]
   rfl
 refine zh 4 tabOk Tryz.func17 rfl ?nd ?_
 case nd =>
  refine ⟨?_, trivial⟩
  show ((a.g.map eP2).length + (c.g.map eP2).length) * 16 ≤ 140737488355328
  rw [List.length_map, List.length_map]
  omega
 refine zy 3 rfl ?_
 refine zp tabOk Tryz.func17 rfl trivial hC hCl (r2 := .d (eAg (zu a c))) (VLe.dag ⟨.refl _, .refl _, DLe.eL ?_, .refl _, .refl _, .refl _, .refl _, trivial⟩) (o2 := []) trivial rfl rfl (Nat.le_refl _) rfl
 rw [show (zu a c).g = a.g ++ c.g from rfl, List.map_append]
theorem zjd {H : List Bool} {v : Nat} (h : v < H.length) : H.take (v + 1) = H.take v ++ [H.getD v false] := by
 rw [List.take_succ_eq_append_getElem h]
 simp [h]
theorem zkx {H : List Bool} {v j : Nat} (hj : j < v) : (H.take v).getD j false = H.getD j false := by
 simp [List.getD_eq_getElem?_getD, List.getElem?_take, hj]
theorem zgr (a : Ag) (l : Int) (h : AgB a) (hg : gatOk (a.i + a.l.length + 1) a.g = true) (hl : 0 ≤ l ∧ l ≤ 2 * varsA a + 1) : ACall Tryz.prog 53 [.d (eAg a), vI .i64 l] [] (fun r o => r = vB (z2y a l)) := by
 refine z8 Tryz.func53 rfl rfl (Nat.le_of_ble_eq_true rfl) fun C hC hCl hDs hGk => ?_
 have hv := z48 h
 have hi0 := h.i0
 have hi1 := h.i1
 have hll := h.l
 have hgl := h.g
 have hit : ((a.i.toNat : Nat) : Int) = a.i := by omega
 have hF : GOkF (a.i.toNat + a.l.length + 1) a.g := zh5 (by rw [show ((a.i.toNat + a.l.length + 1 : Nat) : Int) = a.i + a.l.length + 1 by omega]; exact hg)
 have hHl := zfb a.i.toNat a.l.length a.g
 have hg0 := fun v => @zf9 a.i.toNat a.l.length a.g v
 have hgg := fun j hj => zb2 a.g (hang0 a.i.toNat a.l.length) j hj (by rw [z56]; exact hF)
 rw [z56] at hgg
 have hNN : ((hangA a.i.toNat a.l.length a.g).length : Int) = varsA a + 1 := by rw [hHl]; unfold varsA; omega
 unfold z2y
 change ∀ j (hj : j < a.g.length), (hangA a.i.toNat a.l.length a.g).getD (a.i.toNat + a.l.length + 1 + j) false = ((hangA a.i.toNat a.l.length a.g).getD (a.g[j].1 / 2).toNat false || (hangA a.i.toNat a.l.length a.g).getD (a.g[j].2 / 2).toNat false) at hgg
 generalize hangA a.i.toNat a.l.length a.g = H at *
 refine za tabOk Tryz.func53 rfl trivial ?_
 refine z3r (e := 4) (s := 1) (t := 5) (.inl rfl) (fun i => eBo (([] : List Bool).getD i false)) ?_
 refine zj (α := Nat) (fun v => [(1, vI .i64 l), (2, .ptr 0 0), (5, .gs 1), (6, vI .i64 (v : Int))]) (fun v => [some (bAg a), some (gBo (H.take v))]) (fun v => v ≤ H.length) (fun v => H.length - v) 0 (Nat.zero_le _) ?_ ?_
 ·exact fun h => zg h hC hCl ⟨⟨_, rfl, .refl _⟩, ⟨_, rfl, .refl _⟩, ⟨_, rfl, .refl _⟩, ⟨_, rfl, .refl _⟩, trivial⟩ ⟨.refl _, .gL rfl, trivial⟩ rfl rfl (Nat.zero_le _)
 rintro v hvl ih
 have hsl : (H.take v).length = v := by rw [List.length_take]; omega
 refine ze tabOk Tryz.func53 rfl trivial (z5e a h) (.refl _) rfl ⟨_, rfl⟩ (by rintro r o rfl; rfl) ?_
 rintro _ o rfl
 refine z6 tabOk Tryz.func53 rfl trivial (fun hb => ?_) (fun hb => ?_)
 rotate_left
 ·have hb : decide ((v : Int) ≤ varsA a) = false := hb
  rw [decide_eq_false_iff_not] at hb
  obtain rfl : v = H.length := by omega
  have e2 : IntKind.i64.wrap (Int.tdiv l 2) = l / 2 := by rw [Int.tdiv_eq_ediv_of_nonneg hl.1, zb (by omega) (by omega)]
  refine z7 tabOk Tryz.func53 rfl ?_ ?_
  ·rw [e2, List.length_map, hsl]
   exact ⟨by omega, ⟨by omega, by omega⟩, by decide, trivial⟩
  ·rw [e2, List.take_length]
   rfl
 have hb : decide ((v : Int) ≤ varsA a) = true := hb
 rw [decide_eq_true_eq] at hb
 have hlt : v < H.length := by omega
 have ih := ih (v + 1) (by omega) (by omega)
 rw [zjd hlt] at ih
 have hget := fun j => @zkx H v j
 have e3 : IntKind.i64.wrap ((v : Int) - a.i) = (v : Int) - a.i := zb (by omega) (by omega)
 have e4 : IntKind.i64.wrap ((v : Int) - a.i - (((a.l.map eP2).length : Nat) : Int)) = (v : Int) - a.i - (a.l.length : Int) := by rw [List.length_map, zb (by omega) (by omega)]
 have e5 : IntKind.i64.wrap ((v : Int) - a.i - (a.l.length : Int) - 1) = (v : Int) - a.i - (a.l.length : Int) - 1 := zb (by omega) (by omega)
 have eJ : IntKind.i64.wrap (IntKind.i64.wrap (IntKind.i64.wrap ((v : Int) - a.i) - (((a.l.map eP2).length : Nat) : Int)) - 1) = (v : Int) - a.i - (a.l.length : Int) - 1 := by rw [e3, e4, e5]
 refine z6 tabOk Tryz.func53 rfl trivial (fun h1 => ?_) (fun h1 => ?_)
 ·have h1 : decide (IntKind.i64.wrap (IntKind.i64.wrap (IntKind.i64.wrap ((v : Int) - a.i) - (((a.l.map eP2).length : Nat) : Int)) - 1) < 0) = true := h1
  rw [eJ, decide_eq_true_eq] at h1
  rw [hg0 v (by omega)] at ih
  refine z6 tabOk Tryz.func53 rfl trivial (fun h2 => ?_) (fun h2 => ?_)
  ·have h2 : decide ((v : Int) ≥ 1) = true := h2
   rw [decide_eq_true_eq] at h2
   refine za tabOk Tryz.func53 rfl (by simp only [andP, and_true, true_and, Int.toNat_natCast, List.length_map, List.length_append, List.length_cons, List.length_nil, List.length_replicate, hsl]; omega) ?_
   refine zg ih hC hCl ⟨⟨_, rfl, .refl _⟩, ⟨_, rfl, .refl _⟩, ⟨_, rfl, .refl _⟩, ⟨_, rfl, .of (by rw [zb (by omega) (by omega)]; rfl)⟩, trivial⟩ ⟨.refl _, .gL ?_, trivial⟩ rfl rfl (Nat.zero_le _)
   rw [List.map_append]
   show _ ++ [eBo (decide ((v : Int) ≤ a.i))] = _ ++ [eBo (decide (1 ≤ v ∧ v ≤ a.i.toNat))]
   rw [show decide ((v : Int) ≤ a.i) = decide (1 ≤ v ∧ v ≤ a.i.toNat) from decide_eq_decide.2 (by omega)]
  ·have h2 : decide ((v : Int) ≥ 1) = false := h2
   rw [decide_eq_false_iff_not] at h2
   rw [decide_eq_false (show ¬ (1 ≤ v ∧ v ≤ a.i.toNat) by omega)] at ih
   refine za tabOk Tryz.func53 rfl (by simp only [andP, and_true, true_and, Int.toNat_natCast, List.length_map, List.length_append, List.length_cons, List.length_nil, List.length_replicate, hsl]; omega) ?_
   refine zg ih hC hCl ⟨⟨_, rfl, .refl _⟩, ⟨_, rfl, .refl _⟩, ⟨_, rfl, .refl _⟩, ⟨_, rfl, .of (by rw [zb (by omega) (by omega)]; rfl)⟩, trivial⟩ ⟨.refl _, .gL ?_, trivial⟩ rfl rfl (Nat.zero_le _)
   rw [List.map_append]
   rfl
 have h1 : decide (IntKind.i64.wrap (IntKind.i64.wrap (IntKind.i64.wrap ((v : Int) - a.i) - (((a.l.map eP2).length : Nat) : Int)) - 1) < 0) = false := h1
 rw [eJ, decide_eq_false_iff_not] at h1
 obtain ⟨j, hj, hjl⟩ : ∃ j : Nat, v = a.i.toNat + a.l.length + 1 + j ∧ j < a.g.length := ⟨v - (a.i.toNat + a.l.length + 1), by omega, by omega⟩
 have hJ : IntKind.i64.wrap (IntKind.i64.wrap (IntKind.i64.wrap ((v : Int) - a.i) - (((a.l.map eP2).length : Nat) : Int)) - 1) = (j : Int) := by rw [eJ]; omega
 have hpg : p2 a.g j = a.g[j] := by simp [p2, hjl]
 have hgj := (z67 _ _).1 hg j hjl
 have hHv := hgg j hjl
 rw [← hj, ← hpg] at hHv
 rw [← hpg] at hgj
 generalize hp : p2 a.g j = p at *
 have q1 : IntKind.i64.wrap (Int.tdiv p.1 2) = p.1 / 2 := by rw [Int.tdiv_eq_ediv_of_nonneg (by omega), zb (by omega) (by omega)]
 have q2 : IntKind.i64.wrap (Int.tdiv p.2 2) = p.2 / 2 := by rw [Int.tdiv_eq_ediv_of_nonneg (by omega), zb (by omega) (by omega)]
 have g1 := hget (p.1 / 2).toNat (by omega)
 have g2 := hget (p.2 / 2).toNat (by omega)
 rw [hHv] at ih
 refine z6 tabOk Tryz.func53 rfl ?nd (fun h2 => ?_) (fun h2 => ?_)
 case nd =>
  rw [hJ, Int.toNat_natCast, show a.g.getD j (0, 0) = p from hp, q1, List.length_map, List.length_map, hsl]
  exact ⟨by omega, ⟨by omega, by omega⟩, by decide, ⟨by omega, by omega⟩, trivial⟩
 ·have h2 : (H.take v).getD (IntKind.i64.wrap (Int.tdiv (a.g.getD (IntKind.i64.wrap (IntKind.i64.wrap (IntKind.i64.wrap ((v : Int) - a.i) - (((a.l.map eP2).length : Nat) : Int)) - 1)).toNat (0, 0)).1 2)).toNat false = true := h2
  rw [hJ, Int.toNat_natCast, show a.g.getD j (0, 0) = p from hp, q1, g1] at h2
  rw [h2, Bool.true_or] at ih
  refine za tabOk Tryz.func53 rfl (by simp only [andP, and_true, true_and, Int.toNat_natCast, List.length_map, List.length_append, List.length_cons, List.length_nil, List.length_replicate, hsl]; omega) ?_
  refine zg ih hC hCl ⟨⟨_, rfl, .refl _⟩, ⟨_, rfl, .refl _⟩, ⟨_, rfl, .refl _⟩, ⟨_, rfl, .of (by rw [zb (by omega) (by omega)]; rfl)⟩, trivial⟩ ⟨.refl _, .gL ?_, trivial⟩ rfl rfl (Nat.zero_le _)
  rw [List.map_append]
  rfl
 ·have h2 : (H.take v).getD (IntKind.i64.wrap (Int.tdiv (a.g.getD (IntKind.i64.wrap (IntKind.i64.wrap (IntKind.i64.wrap ((v : Int) - a.i) - (((a.l.map eP2).length : Nat) : Int)) - 1)).toNat (0, 0)).1 2)).toNat false = false := h2
  rw [hJ, Int.toNat_natCast, show a.g.getD j (0, 0) = p from hp, q1, g1] at h2
  rw [h2, Bool.false_or] at ih
  refine za tabOk Tryz.func53 rfl ?nd3 ?_
  case nd3 =>
   rw [hJ]
   simp only [Int.toNat_natCast]
   rw [show a.g.getD j (0, 0) = p from hp, q2, List.length_map, List.length_map, hsl]
   exact ⟨by show (v + 1) * 1 ≤ 140737488355328; omega, by omega, ⟨by omega, by omega⟩, by decide, ⟨by omega, by omega⟩, trivial⟩
  refine zg ih hC hCl ⟨⟨_, rfl, .refl _⟩, ⟨_, rfl, .refl _⟩, ⟨_, rfl, .refl _⟩, ⟨_, rfl, .of (by rw [zb (by omega) (by omega)]; rfl)⟩, trivial⟩ ⟨.refl _, .gL ?_, trivial⟩ rfl rfl (Nat.zero_le _)
  rw [List.map_append]
  show _ ++ [eBo ((H.take v).getD (IntKind.i64.wrap (Int.tdiv (a.g.getD (IntKind.i64.wrap (IntKind.i64.wrap (IntKind.i64.wrap ((v : Int) - a.i) - (((a.l.map eP2).length : Nat) : Int)) - 1)).toNat (0, 0)).2 2)).toNat false)] = _
  rw [hJ, Int.toNat_natCast, show a.g.getD j (0, 0) = p from hp, q2, g2]
  rfl
structure AcM (a : Ag) (c : Ct) : Prop where
 b : AcB a c
 m : AgM a
 l0 : ∀ s ∈ c.p0, s.2.1.length ≤ maxLen
 l1 : ∀ s ∈ c.p1, s.2.1.length ≤ maxLen
 l2 : ∀ s ∈ c.p2, s.2.1.length ≤ maxLen
def sameC (a b : Ct) : Bool := decide (a.p0 = b.p0) && decide (a.p1 = b.p1) && decide (a.p2 = b.p2) && (a.inv == b.inv && decide (a.g = b.g))
theorem zli {a b : Ct} : sameC a b = true ↔ a = b := by
 unfold sameC
 simp only [Bool.and_eq_true, decide_eq_true_eq, beq_iff_eq]
 obtain ⟨g, i, p, q, r⟩ := a
 obtain ⟨g', i', p', q', r'⟩ := b
 constructor
 ·rintro ⟨⟨⟨h1, h2⟩, h3⟩, h4, h5⟩
  simp only at h1 h2 h3 h4 h5
  rw [h1, h2, h3, h4, h5]
 ·intro h
  cases h
  exact ⟨⟨⟨rfl, rfl⟩, rfl⟩, rfl, rfl⟩
theorem zgn (a b : Ct) (hla : a.g.length ≤ 1000000) : ACall Tryz.prog 21 [.d (eCt a), .d (eCt b)] [] (fun r o => r = vB (sameC a b)) := by
 refine z8 Tryz.func21 rfl rfl (Nat.le_of_ble_eq_true rfl) fun C hC hCl hDs hGk => ?_
 unfold sameC
 refine ze tabOk Tryz.func21 rfl trivial (z8n a.p0 b.p0) (.refl _) rfl ⟨_, rfl⟩ (by rintro r o rfl; rfl) ?_
 rintro _ o rfl
 refine ze tabOk Tryz.func21 rfl trivial (z8n a.p1 b.p1) (.refl _) rfl ⟨_, rfl⟩ (by rintro r o rfl; rfl) ?_
 rintro _ o rfl
 refine ze tabOk Tryz.func21 rfl trivial (z8n a.p2 b.p2) (.refl _) rfl ⟨_, rfl⟩ (by rintro r o rfl; rfl) ?_
 rintro _ o rfl
 generalize decide (a.p0 = b.p0) = x
 generalize decide (a.p1 = b.p1) = y
 generalize decide (a.p2 = b.p2) = z
 cases x with
 | false =>
  repeat refine z6 tabOk Tryz.func21 rfl trivial (fun _ => ?_) (fun h => by cases h)
  exact z7 tabOk Tryz.func21 rfl trivial rfl
 | true =>
 refine z6 tabOk Tryz.func21 rfl trivial (fun h => by cases h) (fun _ => ?_)
 cases y with
 | false =>
  repeat refine z6 tabOk Tryz.func21 rfl trivial (fun _ => ?_) (fun h => by cases h)
  exact z7 tabOk Tryz.func21 rfl trivial rfl
 | true =>
 refine z6 tabOk Tryz.func21 rfl trivial (fun h => by cases h) (fun _ => ?_)
 cases z with
 | false =>
  repeat refine z6 tabOk Tryz.func21 rfl trivial (fun _ => ?_) (fun h => by cases h)
  exact z7 tabOk Tryz.func21 rfl trivial rfl
 | true =>
 refine z6 tabOk Tryz.func21 rfl trivial (fun h => by cases h) (fun _ => ?_)
 refine z6 tabOk Tryz.func21 rfl trivial (fun h => ?_) (fun h => ?_)
 ·have h : (a.inv != b.inv) = true := h
  rw [bne_iff_ne] at h
  repeat refine z6 tabOk Tryz.func21 rfl trivial (fun _ => ?_) (fun h => by cases h)
  refine z7 tabOk Tryz.func21 rfl trivial ?_
  rw [show (a.inv == b.inv) = false from beq_eq_false_iff_ne.2 h]
  rfl
 have h : (a.inv != b.inv) = false := h
 rw [bne_eq_false_iff_eq] at h
 rw [show (a.inv == b.inv) = true from beq_iff_eq.2 h]
 refine z6 tabOk Tryz.func21 rfl trivial (fun h => ?_) (fun h => ?_)
 ·have h : ((((a.g.map eP2).length : Nat) : Int) != (((b.g.map eP2).length : Nat) : Int)) = true := h
  rw [bne_iff_ne, List.length_map, List.length_map] at h
  refine z7 tabOk Tryz.func21 rfl trivial ?_
  rw [decide_eq_false (show a.g ≠ b.g from fun e => h (by rw [e]))]
  rfl
 have h : ((((a.g.map eP2).length : Nat) : Int) != (((b.g.map eP2).length : Nat) : Int)) = false := h
 rw [bne_eq_false_iff_eq, List.length_map, List.length_map] at h
 have hl : a.g.length = b.g.length := by omega
 refine za tabOk Tryz.func21 rfl trivial ?_
 refine zj (α := Nat) (fun i => [(2, .ptr 0 0), (3, .ptr 1 0), (8, vI .i64 (i : Int))]) (fun _ => [some (bCt a), some (bCt b)]) (fun i => i ≤ a.g.length ∧ a.g.take i = b.g.take i) (fun i => a.g.length - i) 0 ⟨Nat.zero_le _, rfl⟩ ?_ ?_
 ·exact fun h => zg h hC hCl ⟨⟨_, rfl, .refl _⟩, ⟨_, rfl, .refl _⟩, ⟨_, rfl, .refl _⟩, trivial⟩ ⟨.refl _, .refl _, trivial⟩ rfl rfl (Nat.zero_le _)
 rintro i ⟨hi, hc⟩ ih
 refine z6 tabOk Tryz.func21 rfl trivial (fun hb => ?_) (fun hb => ?_)
 ·have hb : decide ((i : Int) < (((a.g.map eP2).length : Nat) : Int)) = true := hb
  rw [decide_eq_true_eq, List.length_map] at hb
  have hlt : i < a.g.length := by omega
  have hlb : i < b.g.length := by omega
  have ea : a.g.getD i (0, 0) = a.g[i] := by simp [hlt]
  have eb : b.g.getD i (0, 0) = b.g[i] := by simp [hlb]
  refine zn 10 tabOk Tryz.func21 rfl rfl trivial (by kernel_rfl) ?_
  refine zo tabOk rfl ?_ ?_
  ·exact (by simp only [andP, and_true, true_and, Int.toNat_natCast, List.length_map, List.length_append, List.length_cons, List.length_nil, List.length_replicate]; omega)
  refine zc6 (p := a.g.getD i (0, 0)) (q := b.g.getD i (0, 0)) rfl rfl rfl rfl rfl rfl ?_
  have hpq : ((a.g.getD i (0, 0)).1 == (b.g.getD i (0, 0)).1 && (a.g.getD i (0, 0)).2 == (b.g.getD i (0, 0)).2) = decide (a.g.getD i (0, 0) = b.g.getD i (0, 0)) := by
   rw [Bool.eq_iff_iff, Bool.and_eq_true, beq_iff_eq, beq_iff_eq, decide_eq_true_eq, Prod.ext_iff]
  rw [hpq]
  refine z6 tabOk Tryz.func21 rfl trivial (fun hb2 => ?_) (fun hb2 => ?_)
  ·rw [Bool.not_eq_true', decide_eq_false_iff_not] at hb2
   refine z7 tabOk Tryz.func21 rfl trivial ?_
   rw [decide_eq_false (show a.g ≠ b.g from fun e => hb2 (by rw [e]))]
   rfl
  ·rw [Bool.not_eq_false', decide_eq_true_eq, ea, eb] at hb2
   refine za tabOk Tryz.func21 rfl trivial ?_
   refine zg (ih (i + 1) ⟨by omega, ?_⟩ (by omega)) hC hCl ⟨⟨_, rfl, .refl _⟩, ⟨_, rfl, .refl _⟩, ⟨_, rfl, .of (by rw [zb (by omega) (by omega)]; rfl)⟩, trivial⟩ ⟨.refl _, .refl _, trivial⟩ rfl rfl (Nat.zero_le _)
   rw [List.take_add_one, List.take_add_one, hc, List.getElem?_eq_getElem hlt, List.getElem?_eq_getElem hlb, hb2]
 ·have hb : decide ((i : Int) < (((a.g.map eP2).length : Nat) : Int)) = false := hb
  rw [decide_eq_false_iff_not, List.length_map] at hb
  obtain rfl : i = a.g.length := by omega
  rw [List.take_length, hl, List.take_length] at hc
  refine z7 tabOk Tryz.func21 rfl trivial ?_
  rw [decide_eq_true hc]
  rfl
@[reducible] def pErC (e : Int) : AObj := .cells 34 [vI .i64 e]
@[reducible] def pAtC (a : Int) : AObj := .cells 3 [vI .i64 a]
@[reducible] def pCsC : List AV := [.ptr 1 0, .ptr 2 0, .ptr 3 0]
@[reducible] def pOb (a e : Int) : List (Option AObj) := [none, some zCt, some (pAtC a), some (pErC e)]
theorem z8f (at_ e : Int) : ACatch Tryz.prog 58 pCsC (pOb 0 0) (wrC at_ e) (pOb at_ e) := by
 refine zhm Tryz.func58 rfl rfl rfl rfl rfl rfl (by decide) (by decide) fun C hC hCl hDs hGk => ?_
 refine z6 tabOk Tryz.func58 rfl trivial (fun h => by cases h) (fun _ => ?_)
 refine zh 5 tabOk Tryz.func58 rfl trivial ?_
 refine zjl rfl rfl rfl rfl (d := .struct _) rfl rfl rfl ?_
 refine z5s 7 0 [(5, none), (6, none)] (fun L => [none, some zCt, some (pk 6 L (pAtC at_) (pAtC 0)), some (pErC 0), some (.cells 114 [vI .i64 at_, vI .i64 e])]) _
  (objsF := [none, some zCt, some (pAtC at_), some (pErC 0), some (.cells 114 [vI .i64 at_, vI .i64 e])]) tabOk Tryz.func58 rfl rfl trivial (by kernel_rfl) (by kernel_rfl) ?_ ?_ ?_ rfl (fun L => zo tabOk rfl trivial rfl) ?_ ?_
 ·rfl
 ·intro L hL
  simp only [zpr (hL 6 (by decide))]
 ·intro j L hb
  simp only [actB, List.any_cons, List.any_nil, Bool.or_false, Bool.or_eq_false_iff] at hb
  have n2 := Nat.ne_of_beq_eq_false hb.2
  simp only [pk_ne (fun e => n2 e.symm)]
 ·refine List.forall_mem_cons.2 ⟨⟨_, rfl, rfl, ?_⟩, List.forall_mem_cons.2 ⟨⟨_, rfl, rfl, ?_⟩, fun x h => by cases h⟩⟩
  ·refine z6r (a := .dead) (c := none) tabOk rfl (fun _ _ _ h => h) (fun L hL => ?_) trivial rfl
   simp only [pk_ne (show (5 : Nat) ≠ 6 by decide)]
   rfl
  ·refine z6r (a := .dead) (c := none) tabOk rfl (fun _ _ _ h => h) (fun L hL => ?_) trivial rfl
   simp only [zlu, pk_no hL]
   rfl
 exact zp tabOk Tryz.func58 rfl trivial hC hCl (.refl _) (o2 := pOb at_ e) ⟨.refl _, .refl _, .refl _, trivial⟩ rfl rfl (Nat.le_refl _) rfl
theorem zfw (caps : Array Value) (w : World) (hw : Globals.tb Tryz.prog w) (hcs : caps.size ≤ 15) : CallsD Tryz.prog 58 caps .returning w fun e u' w' => (∃ v, e = .returned v) ∧ u' = .returning ∧ Later w w' := by
 refine zhl Tryz.func58 rfl rfl rfl rfl rfl rfl (by decide) (fun C hC hCl hDs hGk => ?_) caps hcs w hw
 refine z6 tabOk Tryz.func58 rfl trivial (fun _ => ?_) (fun h => by cases h)
 exact z7 tabOk Tryz.func58 rfl trivial trivial
def cparA (q : PR Ct) : AV := match q with
 | .inl (a, e) => tupOf [.d (eCt ⟨[], 0, [], [], []⟩), vI .i64 a, vI .i64 e]
 | .inr (c, p) => tupOf [.d (eCt c), vI .i64 p, vI .i64 0]
@[reducible] def znh (q : PR Ct) : AV := match q with
 | .inl (a, e) => tupOf [.d (.ag [nilD, eI 0, nilD, nilD, nilD]), vI .i64 a, vI .i64 e]
 | .inr (c, p) => tupOf [.d (eCt c), vI .i64 p, vI .i64 0]
@[reducible] def pOv (a : Ag) (b : List UInt8) (c : Ct) (p : Int) (vh : Value) : List (Option AObj) := [some (bAg a), some (.cells 31 [.d (eP2s c.g), .d (eI c.inv), .d (eSps c.p0), .d (eSps c.p1), .d (eSps c.p2)]), some (pAtC 0), some (pErC 0), some (.hold (.fn (.func 58) pCsC) vh), some (.cells 117 [.d (eBy b), vI .i64 p])]
theorem zg1 (a : Ag) (b : List UInt8) (ha : RightA a) (hb : b.length ≤ 1000000) : ACall Tryz.prog 23 [.d (eAg a), .d (eBy b)] [] (fun r o => r = znh (certP a b)) := by
 refine z8 Tryz.func23 rfl rfl (Nat.le_of_ble_eq_true rfl) fun C hC hCl hDs hGk => ?_
 refine zh 11 tabOk Tryz.func23 rfl trivial ?_
 refine zji rfl rfl rfl rfl rfl (fun d vh hoff => ?_)
 obtain ⟨C', hC'⟩ : ∃ C', { C with ds := d :: C.ds } = C' := ⟨_, rfl⟩
 have hD : C'.ds = [d] := by rw [← hC', hDs]
 have hCo : C'.objs = [] := by rw [← hC']; exact hC
 have hCl' : C'.π.length = C'.objs.length := by rw [← hC']; exact hCl
 have hGk' : GOk Tryz.prog C'.π C'.objs C'.w := by rw [← hC']; exact hGk
 rw [hC']
 clear hC' hDs hCl hC hGk
 have hen : ∀ args w, (callFunc 58 args).run Tryz.prog w = .ok (.enter 58 args) w := zf Tryz.func58 rfl rfl
 have hof : OffV 58 vh d := hoff
 unfold certP
 refine z6 tabOk Tryz.func23 rfl trivial (fun h => ?_) (fun h => ?_)
 ·have h : 100000 < b.length := by
   have h : decide ((((b.map eU8).length : Nat) : Int) > 100000) = true := h
   rw [decide_eq_true_eq, List.length_map] at h
   omega
  refine zh 6 tabOk Tryz.func23 rfl trivial ?_
  refine zjg (m := 4) (o2 := pOb 0 0) (env2 := [(4, .ptr 1 0), (5, .ptr 2 0), (6, .ptr 3 0)]) tabOk Tryz.func23 rfl rfl rfl rfl hD hof hen rfl (z8f 0 3) ⟨.refl _, .refl _, .refl _, trivial⟩ rfl rfl hCo (Nat.zero_le _) hCl' ⟨⟨_, rfl, .refl _⟩, ⟨_, rfl, .refl _⟩, ⟨_, rfl, .refl _⟩, trivial⟩ rfl rfl ?_
  rw [if_pos h]
  rfl
 have h : ¬ 100000 < b.length := by
  have h : decide ((((b.map eU8).length : Nat) : Int) > 100000) = false := h
  rw [decide_eq_false_iff_not, List.length_map] at h
  omega
 rw [if_neg h]
 refine zjj [5] (m := 4) (o2 := pOb 0 0) (env2 := [(4, .ptr 1 0), (5, .ptr 2 0), (6, .ptr 3 0)]) tabOk Tryz.func23 rfl trivial hD hof hen (fun o => rfl) (fun o => ⟨.refl _, .refl _, .refl _, trivial⟩) rfl rfl hCo (Nat.zero_le _) hCl' ⟨⟨_, rfl, .refl _⟩, ⟨_, rfl, .refl _⟩, ⟨_, rfl, .refl _⟩, trivial⟩ rfl ?_ (zkk a b ha hb) ⟨⟨_, rfl, .refl _⟩, trivial⟩ (.refl _) rfl rfl rfl ⟨_, rfl⟩ ?_
 ·rintro x ⟨p, e, hx, rfl⟩
  refine ⟨_, _, z8f p e, rfl, ?_⟩
  rw [hx]
  rfl
 rintro r o ⟨c, p, hx, rfl, rfl⟩
 rw [hx]
 refine z5s 6 0 [(5, none)] (fun L => pOv a b c p vh) _ (objsF := pOv a b c p vh) tabOk Tryz.func23 rfl rfl trivial (by kernel_rfl) (by kernel_rfl) rfl (fun _ _ => rfl) (fun _ _ _ => rfl) rfl (fun L => zo tabOk rfl trivial rfl) ?_ ?_
 ·refine List.forall_mem_cons.2 ⟨⟨_, rfl, rfl, ?_⟩, fun x h => by cases h⟩
  refine z6r (a := .dead) (c := none) tabOk rfl (fun _ _ _ h => h) (fun L hL => ?_) trivial rfl
  rfl
 refine zoj (m := 4) hD hof hen rfl (fun caps w hw hs => zfw caps w hw (by rw [hs]; decide)) tabOk Tryz.func23 rfl trivial ?_
 rfl
theorem zbm (a : Ag) (b : List UInt8) (ha : RightA a) (hb : b.length ≤ 1000000) : ACall Tryz.prog 23 [.d (eAg a), .d (eBy b)] [] (fun r o => r = cparA (certP a b)) := by
 refine (zg1 a b ha hb).less ?_
 rintro r o rfl
 refine ⟨_, [], rfl, ?_, trivial, ?_, rfl, Nat.le_refl _⟩
 ·cases certP a b with
  | inl x => exact .tp ⟨.dag ⟨dnil2, .refl _, dnil2, dnil2, dnil2, trivial⟩, .refl _, .refl _, trivial⟩
  | inr x => exact .refl _
 ·cases certP a b <;> rfl
theorem zhp (n : Nat) (h1 : 1 ≤ n) (hn : n ≤ 1000000) (rd : Nat → D) : ACall Tryz.prog 164 [.d (.v (.slice none 0 0)), vI .i64 (n : Int)] [] (fun r o => r = .gs 0 ∧ o = [some (.grow 3 1 [] rd)]) := by
 intro X π w us hgk m hv
 refine .inl ⟨zf Tryz.func164 rfl rfl _ _, ?_⟩
 cases hv with | cons hv ht => cases ht with | cons hv2 ht => cases ht with | nil =>
 cases hv with | d hv => cases hv with | v _ =>
 cases hv2 with | d hv2 => cases hv2 with | v _ =>
 obtain rfl : π = [] := List.length_eq_zero_iff.1 m.len
 obtain ⟨i0, hi0, hz0, hs0, hb0⟩ : ∃ i0, Tryz.prog.info? (Tryz.growL_ren.t 25) = some i0 ∧ i0.zero = some (Value.int .i64 0) ∧ i0.size = 1 ∧ i0.bytes = 8 := by
  have h : (Tryz.prog.info? (Tryz.growL_ren.t 25)).map (fun i => (i.zero, i.size, i.bytes)) = some (some (Value.int .i64 0), 1, 8) := by kernel_rfl
  cases hi : Tryz.prog.info? (Tryz.growL_ren.t 25) with
  | none => rw [hi] at h; cases h
  | some i =>
   rw [hi] at h
   simp only [Option.map_some, Option.some.injEq, Prod.mk.injEq] at h
   exact ⟨i, rfl, h.1, h.2.1, h.2.2⟩
 have hcall := Any8.slices_Grow_grow Tryz.growL i0 (Value.int .i64 0) hi0 hz0 (by omega) none 0 0 n [] w (Nat.le_refl _) (by omega) (by rw [hb0]; omega) (by omega) (by simp) (fun _ => rfl) (fun a e => by cases e)
 refine Calls.mono hcall ?_
 rintro e w' ⟨rfl, rfl⟩
 have hG1 := grownCap_ge w (0 + n) 0 (Tryz.growL_ren.t 25)
 have hG2 := grownCap_le_maxLen w (0 + n) 0 (Tryz.growL_ren.t 25) (by have hml : maxLen = 9223372036854775807 := rfl; omega)
 generalize grownCap w (0 + n) 0 (Tryz.growL_ren.t 25) = G at *
 obtain ⟨c, rfl⟩ : ∃ c, G = c + 1 := ⟨G - 1, by omega⟩
 generalize hA : (#[] ++ Builtin.zeroCells (Value.int .i64 0).cells (0 + n - 0) ++ Builtin.zeroCells (Value.int .i64 0).cells (c + 1 - (0 + n)) : Array Value) = A
 have hAs : A.size = (c + 1) * 1 := by
  rw [← hA]
  simp only [Array.size_append, z26]
  show 0 + (0 + n - 0) * 1 + (c + 1 - (0 + n)) * 1 = (c + 1) * 1
  omega
 obtain ⟨A⟩ := A
 have hAs : A.length = (c + 1) * 1 := hAs
 have hnew : (w.drew.alloc (.cells A.toArray (Tryz.growL_ren.t 25))).heap[w.heap.size]? = some (.cells A.toArray 3 (0, 0)) := by
  show (w.heap.push _)[w.heap.size]? = _
  simp
  rfl
 have t := z2m (w' := w.drew.alloc (.cells A.toArray (Tryz.growL_ren.t 25))) m rfl rfl ⟨rfl, zv (Nat.le_succ _)⟩ (by show w.heap.size ≤ (w.heap.push _).size; simp) (fun b hb => z15 _ hb) (.slice (some ⟨w.heap.size, 0, none⟩) 0 (c + 1)) (.grow 3 1 [] rd)
  (by intro b e; cases e; exact Nat.le_refl _)
  (.grow (xs := []) (us := []) hnew (fun i _ h => by omega) .nil (fun i h => absurd h (Nat.not_lt_zero i)) (Nat.zero_le _) hG2 (by rw [hAs]; omega) (fun i h => absurd h (Nat.not_lt_zero i)))
 exact ⟨_, _, _, _, rfl, ⟨rfl, rfl⟩, t.mem, .gs rfl, t.hist⟩
theorem zg2 : ACall Tryz.prog 164 [.d (.v (.slice none 0 0)), vI .i64 0] [] (fun r o => r = .d (.v (.slice none 0 0))) :=
 z3n (fun _ _ => Nat.le_refl _) rfl (vs := [.slice none 0 0, .int .i64 0]) (fun w ok π us h => by
  cases h with | cons h1 h => cases h with | cons h2 h => cases h with | nil =>
  cases h1 with | d h1 => cases h1 with | v _ => cases h2 with | d h2 => cases h2 with | v _ => rfl) (fun args w => zf Tryz.func164 rfl rfl args w) fun w ht => (Any8.slices_Grow_room Tryz.growL none 0 0 0 w (Nat.le_refl _) (by omega) (by omega) (by omega)).mono fun e w' ⟨he, hw⟩ => ⟨he, hw ▸ ⟨rfl, rfl, rfl, Nat.le_refl _, fun b hb => rfl⟩⟩
@[reducible] def cIEs (l : List (Int)) : D := eL 1 eI 0 l
@[reducible] def cIEss (l : List (List (Int))) : D := eL 1 cIEs [] l
theorem zkm (L : List (List (Int))) (hLl : L.length ≤ 5) (hrow : ∀ r ∈ L, r.length ≤ 100000) : ACall Tryz.prog 145 [.d (cIEss L)] [] (fun r o => r = .d (cIEs L.flatten)) := by
 refine z8 Tryz.func145 rfl rfl (Nat.le_of_ble_eq_true rfl) fun C hC hCl hDs hGk => ?_
 refine za tabOk Tryz.func145 rfl trivial ?_
 have rows : ∀ i : Nat, i < L.length → (L.getD i []).length ≤ 100000 := fun i hi => by
  rw [show L.getD i [] = L[i] by simp [hi]]
  exact hrow _ (List.getElem_mem hi)
 have hsum : ∀ i : Nat, i < L.length → (L.take (i + 1)).flatten = (L.take i).flatten ++ L.getD i [] := fun i hi => by
  rw [List.take_succ_eq_append_getElem hi, List.flatten_append, show L.getD i [] = L[i] by simp [hi]]
  simp
 have hle : ∀ i : Nat, i ≤ L.length → (L.take i).flatten.length ≤ 100000 * i := by
  intro i
  induction i with
  | zero => simp
  | succ i ih =>
   intro hi
   rw [hsum i (by omega), List.length_append]
   have h1 := rows i (by omega)
   have h2 := ih (by omega)
   omega
 refine zj (α := Nat) (fun i => [(0, .d (cIEss L)), (9, .d (cIEss L)), (10, vI .i64 (L.length : Int)), (11, vI .i64 (i : Int)), (3, vI .i64 (((L.take i).flatten.length : Nat) : Int))]) (fun i => []) (fun i => i ≤ L.length) (fun i => L.length - i) 0 (Nat.zero_le _) ?_ ?_
 ·exact fun h => zg h hC hCl ⟨⟨_, rfl, .refl _⟩, ⟨_, rfl, .refl _⟩, ⟨_, rfl, .of (by rw [List.length_map])⟩, ⟨_, rfl, .refl _⟩, ⟨_, rfl, .of (by simp)⟩, trivial⟩ trivial rfl rfl (Nat.zero_le _)
 rintro i hi ih
 refine z6 tabOk Tryz.func145 rfl trivial (fun h => ?_) (fun h => ?_)
 ·have h : decide ((i : Int) < (L.length : Int)) = true := h
  rw [decide_eq_true_eq] at h
  have h1 := rows i (by omega)
  have h2 := hsum i (by omega)
  have h3 := hle i hi
  have hw : IntKind.i64.wrap ((((L.take i).flatten.length : Nat) : Int) + ((((L.getD i []).map eI).length : Nat) : Int)) = (((L.take (i + 1)).flatten.length : Nat) : Int) := by
   rw [h2, List.length_append, List.length_map, zb (by omega) (by omega)]
   omega
  refine z6 tabOk Tryz.func145 rfl ?nd (fun h4 => ?_) (fun h4 => ?_)
  case nd => exact ⟨⟨by omega, by rw [List.length_map]; omega⟩, trivial⟩
  ·have h4 : decide (IntKind.i64.wrap ((((L.take i).flatten.length : Nat) : Int) + ((((L.getD i []).map eI).length : Nat) : Int)) < 0) = true := h4
   rw [hw, decide_eq_true_eq] at h4
   omega
  refine za tabOk Tryz.func145 rfl trivial ?_
  exact zg (ih (i + 1) (by omega) (by omega)) hC hCl ⟨⟨_, rfl, .refl _⟩, ⟨_, rfl, .refl _⟩, ⟨_, rfl, .refl _⟩, ⟨_, rfl, .of (by rw [zb (by omega) (by omega)]; rfl)⟩, ⟨_, rfl, .of (by rw [← hw]; rfl)⟩, trivial⟩ trivial rfl rfl (Nat.zero_le _)
 have h : decide ((i : Int) < (L.length : Int)) = false := h
 rw [decide_eq_false_iff_not] at h
 obtain rfl : i = L.length := by omega
 have hf : (L.take L.length).flatten = L.flatten := by rw [List.take_length]
 have hT := hle L.length (Nat.le_refl _)
 apply letK (p := ASat Tryz.prog 145 Tryz.f145.ntmps C _ [(25, .d (cIEss L)), (26, vI .i64 (L.length : Int)), (27, vI .i64 0), (6, .gs 0)] [some (.grow 3 1 (([] : List (Int)).map eI) (fun i => eI (([] : List (Int)).getD i 0)))] (fun r o => r = .d (cIEs L.flatten)))
 ·intro key
  by_cases hz : (L.take L.length).flatten.length = 0
  ·refine ze tabOk Tryz.func145 rfl trivial zg2 ⟨.refl _, .of (by rw [hz]; rfl), trivial⟩ rfl ⟨_, rfl⟩ (by rintro r o rfl; rfl) ?_
   rintro _ o rfl
   refine za tabOk Tryz.func145 rfl trivial ?_
   refine z3r (t := 6) (e := 3) (s := 1) (.inl rfl) (fun i => eI (([] : List (Int)).getD i 0)) ?_
   exact zg key hC hCl ⟨⟨_, rfl, .refl _⟩, ⟨_, rfl, .of (by rw [List.length_map])⟩, ⟨_, rfl, .refl _⟩, ⟨_, rfl, .refl _⟩, trivial⟩ ⟨.refl _, trivial⟩ rfl rfl (Nat.zero_le _)
  ·refine zm [] tabOk Tryz.func145 rfl trivial (zhp (L.take L.length).flatten.length (by omega) (by omega) (fun i => eI (([] : List (Int)).getD i 0))) trivial (.refl _) rfl rfl rfl ⟨_, rfl⟩ ?_
   rintro _ o ⟨rfl, rfl⟩
   refine za tabOk Tryz.func145 rfl trivial ?_
   exact zg key hC hCl ⟨⟨_, rfl, .refl _⟩, ⟨_, rfl, .of (by rw [List.length_map])⟩, ⟨_, rfl, .refl _⟩, ⟨_, rfl, .refl _⟩, trivial⟩ ⟨.refl _, trivial⟩ rfl rfl (Nat.zero_le _)
 refine zj (α := Nat) (fun i => [(25, .d (cIEss L)), (26, vI .i64 (L.length : Int)), (27, vI .i64 (i : Int)), (6, .gs 0)]) (fun i => [some (.grow 3 1 ((L.take i).flatten.map eI) (fun j => eI ((L.take i).flatten.getD j 0)))]) (fun i => i ≤ L.length) (fun i => L.length - i) 0 (Nat.zero_le _) ?_ ?_
 ·exact fun h => zg h hC hCl ⟨⟨_, rfl, .refl _⟩, ⟨_, rfl, .refl _⟩, ⟨_, rfl, .refl _⟩, ⟨_, rfl, .refl _⟩, trivial⟩ ⟨.of (by simp), trivial⟩ rfl rfl (Nat.zero_le _)
 rintro i hi ih
 refine z6 tabOk Tryz.func145 rfl trivial (fun h => ?_) (fun h => ?_)
 ·have h : decide ((i : Int) < (L.length : Int)) = true := h
  rw [decide_eq_true_eq] at h
  have h1 := rows i (by omega)
  have h2 := hsum i (by omega)
  have h3 := hle i hi
  refine za tabOk Tryz.func145 rfl ?nd ?_
  case nd =>
   refine ⟨?_, ⟨by omega, by rw [List.length_map]; omega⟩, trivial⟩
   rw [List.length_map, List.length_map, Int.toNat_natCast]
   show ((L.take i).flatten.length + (L.getD i []).length) * 8 ≤ _
   omega
  refine zg (ih (i + 1) (by omega) (by omega)) hC hCl ⟨⟨_, rfl, .refl _⟩, ⟨_, rfl, .refl _⟩, ⟨_, rfl, .of (by rw [zb (by omega) (by omega)]; rfl)⟩, ⟨_, rfl, .refl _⟩, trivial⟩ ⟨.grow ?_ (z2v eI 0 _), trivial⟩ rfl rfl (Nat.zero_le _)
  rw [h2, List.map_append]
  rfl
 have h : decide ((i : Int) < (L.length : Int)) = false := h
 rw [decide_eq_false_iff_not] at h
 obtain rfl : i = L.length := by omega
 refine zy 0 rfl ?_
 refine z7 tabOk Tryz.func145 rfl trivial ?_
 rw [hf]
 rfl
theorem zbd (a : Ag) (n k : Nat) (l : Int) (h : AgB a) (hn : varsA a = (n : Int)) (hk : k ≤ 1000) (hl : 0 ≤ l ∧ l ≤ 1000000000000) : ACall Tryz.prog 144 [.d (eAg a), vI .i64 (k : Int), vI .i64 l] [] (fun r o => r = vI .i64 (litF n k l)) := by
 refine z8 Tryz.func144 rfl rfl (Nat.le_of_ble_eq_true rfl) fun C hC hCl hDs hGk => ?_
 have hv := z48 h
 have hp : 0 ≤ (k : Int) * ((n : Int) + 1) ∧ (k : Int) * ((n : Int) + 1) ≤ 1000 * 3000001 := ⟨Int.mul_nonneg (by omega) (by omega), Int.mul_le_mul (by omega) (by omega) (by omega) (by decide)⟩
 have hq : Int.tdiv l 2 = l / 2 := Int.tdiv_eq_ediv_of_nonneg hl.1
 have hr : Int.tmod l 2 = l % 2 := Int.tmod_eq_emod_of_nonneg hl.1
 unfold litF
 refine ze tabOk Tryz.func144 rfl trivial (z8x a (k : Int) h (by omega)) (.refl _) rfl ⟨_, rfl⟩ (by rintro r o rfl; rfl) ?_
 rintro _ o rfl
 rw [hn]
 generalize (k : Int) * ((n : Int) + 1) = K at *
 have e1 : IntKind.i64.wrap (Int.tdiv l 2) = l / 2 := by rw [hq, zb (by omega) (by omega)]
 have e2 : IntKind.i64.wrap (K + l / 2) = K + l / 2 := zb (by omega) (by omega)
 have e3 : IntKind.i64.wrap (K + l / 2 + 1) = K + l / 2 + 1 := zb (by omega) (by omega)
 have e5 : IntKind.i64.wrap (0 - (K + l / 2 + 1)) = -(K + l / 2 + 1) := by
  rw [Int.zero_sub]
  exact zb (by omega) (by omega)
 refine z6 tabOk Tryz.func144 rfl ⟨by decide, by decide, trivial⟩ (fun hb => ?_) (fun hb => ?_)
 ·have hb : (Int.tmod l 2 == 1) = true := hb
  rw [hr, beq_iff_eq] at hb
  rw [if_pos hb]
  refine z7 tabOk Tryz.func144 rfl trivial ?_
  show vI .i64 (IntKind.i64.wrap (0 - (IntKind.i64.wrap (IntKind.i64.wrap (K + IntKind.i64.wrap (Int.tdiv l 2)) + 1)))) = _
  rw [e1, e2, e3, e5]
 ·have hb : (Int.tmod l 2 == 1) = false := hb
  rw [hr, beq_eq_false_iff_ne] at hb
  rw [if_neg hb]
  refine z7 tabOk Tryz.func144 rfl trivial ?_
  show vI .i64 (IntKind.i64.wrap (IntKind.i64.wrap (K + IntKind.i64.wrap (Int.tdiv l 2)) + 1)) = _
  rw [e1, e2, e3]
@[reducible] def gIc (l : List Int) : AObj := gL 3 1 eI 0 l
theorem zn2 {α : Type} (pre : List α) (z : α) (i : Nat) (hi : i < pre.length) : (pre.take i ++ List.replicate (pre.length - i) z).set i pre[i] = pre.take (i + 1) ++ List.replicate (pre.length - (i + 1)) z := by
 apply List.ext_getElem?
 intro j
 have hl : (pre.take i).length = i := by simp; omega
 have hl1 : (pre.take (i + 1)).length = i + 1 := by simp; omega
 rw [List.getElem?_set]
 by_cases e : i = j
 ·subst e
  rw [if_pos rfl, if_pos (by simp; omega), List.getElem?_append_left (by omega)]
  simp [hi]
 ·rw [if_neg e]
  rcases Nat.lt_or_ge j i with h | h
  ·rw [List.getElem?_append_left (by omega), List.getElem?_append_left (by omega)]
   simp [List.getElem?_take, h, Nat.lt_succ_of_lt h]
  ·rw [List.getElem?_append_right (by omega), List.getElem?_append_right (by omega), hl, hl1]
   rw [List.getElem?_replicate, List.getElem?_replicate]
   by_cases h2 : j < pre.length
   ·rw [if_pos (by omega), if_pos (by omega)]
   ·rw [if_neg (by omega), if_neg (by omega)]
theorem z1z (a : Ag) (n k : Nat) (l : List Int) (h : AgB a) (hn : varsA a = (n : Int)) (hk : k ≤ 1000) (hl : ∀ x ∈ l, 0 ≤ x ∧ x ≤ 1000000000000) (hll : l.length ≤ 1000) : ACall Tryz.prog 109 [.d (eAg a), vI .i64 (k : Int), .d (eIs l)] [] (fun r o => r = .d (eIs (l.map (litF n k)))) := by
 refine z8 Tryz.func109 rfl rfl (Nat.le_of_ble_eq_true rfl) fun C hC hCl hDs hGk => ?_
 generalize hO : l.map (litF n k) = out
 have hol : out.length = l.length := by rw [← hO, List.length_map]
 refine za tabOk Tryz.func109 rfl ?nd ?_
 case nd =>
  rw [List.length_map]
  exact ⟨⟨by omega, Int.le_refl _, by show (l.length : Int) * 8 ≤ 281474976710656; omega⟩, trivial⟩
 refine zj (α := Nat) (fun i => [(1, vI .i64 (k : Int)), (3, .ptr 0 0), (7, .gs 1), (13, .d (eIs l)), (14, vI .i64 (l.length : Int)), (15, vI .i64 (i : Int))]) (fun i => [some (.cells 27 (AV.d (eAg a)).cells), some (gIc (out.take i ++ List.replicate (out.length - i) 0))]) (fun i => i ≤ l.length) (fun i => l.length - i) 0 (Nat.zero_le _) ?_ ?_
 ·refine fun h => zg h hC hCl ⟨⟨_, rfl, .refl _⟩, ⟨_, rfl, .refl _⟩, ⟨_, rfl, .refl _⟩, ⟨_, rfl, .refl _⟩, ⟨_, rfl, .of (by rw [List.length_map])⟩, ⟨_, rfl, .refl _⟩, trivial⟩ ⟨.refl _, .gL ?_, trivial⟩ rfl rfl (Nat.zero_le _)
  rw [List.length_map, Int.toNat_natCast, List.take_zero, List.nil_append, Nat.sub_zero, hol, List.map_replicate]
  rfl
 rintro i hi ih
 refine z6 tabOk Tryz.func109 rfl trivial (fun hb => ?_) (fun hb => ?_)
 ·have hb : decide ((i : Int) < (l.length : Int)) = true := hb
  rw [decide_eq_true_eq] at hb
  have hlt : i < l.length := by omega
  have hx := hl (l.getD i 0) (by rw [List.getD_eq_getElem?_getD, List.getElem?_eq_getElem hlt]; exact List.getElem_mem _)
  have hset := zn2 out 0 i (by omega)
  have hoi : out[i]'(by omega) = litF n k (l.getD i 0) := by
   subst hO
   rw [List.getElem_map, List.getD_eq_getElem?_getD, List.getElem?_eq_getElem hlt]
   rfl
  rw [hoi] at hset
  refine ze tabOk Tryz.func109 rfl ?_ (zbd a n k (l.getD i 0) h hn hk hx) (.refl _) rfl ⟨_, rfl⟩ (by rintro r o rfl; rfl) ?_
  ·exact (by simp only [andP, and_true, true_and, Int.toNat_natCast, List.length_map, List.length_append, List.length_cons, List.length_nil, List.length_replicate]; omega)
  rintro _ o rfl
  refine za tabOk Tryz.func109 rfl ?_ ?_
  ·exact (by simp only [andP, and_true, true_and, Int.toNat_natCast, List.length_map, List.length_append, List.length_cons, List.length_nil, List.length_replicate, List.length_take, hol]; omega)
  refine zg (ih (i + 1) (by omega) (by omega)) hC hCl ⟨⟨_, rfl, .refl _⟩, ⟨_, rfl, .refl _⟩, ⟨_, rfl, .refl _⟩, ⟨_, rfl, .refl _⟩, ⟨_, rfl, .refl _⟩, ⟨_, rfl, .of (by rw [zb (by omega) (by omega)]; rfl)⟩, trivial⟩ ⟨.refl _, .gL ?_, trivial⟩ rfl rfl (Nat.zero_le _)
  rw [← hset, List.map_set]
  rfl
 ·have hb : decide ((i : Int) < (l.length : Int)) = false := hb
  rw [decide_eq_false_iff_not] at hb
  obtain rfl : i = l.length := by omega
  rw [show out.take l.length ++ List.replicate (out.length - l.length) 0 = out by rw [hol, Nat.sub_self, List.replicate_zero, List.append_nil, List.take_of_length_le (by omega)]]
  refine zy 1 rfl ?_
  exact z7 tabOk Tryz.func109 rfl trivial rfl
@[reducible] def gIcs (l : List (List Int)) : AObj := gL 24 1 eIs [] l
theorem zmr {α β : Type} {f : α → β} {l : List α} : ((l.map f).length : Int) = (l.length : Int) := by rw [List.length_map]
theorem zhd (a : Ag) (n : Nat) (more : List Int) (h : AgB a) (hn : varsA a = (n : Int)) (hl : ∀ x ∈ a.con ++ more, 0 ≤ x ∧ x ≤ 1000000000000) (hc : a.con.length ≤ 50000) (hm : more.length ≤ 10) : ACall Tryz.prog 111 [.d (eAg a), .d (eIs more)] [] (fun r o => r = .d (eIss (consF n (a.con ++ more)))) := by
 refine z8 Tryz.func111 rfl rfl (Nat.le_of_ble_eq_true rfl) fun C hC hCl hDs hGk => ?_
 refine ze tabOk Tryz.func111 rfl trivial (zkm [a.con, more] (Nat.le_of_ble_eq_true rfl) (by
  intro r hr
  rcases List.mem_cons.1 hr with rfl | hr
  ·omega
  ·rcases List.mem_cons.1 hr with rfl | hr
   ·omega
   ·cases hr)) ⟨VLe.eL rfl, trivial⟩ rfl ⟨_, rfl⟩ (by rintro r o rfl; rfl) ?_
 rintro _ o rfl
 rw [show [a.con, more].flatten = a.con ++ more by simp]
 have hHl : (a.con ++ more).length ≤ 50010 := by rw [List.length_append]; omega
 generalize a.con ++ more = H at *
 refine za tabOk Tryz.func111 rfl trivial ?_
 refine z3r (e := 24) (s := 1) (t := 5) (.inl rfl) (fun i => eIs (([] : List (List Int)).getD i [])) ?_
 refine zj (α := Nat) (fun i => [(2, .ptr 0 0), (5, .gs 1), (12, .d (eIs H)), (13, vI .i64 (H.length : Int)), (14, vI .i64 (i : Int))]) (fun i => [some (.cells 27 (AV.d (eAg a)).cells), some (gIcs ((consF n H).take i))]) (fun i => i ≤ H.length) (fun i => H.length - i) 0 (Nat.zero_le _) ?_ ?_
 ·exact fun h => zg h hC hCl ⟨⟨_, rfl, .refl _⟩, ⟨_, rfl, .refl _⟩, ⟨_, rfl, .refl _⟩, ⟨_, rfl, .of (by rw [List.length_map])⟩, ⟨_, rfl, .refl _⟩, trivial⟩ ⟨.refl _, .gL rfl, trivial⟩ rfl rfl (Nat.zero_le _)
 rintro i hi ih
 have hcl : (consF n H).length = H.length := by unfold consF; rw [List.length_map]
 refine z6 tabOk Tryz.func111 rfl trivial (fun hb => ?_) (fun hb => ?_)
 ·have hb : decide ((i : Int) < (H.length : Int)) = true := hb
  rw [decide_eq_true_eq] at hb
  have hlt : i < H.length := by omega
  have hx := hl (H.getD i 0) (by rw [List.getD_eq_getElem?_getD, List.getElem?_eq_getElem hlt]; exact List.getElem_mem _)
  have hstep : (consF n H).take (i + 1) = (consF n H).take i ++ [[litF n 0 (H.getD i 0)]] := by
   rw [List.take_add_one, List.getElem?_eq_getElem (by omega)]
   unfold consF
   rw [List.getElem_map, List.getD_eq_getElem?_getD, List.getElem?_eq_getElem hlt]
   rfl
  refine ze tabOk Tryz.func111 rfl ?_ (z1z a n 0 [H.getD i 0] h hn (by omega) (by
   intro x hx2
   rw [List.mem_singleton] at hx2
   rw [hx2]
   exact hx) (by simp)) ⟨.refl _, .refl _, VLe.eL rfl, trivial⟩ rfl ⟨_, rfl⟩ (by rintro r o rfl; rfl) ?_
  ·exact (by simp only [andP, and_true, true_and, Int.toNat_natCast, List.length_map, List.length_append, List.length_cons, List.length_nil, List.length_replicate]; omega)
  rintro _ o rfl
  refine za tabOk Tryz.func111 rfl ?_ ?_
  ·exact (by simp only [andP, and_true, true_and, Int.toNat_natCast, List.length_map, List.length_append, List.length_cons, List.length_nil, List.length_replicate, List.length_take, hcl]; omega)
  refine zg (ih (i + 1) (by omega) (by omega)) hC hCl ⟨⟨_, rfl, .refl _⟩, ⟨_, rfl, .refl _⟩, ⟨_, rfl, .refl _⟩, ⟨_, rfl, .refl _⟩, ⟨_, rfl, .of (by rw [zb (by omega) (by omega)]; rfl)⟩, trivial⟩ ⟨.refl _, .gL ?_, trivial⟩ rfl rfl (Nat.zero_le _)
  rw [hstep, List.map_append]
  rfl
 ·have hb : decide ((i : Int) < (H.length : Int)) = false := hb
  rw [decide_eq_false_iff_not] at hb
  obtain rfl : i = H.length := by omega
  rw [List.take_of_length_le (by omega)]
  refine zy 1 rfl ?_
  exact z7 tabOk Tryz.func111 rfl trivial rfl
theorem zcp (n : Nat) : ∀ (l m : List P2) (v : Nat), z2b n v (l ++ m) = z2b n v l ++ z2b n (v + l.length) m
 | [], m, v => rfl
 | p :: l, m, v => by
  rw [List.cons_append, z2b, z2b, zcp n l m, List.append_assoc, List.length_cons, show v + 1 + l.length = v + (l.length + 1) by omega]
theorem zha {n v : Nat} {l : List P2} {i : Nat} (h : i < l.length) : z2b n v (l.take (i + 1)) = z2b n v (l.take i) ++ z2b n (v + i) [l[i]] := by
 rw [List.take_add_one, List.getElem?_eq_getElem h, Option.toList_some, zcp, List.length_take, Nat.min_eq_left (by omega)]
theorem z8w (n : Nat) : ∀ (l : List P2) (v : Nat), (z2b n v l).length ≤ l.length
 | [], v => Nat.le_refl _
 | p :: l, v => by
  have := z8w n l (v + 1)
  rw [z2b, List.length_append, List.length_cons]
  split
  ·simp; omega
  ·split <;> simp <;> omega
theorem zih (n k v : Nat) : litF n k (2 * (v : Int) + 1) = -litF n k (2 * (v : Int)) := by
 have h := z52 n k (2 * (v : Int))
 unfold turnL at h
 rw [if_neg (by omega)] at h
 exact h
theorem zhf (a : Ag) (n b : Nat) (h : AgB a) (hn : varsA a = (n : Int)) (hb : a.i = (b : Int)) (hl : ∀ p ∈ a.l, 0 ≤ p.2) : ACall Tryz.prog 108 [.d (eAg a)] [] (fun r o => r = .d (eIss (z2b n (b + 1) a.l))) := by
 refine z8 Tryz.func108 rfl rfl (Nat.le_of_ble_eq_true rfl) fun C hC hCl hDs hGk => ?_
 have hi1 := h.i1
 have hll := h.l
 have eb : ∀ x y : D, True := fun _ _ => trivial
 refine za tabOk Tryz.func108 rfl trivial ?_
 refine z3r (e := 24) (s := 1) (t := 3) (.inl rfl) (fun i => eIs (([] : List (List Int)).getD i [])) ?_
 refine zj (α := Nat) (fun i => [(1, .ptr 0 0), (3, .gs 1), (7, .d (eP2s a.l)), (8, vI .i64 (a.l.length : Int)), (9, vI .i64 (i : Int))]) (fun i => [some (.cells 27 (AV.d (eAg a)).cells), some (gIcs (z2b n (b + 1) (a.l.take i)))]) (fun i => i ≤ a.l.length) (fun i => a.l.length - i) 0 (Nat.zero_le _) ?_ ?_
 ·exact fun h => zg h hC hCl ⟨⟨_, rfl, .refl _⟩, ⟨_, rfl, .refl _⟩, ⟨_, rfl, .refl _⟩, ⟨_, rfl, .of (by rw [List.length_map])⟩, ⟨_, rfl, .refl _⟩, trivial⟩ ⟨.refl _, .gL rfl, trivial⟩ rfl rfl (Nat.zero_le _)
 rintro i hi ih
 have hcl : (z2b n (b + 1) (a.l.take i)).length ≤ i := Nat.le_trans (z8w _ _ _) (by rw [List.length_take]; omega)
 refine z6 tabOk Tryz.func108 rfl trivial (fun hb2 => ?_) (fun hb2 => ?_)
 rotate_left
 ·have hb2 : decide ((i : Int) < (a.l.length : Int)) = false := hb2
  rw [decide_eq_false_iff_not] at hb2
  obtain rfl : i = a.l.length := by omega
  rw [List.take_of_length_le (Nat.le_refl _)]
  refine zy 1 rfl ?_
  exact z7 tabOk Tryz.func108 rfl trivial rfl
 have hb2 : decide ((i : Int) < (a.l.length : Int)) = true := hb2
 rw [decide_eq_true_eq] at hb2
 have hlt : i < a.l.length := by omega
 have ih := ih (i + 1) (by omega) (by omega)
 rw [zha hlt] at ih
 have hx0 := hl a.l[i] (List.getElem_mem hlt)
 have hgd : a.l.getD i (0, 0) = a.l[i] := by rw [List.getD_eq_getElem?_getD, List.getElem?_eq_getElem hlt]; rfl
 generalize a.l[i] = x at *
 have hfs : z2b n (b + 1 + i) [x] = if x.2 < 2 then [[litF n 0 (2 * ((b + 1 + i : Nat) : Int) + 1 - x.2)]] else [] := by
  rw [z2b, z2b, List.append_nil]
  by_cases h0 : x.2 = 0
  ·rw [if_pos h0, if_pos (by omega), h0, Int.sub_zero, zih]
  ·rw [if_neg h0]
   by_cases h1 : x.2 = 1
   ·rw [if_pos h1, if_pos (by omega), h1, Int.add_sub_cancel]
   ·rw [if_neg h1, if_neg (by omega)]
 rw [hfs] at ih
 refine z6 tabOk Tryz.func108 rfl (by simp only [andP, and_true, true_and, Int.toNat_natCast, List.length_map, List.length_append, List.length_cons, List.length_nil, List.length_replicate]; omega) (fun h2 => ?_) (fun h2 => ?_)
 ·have h2 : decide ((a.l.getD i (0, 0)).2 < 2) = true := h2
  rw [hgd, decide_eq_true_eq] at h2
  rw [if_pos h2] at ih
  have e1 : IntKind.i64.wrap (a.i + 1) = a.i + 1 := zb (by omega) (by omega)
  have e2 : IntKind.i64.wrap (a.i + 1 + (i : Int)) = a.i + 1 + (i : Int) := zb (by omega) (by omega)
  have e3 : IntKind.i64.wrap (2 * (a.i + 1 + (i : Int))) = 2 * (a.i + 1 + (i : Int)) := zb (by omega) (by omega)
  have e4 : IntKind.i64.wrap (2 * (a.i + 1 + (i : Int)) + 1) = 2 * (a.i + 1 + (i : Int)) + 1 := zb (by omega) (by omega)
  have e5 : IntKind.i64.wrap (2 * (a.i + 1 + (i : Int)) + 1 - x.2) = 2 * ((b + 1 + i : Nat) : Int) + 1 - x.2 := by rw [zb (by omega) (by omega)]; omega
  refine ze tabOk Tryz.func108 rfl trivial (z1z a n 0 [2 * ((b + 1 + i : Nat) : Int) + 1 - x.2] h hn (by omega) (by
   intro y hy
   rw [List.mem_singleton] at hy
   rw [hy]
   omega) (by simp)) ⟨.refl _, .refl _, VLe.eL ?_, trivial⟩ rfl ⟨_, rfl⟩ (by rintro r o rfl; rfl) ?_
  ·show [eI (IntKind.i64.wrap (IntKind.i64.wrap (IntKind.i64.wrap (2 * IntKind.i64.wrap (IntKind.i64.wrap (a.i + 1) + (i : Int))) + 1) - (a.l.getD i (0, 0)).2))] = _
   rw [hgd, e1, e2, e3, e4, e5]
   rfl
  rintro _ o rfl
  refine za tabOk Tryz.func108 rfl ?_ ?_
  ·exact (by simp only [andP, and_true, true_and, Int.toNat_natCast, List.length_map, List.length_append, List.length_cons, List.length_nil, List.length_replicate]; omega)
  refine zg ih hC hCl ⟨⟨_, rfl, .refl _⟩, ⟨_, rfl, .refl _⟩, ⟨_, rfl, .refl _⟩, ⟨_, rfl, .refl _⟩, ⟨_, rfl, .of (by rw [zb (by omega) (by omega)]; rfl)⟩, trivial⟩ ⟨.refl _, .gL ?_, trivial⟩ rfl rfl (Nat.zero_le _)
  rw [List.map_append]
  rfl
 ·have h2 : decide ((a.l.getD i (0, 0)).2 < 2) = false := h2
  rw [hgd, decide_eq_false_iff_not] at h2
  rw [if_neg h2, List.append_nil] at ih
  refine za tabOk Tryz.func108 rfl trivial ?_
  exact zg ih hC hCl ⟨⟨_, rfl, .refl _⟩, ⟨_, rfl, .refl _⟩, ⟨_, rfl, .refl _⟩, ⟨_, rfl, .refl _⟩, ⟨_, rfl, .of (by rw [zb (by omega) (by omega)]; rfl)⟩, trivial⟩ ⟨.refl _, .refl _, trivial⟩ rfl rfl (Nat.zero_le _)
theorem zf2 (n : Nat) : ∀ (l m : List P2) (v : Nat), linkF n v (l ++ m) = linkF n v l ++ linkF n (v + l.length) m
 | [], m, v => rfl
 | p :: l, m, v => by
  rw [List.cons_append, linkF, linkF, zf2 n l m, List.length_cons, show v + 1 + l.length = v + (l.length + 1) by omega]
  rfl
theorem zjx {n v : Nat} {l : List P2} {i : Nat} (h : i < l.length) : linkF n v (l.take (i + 1)) = linkF n v (l.take i) ++ linkF n (v + i) [l[i]] := by
 rw [List.take_add_one, List.getElem?_eq_getElem h, Option.toList_some, zf2, List.length_take, Nat.min_eq_left (by omega)]
theorem zax (n : Nat) : ∀ (l : List P2) (v : Nat), (linkF n v l).length = 2 * l.length
 | [], v => rfl
 | p :: l, v => by
  rw [linkF, List.length_cons, List.length_cons, zax n l, List.length_cons]
  omega
theorem zmp {n k N : Nat} {l : Int} (hn : n ≤ 3000000) (hk : k ≤ 1000) (hl : 0 ≤ l ∧ l ≤ 1000000000000) : -1000000000000000 ≤ litF n k l ∧ litF n k l ≤ 1000000000000000 := by
 have hp : 0 ≤ (k : Int) * ((n : Int) + 1) ∧ (k : Int) * ((n : Int) + 1) ≤ 1000 * 3000001 := ⟨Int.mul_nonneg (by omega) (by omega), Int.mul_le_mul (by omega) (by omega) (by omega) (by decide)⟩
 unfold litF
 split <;> omega
theorem zka (a : Ag) (n b : Nat) (h : AgB a) (hn : varsA a = (n : Int)) (hb : a.i = (b : Int)) (hl : ∀ p ∈ a.l, 0 ≤ p.1 ∧ p.1 ≤ 1000000000000) : ACall Tryz.prog 110 [.d (eAg a)] [] (fun r o => r = .d (eIss (linkF n (b + 1) a.l))) := by
 refine z8 Tryz.func110 rfl rfl (Nat.le_of_ble_eq_true rfl) fun C hC hCl hDs hGk => ?_
 have hi1 := h.i1
 have hll := h.l
 have hnb := z48 h
 have hn3 : n ≤ 3000000 := by omega
 refine za tabOk Tryz.func110 rfl trivial ?_
 refine z3r (e := 24) (s := 1) (t := 3) (.inl rfl) (fun i => eIs (([] : List (List Int)).getD i [])) ?_
 refine zj (α := Nat) (fun i => [(1, .ptr 0 0), (3, .gs 1), (9, .d (eP2s a.l)), (10, vI .i64 (a.l.length : Int)), (11, vI .i64 (i : Int))]) (fun i => [some (.cells 27 (AV.d (eAg a)).cells), some (gIcs (linkF n (b + 1) (a.l.take i)))]) (fun i => i ≤ a.l.length) (fun i => a.l.length - i) 0 (Nat.zero_le _) ?_ ?_
 ·exact fun h => zg h hC hCl ⟨⟨_, rfl, .refl _⟩, ⟨_, rfl, .refl _⟩, ⟨_, rfl, .refl _⟩, ⟨_, rfl, .of (by rw [List.length_map])⟩, ⟨_, rfl, .refl _⟩, trivial⟩ ⟨.refl _, .gL rfl, trivial⟩ rfl rfl (Nat.zero_le _)
 rintro i hi ih
 have hcl : (linkF n (b + 1) (a.l.take i)).length = 2 * i := by rw [zax, List.length_take]; omega
 refine z6 tabOk Tryz.func110 rfl trivial (fun hb2 => ?_) (fun hb2 => ?_)
 rotate_left
 ·have hb2 : decide ((i : Int) < (a.l.length : Int)) = false := hb2
  rw [decide_eq_false_iff_not] at hb2
  obtain rfl : i = a.l.length := by omega
  rw [List.take_of_length_le (Nat.le_refl _)]
  refine zy 1 rfl ?_
  exact z7 tabOk Tryz.func110 rfl trivial rfl
 have hb2 : decide ((i : Int) < (a.l.length : Int)) = true := hb2
 rw [decide_eq_true_eq] at hb2
 have hlt : i < a.l.length := by omega
 have ih := ih (i + 1) (by omega) (by omega)
 rw [zjx hlt] at ih
 have hx0 := hl a.l[i] (List.getElem_mem hlt)
 have hgd : a.l.getD i (0, 0) = a.l[i] := by rw [List.getD_eq_getElem?_getD, List.getElem?_eq_getElem hlt]; rfl
 generalize a.l[i] = x at *
 have e1 : IntKind.i64.wrap (a.i + 1) = a.i + 1 := zb (by omega) (by omega)
 have e2 : IntKind.i64.wrap (a.i + 1 + (i : Int)) = a.i + 1 + (i : Int) := zb (by omega) (by omega)
 have e3 : IntKind.i64.wrap (2 * (a.i + 1 + (i : Int))) = 2 * ((b + 1 + i : Nat) : Int) := by rw [zb (by omega) (by omega)]; omega
 have eJ : IntKind.i64.wrap (2 * IntKind.i64.wrap (IntKind.i64.wrap (a.i + 1) + (i : Int))) = 2 * ((b + 1 + i : Nat) : Int) := by rw [e1, e2, e3]
 have b1 := zmp (N := 0) (k := 1) hn3 (by omega) (l := 2 * ((b + 1 + i : Nat) : Int)) (by omega)
 have b2 := zmp (N := 0) (k := 0) hn3 (by omega) hx0
 have hc1 := zbd a n 1 (2 * ((b + 1 + i : Nat) : Int)) h hn (by omega) (by omega)
 have hc2 := zbd a n 0 x.1 h hn (by omega) hx0
 have hlk : linkF n (b + 1 + i) [x] = [[-litF n 1 (2 * ((b + 1 + i : Nat) : Int)), litF n 0 x.1], [litF n 1 (2 * ((b + 1 + i : Nat) : Int)), -litF n 0 x.1]] := rfl
 rw [hlk] at ih
 generalize litF n 1 (2 * ((b + 1 + i : Nat) : Int)) = y1 at *
 generalize litF n 0 x.1 = y2 at *
 have w1 : IntKind.i64.wrap (0 - y1) = -y1 := by rw [Int.zero_sub]; exact zb (by omega) (by omega)
 have w2 : IntKind.i64.wrap (0 - y2) = -y2 := by rw [Int.zero_sub]; exact zb (by omega) (by omega)
 refine zn 12 tabOk Tryz.func110 rfl rfl (by simp only [andP, and_true, true_and, Int.toNat_natCast, List.length_map, List.length_append, List.length_cons, List.length_nil, List.length_replicate]; omega) (by kernel_rfl) ?_
 refine zx tabOk rfl trivial hc1 (zf Tryz.func144 rfl rfl) (by rintro r o rfl; rfl) ⟨.refl _, .refl _, .of (congrArg (vI .i64) eJ), trivial⟩ rfl rfl ⟨_, rfl⟩ ?_
 refine zx tabOk rfl trivial hc2 (zf Tryz.func144 rfl rfl) (by rintro r o rfl; rfl) ⟨.refl _, .refl _, .of (congrArg (fun z : P2 => vI .i64 z.1) hgd), trivial⟩ rfl rfl ⟨_, rfl⟩ ?_
 refine zo tabOk rfl trivial ?_
 refine za tabOk Tryz.func110 rfl ?_ ?_
 ·exact (by simp only [andP, and_true, true_and, Int.toNat_natCast, List.length_map, List.length_append, List.length_cons, List.length_nil, List.length_replicate]; omega)
 refine zg ih hC hCl ⟨⟨_, rfl, .refl _⟩, ⟨_, rfl, .refl _⟩, ⟨_, rfl, .refl _⟩, ⟨_, rfl, .refl _⟩, ⟨_, rfl, .of (by rw [zb (by omega) (by omega)]; rfl)⟩, trivial⟩ ⟨.refl _, .gL_c ?_, trivial⟩ rfl rfl (Nat.zero_le _)
 rw [List.map_append]
 rw [← w1, ← w2]
 exact CLes.append (.refl _) ⟨CLe.lit eI 0 [_, _] rfl, CLe.lit eI 0 [_, _] rfl, trivial⟩
theorem xor1 (m : Nat) : m ^^^ 1 = if m % 2 = 1 then m - 1 else m + 1 := by
 have h1 : (m ^^^ 1) / 2 = m / 2 := by
  have := Nat.xor_div_two (a := m) (b := 1)
  simpa using this
 have h2 := Nat.xor_mod_two_eq_one (a := m) (b := 1)
 split <;> omega
theorem xorI {x : Int} (h0 : 0 ≤ x) (h1 : x ≤ 1000000000000000) : IntKind.i64.wrap (bitI .i64 x ^^^ bitI .i64 1).toNat = turnL x := by
 have e : (bitI .i64 x ^^^ bitI .i64 1).toNat = x.toNat ^^^ 1 := by
  rw [BitVec.toNat_xor]
  unfold bitI
  rw [BitVec.toNat_ofInt, BitVec.toNat_ofInt]
  have a : (x % ((2 ^ IntKind.i64.bits : Nat) : Int)).toNat = x.toNat := by
   rw [Int.emod_eq_of_lt h0 (by show x < 18446744073709551616; omega)]
  rw [a]
  rfl
 rw [e, xor1]
 unfold turnL
 have hc : ((x.toNat : Nat) : Int) = x := by omega
 by_cases h : x % 2 = 1
 ·rw [if_pos (by omega), if_pos h, zb (by omega) (by omega)]
  omega
 ·rw [if_neg (by omega), if_neg h, zb (by omega) (by omega)]
  omega
theorem z7p {x : Int} (h : 0 ≤ x ∧ x ≤ 1000000000) : 0 ≤ turnL x ∧ turnL x ≤ 1000000000000 := by
 unfold turnL
 split <;> omega
theorem zcm (n k : Nat) : ∀ (l m : List P2) (v : Nat), z4h n k v (l ++ m) = z4h n k v l ++ z4h n k (v + l.length) m
 | [], m, v => rfl
 | p :: l, m, v => by
  rw [List.cons_append, z4h, z4h, zcm n k l m, List.length_cons, show v + 1 + l.length = v + (l.length + 1) by omega]
  rfl
theorem zh4 {n k v : Nat} {l : List P2} {i : Nat} (h : i < l.length) : z4h n k v (l.take (i + 1)) = z4h n k v (l.take i) ++ z4h n k (v + i) [l[i]] := by
 rw [List.take_add_one, List.getElem?_eq_getElem h, Option.toList_some, zcm, List.length_take, Nat.min_eq_left (by omega)]
theorem z8u (n k : Nat) : ∀ (l : List P2) (v : Nat), (z4h n k v l).length = 3 * l.length
 | [], v => rfl
 | p :: l, v => by
  rw [z4h, List.length_cons, List.length_cons, List.length_cons, z8u n k l, List.length_cons]
  omega
theorem zhe (a : Ag) (n k b : Nat) (h : AgB a) (hn : varsA a = (n : Int)) (hk : k ≤ 1000) (hb : a.i + (a.l.length : Int) = (b : Int)) (hl : ∀ p ∈ a.g, (0 ≤ p.1 ∧ p.1 ≤ 1000000000) ∧ 0 ≤ p.2 ∧ p.2 ≤ 1000000000) :
  ACall Tryz.prog 107 [.d (eAg a), vI .i64 (k : Int)] [] (fun r o => r = .d (eIss (z1y n k b a.g))) := by
 refine z8 Tryz.func107 rfl rfl (Nat.le_of_ble_eq_true rfl) fun C hC hCl hDs hGk => ?_
 have hi1 := h.i1
 have hi0 := h.i0
 have hll := h.l
 have hgl := h.g
 have hnb := z48 h
 have hn3 : n ≤ 3000000 := by omega
 refine ze tabOk Tryz.func107 rfl trivial (z1z a n k [1] h hn hk (by
  intro x hx
  rw [List.mem_singleton] at hx
  omega) (by simp)) ⟨.refl _, .refl _, VLe.eL rfl, trivial⟩ rfl ⟨_, rfl⟩ (by rintro r o rfl; rfl) ?_
 rintro _ o rfl
 refine zol _ tabOk rfl rfl rfl rfl rfl trivial rfl ?_
 refine za tabOk Tryz.func107 rfl trivial ?_
 refine zj (α := Nat) (fun i => [(1, vI .i64 (k : Int)), (2, .ptr 0 0), (5, .gs 1), (16, .d (eP2s a.g)), (17, vI .i64 (a.g.length : Int)), (18, vI .i64 (i : Int))]) (fun i => [some (.cells 27 (AV.d (eAg a)).cells), some (gIcs (z1y n k b (a.g.take i)))]) (fun i => i ≤ a.g.length) (fun i => a.g.length - i) 0 (Nat.zero_le _) ?_ ?_
 ·refine fun h => zg h hC hCl ⟨⟨_, rfl, .refl _⟩, ⟨_, rfl, .refl _⟩, ⟨_, rfl, .refl _⟩, ⟨_, rfl, .refl _⟩, ⟨_, rfl, .of (by rw [List.length_map])⟩, ⟨_, rfl, .refl _⟩, trivial⟩ ⟨.refl _, .gL ?_, trivial⟩ rfl rfl (Nat.zero_le _)
  have h1 := zih n k 0
  rw [show 2 * ((0 : Nat) : Int) + 1 = 1 from rfl, show 2 * ((0 : Nat) : Int) = 0 from rfl] at h1
  rw [List.take_zero, z1y, z4h, ← h1]
  rfl
 rintro i hi ih
 have hcl : (z1y n k b (a.g.take i)).length = 3 * i + 1 := by rw [z1y, List.length_cons, z8u, List.length_take]; omega
 refine z6 tabOk Tryz.func107 rfl trivial (fun hb2 => ?_) (fun hb2 => ?_)
 rotate_left
 ·have hb2 : decide ((i : Int) < (a.g.length : Int)) = false := hb2
  rw [decide_eq_false_iff_not] at hb2
  obtain rfl : i = a.g.length := by omega
  rw [List.take_of_length_le (Nat.le_refl _)]
  refine zy 1 rfl ?_
  exact z7 tabOk Tryz.func107 rfl trivial rfl
 have hb2 : decide ((i : Int) < (a.g.length : Int)) = true := hb2
 rw [decide_eq_true_eq] at hb2
 have hlt : i < a.g.length := by omega
 have ih := ih (i + 1) (by omega) (by omega)
 have hft : z1y n k b (a.g.take (i + 1)) = z1y n k b (a.g.take i) ++ z4h n k (b + 1 + i) [a.g[i]] := by
  rw [z1y, zh4 hlt]
  rfl
 rw [hft] at ih
 have hx0 := hl a.g[i] (List.getElem_mem hlt)
 have hgd : a.g.getD i (0, 0) = a.g[i] := by rw [List.getD_eq_getElem?_getD, List.getElem?_eq_getElem hlt]; rfl
 generalize a.g[i] = x at *
 have e0 : IntKind.i64.wrap (a.i + (((a.l.map eP2).length : Nat) : Int)) = (b : Int) := by rw [List.length_map, zb (by omega) (by omega)]; exact hb
 have e1 : IntKind.i64.wrap ((b : Int) + 1) = (b : Int) + 1 := zb (by omega) (by omega)
 have e2 : IntKind.i64.wrap ((b : Int) + 1 + (i : Int)) = (b : Int) + 1 + (i : Int) := zb (by omega) (by omega)
 have e3 : IntKind.i64.wrap (2 * ((b : Int) + 1 + (i : Int))) = 2 * ((b + 1 + i : Nat) : Int) := by rw [zb (by omega) (by omega)]; omega
 have eJ : IntKind.i64.wrap (2 * IntKind.i64.wrap (IntKind.i64.wrap (IntKind.i64.wrap (a.i + (((a.l.map eP2).length : Nat) : Int)) + 1) + (i : Int))) = 2 * ((b + 1 + i : Nat) : Int) := by rw [e0, e1, e2, e3]
 have hy : 0 ≤ 2 * ((b + 1 + i : Nat) : Int) ∧ 2 * ((b + 1 + i : Nat) : Int) ≤ 1000000000 := by omega
 refine zn 24 tabOk Tryz.func107 rfl rfl trivial (by kernel_rfl) ?_
 refine zo tabOk rfl (by simp only [andP, and_true, true_and, Int.toNat_natCast, List.length_map, List.length_append, List.length_cons, List.length_nil, List.length_replicate]; omega) ?_
 refine zn 25 tabOk Tryz.func107 rfl rfl trivial (by kernel_rfl) ?_
 have ht := z7p hy
 have ht1 := z7p hx0.1
 have ht2 := z7p hx0.2
 have w1 := xorI hy.1 (by omega)
 have w2 := xorI hx0.1.1 (by omega)
 have w3 := xorI hx0.2.1 (by omega)
 have hgt : z4h n k (b + 1 + i) [x] = [[-litF n k (2 * ((b + 1 + i : Nat) : Int)), litF n k x.1], [-litF n k (2 * ((b + 1 + i : Nat) : Int)), litF n k x.2], [litF n k (2 * ((b + 1 + i : Nat) : Int)), -litF n k x.1, -litF n k x.2]] := rfl
 rw [hgt, ← z52, ← z52, ← z52] at ih
 generalize 2 * ((b + 1 + i : Nat) : Int) = y at *
 have two : ∀ p q : Int, (0 ≤ p ∧ p ≤ 1000000000000) → (0 ≤ q ∧ q ≤ 1000000000000) → ∀ z ∈ [p, q], 0 ≤ z ∧ z ≤ 1000000000000 := fun p q h1 h2 z hz => by
  rcases List.mem_cons.1 hz with rfl | hz
  ·exact h1
  ·rw [List.mem_singleton.1 hz]
   exact h2
 have hc1 := z1z a n k [turnL y, x.1] h hn hk (two _ _ ht ⟨by omega, by omega⟩) (by simp)
 have hc2 := z1z a n k [turnL y, x.2] h hn hk (two _ _ ht ⟨by omega, by omega⟩) (by simp)
 have hc3 := z1z a n k [y, turnL x.1, turnL x.2] h hn hk (fun z hz => by
  rcases List.mem_cons.1 hz with rfl | hz
  ·omega
  ·exact two _ _ ht1 ht2 z hz) (by simp)
 refine z4p 6 tabOk rfl trivial ?_
 refine z9g tabOk rfl rfl rfl rfl rfl rfl rfl ?_
 refine zx tabOk rfl trivial hc1 (zf Tryz.func109 rfl rfl) (by rintro r o rfl; rfl) ⟨.refl _, .refl _, VLe.eL ?_, trivial⟩ rfl rfl ⟨_, rfl⟩ ?_
 ·show [eI (IntKind.i64.wrap ((bitI .i64 (IntKind.i64.wrap (2 * IntKind.i64.wrap (IntKind.i64.wrap (IntKind.i64.wrap (a.i + (((a.l.map eP2).length : Nat) : Int)) + 1) + (i : Int)))) ^^^ bitI .i64 1).toNat : Int)), eI (a.g.getD i (0, 0)).1] = _
  rw [eJ, w1, hgd]
  rfl
 refine z4p 5 tabOk rfl trivial ?_
 refine z9g tabOk rfl rfl rfl rfl rfl rfl rfl ?_
 refine zx tabOk rfl trivial hc2 (zf Tryz.func109 rfl rfl) (by rintro r o rfl; rfl) ⟨.refl _, .refl _, VLe.eL ?_, trivial⟩ rfl rfl ⟨_, rfl⟩ ?_
 ·show [eI (IntKind.i64.wrap ((bitI .i64 (IntKind.i64.wrap (2 * IntKind.i64.wrap (IntKind.i64.wrap (IntKind.i64.wrap (a.i + (((a.l.map eP2).length : Nat) : Int)) + 1) + (i : Int)))) ^^^ bitI .i64 1).toNat : Int)), eI (a.g.getD i (0, 0)).2] = _
  rw [eJ, w1, hgd]
  rfl
 refine z4p 7 tabOk rfl trivial ?_
 refine z9g tabOk rfl rfl rfl rfl rfl rfl rfl ?_
 refine zx tabOk rfl trivial hc3 (zf Tryz.func109 rfl rfl) (by rintro r o rfl; rfl) ⟨.refl _, .refl _, VLe.eL ?_, trivial⟩ rfl rfl ⟨_, rfl⟩ ?_
 ·show [eI (IntKind.i64.wrap (2 * IntKind.i64.wrap (IntKind.i64.wrap (IntKind.i64.wrap (a.i + (((a.l.map eP2).length : Nat) : Int)) + 1) + (i : Int)))), eI (IntKind.i64.wrap ((bitI .i64 ((a.g.getD i (0, 0)).1) ^^^ bitI .i64 1).toNat : Int)), eI (IntKind.i64.wrap ((bitI .i64 ((a.g.getD i (0, 0)).2) ^^^ bitI .i64 1).toNat : Int))] = _
  rw [eJ, hgd, w2, w3]
  rfl
 refine z9g tabOk rfl rfl rfl rfl rfl rfl rfl ?_
 refine zo tabOk rfl trivial ?_
 refine za tabOk Tryz.func107 rfl ?_ ?_
 ·exact (by simp only [andP, and_true, true_and, Int.toNat_natCast, List.length_map, List.length_append, List.length_cons, List.length_nil, List.length_replicate]; omega)
 refine zg ih hC hCl ⟨⟨_, rfl, .refl _⟩, ⟨_, rfl, .refl _⟩, ⟨_, rfl, .refl _⟩, ⟨_, rfl, .refl _⟩, ⟨_, rfl, .refl _⟩, ⟨_, rfl, .of (by rw [zb (by omega) (by omega)]; rfl)⟩, trivial⟩ ⟨.refl _, .gL ?_, trivial⟩ rfl rfl (Nat.zero_le _)
 rw [List.map_append]
 rfl
end Go.Proofs.YtkemmijjpclckaaGreatDoor
namespace Go.Proofs.YtkemmijjpclckaaGreatDoor
open Go Ab Go.RowKit
structure EncB (a : Ag) (n i b : Nat) : Prop where
 h : AgB a
 hn : varsA a = (n : Int)
 hi : a.i = (i : Int)
 hb : i + a.l.length = b
 g : ∀ p ∈ a.g, (0 ≤ p.1 ∧ p.1 ≤ 1000000000) ∧ 0 ≤ p.2 ∧ p.2 ≤ 1000000000
 l : ∀ p ∈ a.l, (0 ≤ p.1 ∧ p.1 ≤ 1000000000) ∧ 0 ≤ p.2
 c : ∀ x ∈ a.con, 0 ≤ x ∧ x ≤ 1000000000
 gl : a.g.length ≤ 20000
 ll : a.l.length ≤ 20000
 cl : a.con.length ≤ 50000
section
variable {a : Ag} {n i b : Nat} (h : EncB a n i b)
include h
theorem EncB.frame (k : Nat) (hk : k ≤ 1000) : ACall Tryz.prog 107 [.d (eAg a), vI .i64 (k : Int)] [] (fun r o => r = .d (eIss (z1y n k b a.g))) :=
 zhe a n k b h.h h.hn hk (by have := h.hi; have := h.hb; omega) h.g
theorem EncB.first : ACall Tryz.prog 108 [.d (eAg a)] [] (fun r o => r = .d (eIss (z2b n (i + 1) a.l))) := zhf a n i h.h h.hn h.hi fun p hp => (h.l p hp).2
theorem EncB.link : ACall Tryz.prog 110 [.d (eAg a)] [] (fun r o => r = .d (eIss (linkF n (i + 1) a.l))) := zka a n i h.h h.hn h.hi fun p hp => ⟨(h.l p hp).1.1, by have := (h.l p hp).1.2; omega⟩
theorem EncB.one (k : Nat) (x : Int) (hk : k ≤ 1000) (hx : 0 ≤ x ∧ x ≤ 1000000000000) : ACall Tryz.prog 109 [.d (eAg a), vI .i64 (k : Int), .d (eIs [x])] [] (fun r o => r = .d (eIs [litF n k x])) :=
 z1z a n k [x] h.h h.hn hk (fun y hy => by rw [List.mem_singleton.1 hy]; exact hx) (by simp)
theorem EncB.holds (more : List Int) (hm : more.length ≤ 10) (hl : ∀ x ∈ more, 0 ≤ x ∧ x ≤ 1000000000000) : ACall Tryz.prog 111 [.d (eAg a), .d (eIs more)] [] (fun r o => r = .d (eIss (consF n (a.con ++ more)))) :=
 zhd a n more h.h h.hn (fun x hx => by
  rcases List.mem_append.1 hx with hx | hx
  ·have := h.c x hx
   omega
  ·exact hl x hx) h.cl hm
theorem EncB.vars (k : Int) (hk : 0 ≤ k ∧ k ≤ 1000) : ACall Tryz.prog 93 [.d (eAg a), vI .i64 k] [] (fun r o => r = vI .i64 (k * ((n : Int) + 1))) := by
 have := z8x a k h.h hk
 rwa [h.hn] at this
theorem EncB.frl (k : Nat) : (z1y n k b a.g).length ≤ 100000 := by
 have := h.gl
 rw [z1y, List.length_cons, z8u]
 omega
theorem EncB.fil : (z2b n (i + 1) a.l).length ≤ 100000 := by
 have := h.ll
 have := z8w n a.l (i + 1)
 omega
theorem EncB.lil : (linkF n (i + 1) a.l).length ≤ 100000 := by
 have := h.ll
 rw [zax]
 omega
theorem EncB.col {m : List Int} (hm : m.length ≤ 10) : (consF n (a.con ++ m)).length ≤ 100000 := by
 have := h.cl
 unfold consF
 rw [List.length_map, List.length_append]
 omega
end
theorem zfr (a : Ag) (n i b : Nat) (inv : Int) (h : EncB a n i b) (hv : 0 ≤ inv ∧ inv ≤ 1000000000) : ACall Tryz.prog 64 [.d (eAg a), vI .i64 inv] [] (fun r o => r = .d (eCnf ((n : Int) + 1) (zd2 n b i a.l a.g inv))) := by
 refine z8 Tryz.func64 rfl rfl (Nat.le_of_ble_eq_true rfl) fun C hC hCl hDs hGk => ?_
 have w1 := xorI hv.1 (by omega)
 have ht := z7p hv
 have hc := h.one 0 (turnL inv) (by omega) ht
 rw [z52] at hc
 refine zn 10 tabOk Tryz.func64 rfl rfl trivial (by kernel_rfl) ?_
 refine zx tabOk rfl trivial (h.vars 1 (by decide)) (zf Tryz.func93 rfl rfl) (by rintro r o rfl; rfl) (.refl _) rfl rfl ⟨_, rfl⟩ ?_
 refine zx tabOk rfl trivial (h.frame 0 (by decide)) (zf Tryz.func107 rfl rfl) (by rintro r o rfl; rfl) (.refl _) rfl rfl ⟨_, rfl⟩ ?_
 refine zx tabOk rfl trivial h.first (zf Tryz.func108 rfl rfl) (by rintro r o rfl; rfl) (.refl _) rfl rfl ⟨_, rfl⟩ ?_
 refine z4p 3 tabOk rfl trivial ?_
 refine z9g tabOk rfl rfl rfl rfl rfl rfl rfl ?_
 refine zo tabOk rfl trivial ?_
 refine ze tabOk Tryz.func64 rfl trivial hc ⟨.refl _, .refl _, VLe.eL ?_, trivial⟩ rfl ⟨_, rfl⟩ (by rintro r o rfl; rfl) ?_
 ·show [eI (IntKind.i64.wrap ((bitI .i64 inv ^^^ bitI .i64 1).toNat : Int))] = _
  rw [w1]
  rfl
 rintro _ o rfl
 refine ze tabOk Tryz.func64 rfl trivial (z91 [z1y n 0 b a.g, z2b n (i + 1) a.l, [[-litF n 0 inv]]] (Nat.le_of_ble_eq_true rfl) (by
  intro r hr
  rcases List.mem_cons.1 hr with rfl | hr
  ·exact h.frl 0
  rcases List.mem_cons.1 hr with rfl | hr
  ·exact h.fil
  ·rw [List.mem_singleton.1 hr]
   exact Nat.le_of_ble_eq_true rfl)) ⟨VLe.eL_c ⟨.refl _, .refl _, CLe.lit eIs [] [[_]] rfl, trivial⟩, trivial⟩ rfl ⟨_, rfl⟩ (by rintro r o rfl; rfl) ?_
 rintro _ o rfl
 refine z7 tabOk Tryz.func64 rfl trivial ?_
 show tupOf _ = _
 rw [Int.one_mul, show [z1y n 0 b a.g, z2b n (i + 1) a.l, [[-litF n 0 inv]]].flatten = zd2 n b i a.l a.g inv by simp [zd2]]
 rfl
theorem zhb (a : Ag) (n i b : Nat) (inv : Int) (h : EncB a n i b) (hv : 0 ≤ inv ∧ inv ≤ 1000000000) : ACall Tryz.prog 65 [.d (eAg a), vI .i64 inv] [] (fun r o => r = .d (eCnf (2 * ((n : Int) + 1)) (zi1 n b i a.l a.g a.con inv))) := by
 refine z8 Tryz.func65 rfl rfl (Nat.le_of_ble_eq_true rfl) fun C hC hCl hDs hGk => ?_
 have w1 := xorI hv.1 (by omega)
 have ht := z7p hv
 have hc := h.one 1 (turnL inv) (by omega) ht
 rw [z52] at hc
 have hh := h.holds [inv] (by simp) (fun x hx => by rw [List.mem_singleton.1 hx]; omega)
 refine ze tabOk Tryz.func65 rfl trivial hc ⟨.refl _, .refl _, VLe.eL ?_, trivial⟩ rfl ⟨_, rfl⟩ (by rintro r o rfl; rfl) ?_
 ·show [eI (IntKind.i64.wrap ((bitI .i64 inv ^^^ bitI .i64 1).toNat : Int))] = _
  rw [w1]
  rfl
 rintro _ o rfl
 refine zn 13 tabOk Tryz.func65 rfl rfl trivial (by kernel_rfl) ?_
 refine zx tabOk rfl trivial (h.vars 2 (by decide)) (zf Tryz.func93 rfl rfl) (by rintro r o rfl; rfl) (.refl _) rfl rfl ⟨_, rfl⟩ ?_
 refine zx tabOk rfl trivial (h.frame 0 (by decide)) (zf Tryz.func107 rfl rfl) (by rintro r o rfl; rfl) (.refl _) rfl rfl ⟨_, rfl⟩ ?_
 refine zx tabOk rfl trivial (h.frame 1 (by decide)) (zf Tryz.func107 rfl rfl) (by rintro r o rfl; rfl) (.refl _) rfl rfl ⟨_, rfl⟩ ?_
 refine zx tabOk rfl trivial h.link (zf Tryz.func110 rfl rfl) (by rintro r o rfl; rfl) (.refl _) rfl rfl ⟨_, rfl⟩ ?_
 refine z4p 2 tabOk rfl trivial ?_
 refine z9g tabOk rfl rfl rfl rfl rfl rfl rfl ?_
 refine zx tabOk rfl trivial hh (zf Tryz.func111 rfl rfl) (by rintro r o rfl; rfl) ⟨.refl _, VLe.eL rfl, trivial⟩ rfl rfl ⟨_, rfl⟩ ?_
 refine zo tabOk rfl trivial ?_
 refine ze tabOk Tryz.func65 rfl trivial (z91 [z1y n 0 b a.g, z1y n 1 b a.g, linkF n (i + 1) a.l, consF n (a.con ++ [inv]), [[-litF n 1 inv]]] (Nat.le_of_ble_eq_true rfl) (by
  intro r hr
  rcases List.mem_cons.1 hr with rfl | hr
  ·exact h.frl 0
  rcases List.mem_cons.1 hr with rfl | hr
  ·exact h.frl 1
  rcases List.mem_cons.1 hr with rfl | hr
  ·exact h.lil
  rcases List.mem_cons.1 hr with rfl | hr
  ·exact h.col (by simp)
  ·rw [List.mem_singleton.1 hr]
   exact Nat.le_of_ble_eq_true rfl)) ⟨VLe.eL_c ⟨.refl _, .refl _, .refl _, .refl _, CLe.lit eIs [] [[_]] rfl, trivial⟩, trivial⟩ rfl ⟨_, rfl⟩ (by rintro r o rfl; rfl) ?_
 rintro _ o rfl
 refine z7 tabOk Tryz.func65 rfl trivial ?_
 show tupOf _ = _
 rw [show [z1y n 0 b a.g, z1y n 1 b a.g, linkF n (i + 1) a.l, consF n (a.con ++ [inv]), [[-litF n 1 inv]]].flatten = zi1 n b i a.l a.g a.con inv by simp [zi1, consF]]
 rfl
theorem zk9 (a : Ag) (n i b : Nat) (inv bad : Int) (h : EncB a n i b) (hv : 0 ≤ inv ∧ inv ≤ 1000000000) (hbd : 0 ≤ bad ∧ bad ≤ 1000000000) : ACall Tryz.prog 66 [.d (eAg a), vI .i64 inv, vI .i64 bad] [] (fun r o => r = .d (eCnf ((n : Int) + 1) (safeF n b a.g a.con inv bad))) := by
 refine z8 Tryz.func66 rfl rfl (Nat.le_of_ble_eq_true rfl) fun C hC hCl hDs hGk => ?_
 have hh := h.holds [inv, bad] (by simp) (fun x hx => by
  rcases List.mem_cons.1 hx with rfl | hx
  ·omega
  ·rw [List.mem_singleton.1 hx]; omega)
 refine zn 8 tabOk Tryz.func66 rfl rfl trivial (by kernel_rfl) ?_
 refine zx tabOk rfl trivial (h.vars 1 (by decide)) (zf Tryz.func93 rfl rfl) (by rintro r o rfl; rfl) (.refl _) rfl rfl ⟨_, rfl⟩ ?_
 refine zx tabOk rfl trivial (h.frame 0 (by decide)) (zf Tryz.func107 rfl rfl) (by rintro r o rfl; rfl) (.refl _) rfl rfl ⟨_, rfl⟩ ?_
 refine z4p 3 tabOk rfl trivial ?_
 refine z9g tabOk rfl rfl rfl rfl rfl rfl rfl ?_
 refine zo tabOk rfl trivial ?_
 refine ze tabOk Tryz.func66 rfl trivial hh ⟨.refl _, VLe.eL rfl, trivial⟩ rfl ⟨_, rfl⟩ (by rintro r o rfl; rfl) ?_
 rintro _ o rfl
 refine ze tabOk Tryz.func66 rfl trivial (z91 [z1y n 0 b a.g, consF n (a.con ++ [inv, bad])] (Nat.le_of_ble_eq_true rfl) (by
  intro r hr
  rcases List.mem_cons.1 hr with rfl | hr
  ·exact h.frl 0
  ·rw [List.mem_singleton.1 hr]
   exact h.col (by simp))) ⟨VLe.eL_c ⟨.refl _, .refl _, trivial⟩, trivial⟩ rfl ⟨_, rfl⟩ (by rintro r o rfl; rfl) ?_
 rintro _ o rfl
 refine z7 tabOk Tryz.func66 rfl trivial ?_
 show tupOf _ = _
 rw [Int.one_mul, show [z1y n 0 b a.g, consF n (a.con ++ [inv, bad])].flatten = safeF n b a.g a.con inv bad by simp [safeF, consF]]
 rfl
end Go.Proofs.YtkemmijjpclckaaGreatDoor
namespace Go.Proofs.YtkemmijjpclckaaGreatDoor
open Go Ab Go.RowKit
theorem zpu {a : Ag} (h : RightA a) : EncB a (varsA a).toNat a.i.toNat (a.i.toNat + a.l.length) := by
 have h0 := h.i0
 have h1 := h.v1
 have hv : varsA a = a.i + a.l.length + a.g.length := rfl
 have hlat := (zf6 _ _ _ _).1 h.lat
 have hgat := (z67 _ _).1 h.gat
 have hcon := h.con
 unfold z1o at hcon
 rw [Bool.and_eq_true, decide_eq_true_eq, List.all_eq_true] at hcon
 refine ⟨z6g (z13.2 h), by omega, by omega, rfl, fun p hp => ?_, fun p hp => ?_, fun x hx => ?_, by omega, by omega, by omega⟩
 ·obtain ⟨j, hj, rfl⟩ := List.mem_iff_getElem.1 hp
  have := hgat j hj
  omega
 ·obtain ⟨j, hj, rfl⟩ := List.mem_iff_getElem.1 hp
  have := hlat j hj
  omega
 ·have := hcon.2 x hx
  rw [decide_eq_true_eq] at this
  omega
theorem znm {n : Int} {l : List (List Int)} (h : l.all (clOk n) = true) : Cls n l := by
 rw [List.all_eq_true] at h
 refine ⟨fun c hc x hx => ?_, fun c hc => ?_⟩
 ·have := h c hc
  unfold clOk at this
  rw [Bool.and_eq_true, List.all_eq_true] at this
  exact of_decide_eq_true (this.2 x hx)
 ·have := h c hc
  unfold clOk at this
  rw [Bool.and_eq_true] at this
  exact of_decide_eq_true this.1
theorem z7q {n : Int} {p : List Sp} (h : z34 n p = true) : ∀ s ∈ p, (∀ x ∈ s.2.1, litOk n x) ∧ s.2.1.length ≤ 1000 := by
 unfold z34 at h
 rw [Bool.and_eq_true, List.all_eq_true] at h
 intro s hs
 have := h.2 s hs
 unfold clOk at this
 rw [Bool.and_eq_true, List.all_eq_true] at this
 exact ⟨fun x hx => of_decide_eq_true (this.2 x hx), of_decide_eq_true this.1⟩
def ask0 (g : Ag) (inv : Int) : List (List Int) := zd2 (varsA g).toNat (g.i.toNat + g.l.length) g.i.toNat g.l g.g inv
def ask1 (g : Ag) (inv : Int) : List (List Int) := zi1 (varsA g).toNat (g.i.toNat + g.l.length) g.i.toNat g.l g.g g.con inv
def ask2 (g : Ag) (inv bad : Int) : List (List Int) := safeF (varsA g).toNat (g.i.toNat + g.l.length) g.g g.con inv bad
noncomputable def zbk (a : Ag) (c : Ct) (k : Int) : Int × Int :=
 if z3s a c = false ∨ k < 0 ∨ (a.bad.length : Int) ≤ k then (0, 7)
 else if (ask0 (zu a c) c.inv).all (clOk (varsA (zu a c) + 1)) = false ∨ (ask1 (zu a c) c.inv).all (clOk (2 * (varsA (zu a c) + 1))) = false ∨ (ask2 (zu a c) c.inv (a.bad.getD k.toNat 0)).all (clOk (varsA (zu a c) + 1)) = false then (0, 3)
 else if (chk (ask0 (zu a c) c.inv) 0 c.p0).2 ≠ 0 then (1, 6)
 else if (chk (ask1 (zu a c) c.inv) 0 c.p1).2 ≠ 0 then (2, 6)
 else if (chk (ask2 (zu a c) c.inv (a.bad.getD k.toNat 0)) 0 c.p2).2 ≠ 0 then (3, 6)
 else (0, 0)
theorem zbn (a : Ag) (c : Ct) (k : Int) (h : AcB a c)
  (hs : z3s a c = true → (ask0 (zu a c) c.inv).length + c.p0.length ≤ 1000 ∧ (ask1 (zu a c) c.inv).length + c.p1.length ≤ 1000 ∧ (ask2 (zu a c) c.inv (a.bad.getD k.toNat 0)).length + c.p2.length ≤ 1000) :
  ACall Tryz.prog 25 [.d (eAg a), vI .i64 k, .d (eCt c)] [] (fun r o => r = tupOf [vI .i64 (zbk a c k).1, vI .i64 (zbk a c k).2]) := by
 refine z8 Tryz.func25 rfl rfl (Nat.le_of_ble_eq_true rfl) fun C hC hCl hDs hGk => ?_
 have hG := z6y a c h.ag h.cg
 refine ze tabOk Tryz.func25 rfl trivial (z6d a c h) (.refl _) rfl ⟨_, rfl⟩ (by rintro r o rfl; rfl) ?_
 rintro _ o rfl
 unfold zbk
 cases hR : z3s a c with
 | false =>
  rw [if_pos (.inl rfl)]
  repeat refine z6 tabOk Tryz.func25 rfl trivial (fun _ => ?_) (fun h => by cases h)
  exact z7 tabOk Tryz.func25 rfl trivial rfl
 | true =>
 refine z6 tabOk Tryz.func25 rfl trivial (fun h => by cases h) (fun _ => ?_)
 refine z6 tabOk Tryz.func25 rfl trivial (fun h1 => ?_) (fun h1 => ?_)
 ·have h1 : decide (k < 0) = true := h1
  rw [decide_eq_true_eq] at h1
  rw [if_pos (.inr (.inl h1))]
  repeat refine z6 tabOk Tryz.func25 rfl trivial (fun _ => ?_) (fun h => by cases h)
  exact z7 tabOk Tryz.func25 rfl trivial rfl
 have h1 : decide (k < 0) = false := h1
 rw [decide_eq_false_iff_not] at h1
 refine z6 tabOk Tryz.func25 rfl trivial (fun h2 => ?_) (fun h2 => ?_)
 ·have h2 : decide (k ≥ (((a.bad.map eI).length : Nat) : Int)) = true := h2
  rw [decide_eq_true_eq, List.length_map] at h2
  rw [if_pos (.inr (.inr h2))]
  exact z7 tabOk Tryz.func25 rfl trivial rfl
 have h2 : decide (k ≥ (((a.bad.map eI).length : Nat) : Int)) = false := h2
 rw [decide_eq_false_iff_not, List.length_map] at h2
 rw [if_neg (by rintro (h3 | h3 | h3) <;> first | cases h3 | omega)]
 obtain ⟨s0, s1, s2⟩ := hs hR
 obtain ⟨-, hA, hinv, -, hp0, hp1, hp2⟩ := z40.1 hR
 have hA' := z13.1 hA
 have hbad := hA'.bad
 unfold z1o at hbad
 rw [Bool.and_eq_true, decide_eq_true_eq, List.all_eq_true] at hbad
 have hE := zpu hA'
 have hv := hE.hn
 have hv1 := hA'.v1
 have hbr := hbad.2 (a.bad.getD k.toNat 0) (by
  rw [List.getD_eq_getElem?_getD, List.getElem?_eq_getElem (show k.toNat < a.bad.length by omega)]
  exact List.getElem_mem _)
 rw [decide_eq_true_eq] at hbr
 refine ze tabOk Tryz.func25 rfl trivial hG (.refl _) rfl ⟨_, rfl⟩ (by rintro r o rfl; rfl) ?_
 rintro _ o rfl
 have hc0 := zfr _ _ _ _ c.inv hE (by omega)
 have hc1 := zhb _ _ _ _ c.inv hE (by omega)
 have hc2 := zk9 _ _ _ _ c.inv (a.bad.getD k.toNat 0) hE (by omega) (by omega)
 rw [← hv] at hc0 hc1 hc2
 change ACall _ _ _ _ (fun r o => r = .d (eCnf _ (ask0 (zu a c) c.inv))) at hc0
 change ACall _ _ _ _ (fun r o => r = .d (eCnf _ (ask1 (zu a c) c.inv))) at hc1
 change ACall _ _ _ _ (fun r o => r = .d (eCnf _ (ask2 (zu a c) c.inv (a.bad.getD k.toNat 0)))) at hc2
 have hV : 0 ≤ varsA (zu a c) + 1 ∧ 2 * (varsA (zu a c) + 1) ≤ 100000 := by omega
 generalize ask0 (zu a c) c.inv = l0 at *
 generalize ask1 (zu a c) c.inv = l1 at *
 generalize ask2 (zu a c) c.inv (a.bad.getD k.toNat 0) = l2 at *
 generalize zu a c = g at *
 generalize varsA g + 1 = N at *
 have hki : ((k.toNat : Nat) : Int) = k := by omega
 refine zjh 20 18 19 (c := none) (a := .dead) (o2 := .cells 132 [.d (eI N), .d (eIss l0), .d (eI (2 * N)), .d (eIss l1), .d (eI N), .d (eIss l2)]) tabOk Tryz.func25 rfl rfl trivial (by kernel_rfl) (by kernel_rfl) rfl rfl rfl (by kernel_rfl) (by rw [hCl, hC]; exact Nat.zero_le _) rfl rfl rfl rfl rfl rfl
  (fun _ => zx tabOk rfl trivial hc0 (zf Tryz.func64 rfl rfl) (by rintro r o rfl; rfl) (.refl _) rfl rfl ⟨_, rfl⟩ (zx tabOk rfl trivial hc1 (zf Tryz.func65 rfl rfl) (by rintro r o rfl; rfl) (.refl _) rfl rfl ⟨_, rfl⟩ (zx tabOk rfl (by rw [List.length_map]; exact ⟨⟨by omega, by omega⟩, trivial⟩) hc2 (zf Tryz.func66 rfl rfl) (by rintro r o rfl; rfl) (.refl _) rfl rfl ⟨_, rfl⟩ (zo tabOk rfl trivial rfl))))
  (by rfl) (by rfl) (by rfl) (by rfl) trivial ?_
 have hN0 : 0 ≤ N ∧ N ≤ 100000 := by omega
 have hN1 : 0 ≤ 2 * N ∧ 2 * N ≤ 100000 := by omega
 refine za tabOk Tryz.func25 rfl trivial ?_
 refine z3f ?_
 refine z6 tabOk Tryz.func25 rfl trivial (fun _ => ?_) (fun h => by cases h)
 refine zh 60 tabOk Tryz.func25 rfl trivial ?_
 refine z1b (j := 0) tabOk rfl rfl rfl rfl rfl rfl rfl rfl (by decide) rfl rfl ?_
 refine ze tabOk Tryz.func25 rfl trivial (z5k (N) l0 (by omega) (by omega)) (.refl _) rfl ⟨_, rfl⟩ (by rintro r o rfl; rfl) ?_
 rintro _ o rfl
 cases hq0 : l0.all (clOk (N)) with
 | false =>
  refine z6 tabOk Tryz.func25 rfl trivial (fun _ => ?_) (fun h => by cases h)
  rw [if_pos (.inl rfl)]
  exact z7 tabOk Tryz.func25 rfl trivial rfl
 | true =>
 refine z6 tabOk Tryz.func25 rfl trivial (fun h => by cases h) (fun _ => ?_)
 refine za tabOk Tryz.func25 rfl trivial ?_
 refine z1q ?_
 refine z6 tabOk Tryz.func25 rfl trivial (fun _ => ?_) (fun h => by cases h)
 refine zh 60 tabOk Tryz.func25 rfl trivial ?_
 refine z1b (j := 1) tabOk rfl rfl rfl rfl rfl rfl rfl rfl (by decide) rfl rfl ?_
 refine ze tabOk Tryz.func25 rfl trivial (z5k (2 * N) l1 (by omega) (by omega)) (.refl _) rfl ⟨_, rfl⟩ (by rintro r o rfl; rfl) ?_
 rintro _ o rfl
 cases hq1 : l1.all (clOk (2 * N)) with
 | false =>
  refine z6 tabOk Tryz.func25 rfl trivial (fun _ => ?_) (fun h => by cases h)
  rw [if_pos (.inr (.inl rfl))]
  exact z7 tabOk Tryz.func25 rfl trivial rfl
 | true =>
 refine z6 tabOk Tryz.func25 rfl trivial (fun h => by cases h) (fun _ => ?_)
 refine za tabOk Tryz.func25 rfl trivial ?_
 refine z1q ?_
 refine z6 tabOk Tryz.func25 rfl trivial (fun _ => ?_) (fun h => by cases h)
 refine zh 60 tabOk Tryz.func25 rfl trivial ?_
 refine z1b (j := 2) tabOk rfl rfl rfl rfl rfl rfl rfl rfl (by decide) rfl rfl ?_
 refine ze tabOk Tryz.func25 rfl trivial (z5k (N) l2 (by omega) (by omega)) (.refl _) rfl ⟨_, rfl⟩ (by rintro r o rfl; rfl) ?_
 rintro _ o rfl
 cases hq2 : l2.all (clOk (N)) with
 | false =>
  refine z6 tabOk Tryz.func25 rfl trivial (fun _ => ?_) (fun h => by cases h)
  rw [if_pos (.inr (.inr rfl))]
  exact z7 tabOk Tryz.func25 rfl trivial rfl
 | true =>
 refine z6 tabOk Tryz.func25 rfl trivial (fun h => by cases h) (fun _ => ?_)
 rw [if_neg (by rintro (h3 | h3 | h3) <;> cases h3)]
 refine za tabOk Tryz.func25 rfl trivial ?_
 refine z1q ?_
 refine z6 tabOk Tryz.func25 rfl trivial (fun h => by cases h) (fun _ => ?_)
 refine za tabOk Tryz.func25 rfl trivial ?_
 refine z3f ?_
 apply letK (p := ASat Tryz.prog 25 Tryz.f25.ntmps C _ [(5, .ptr 1 0), (60, .d (.ag [eI N, eIss l0, eI (2 * N), eIss l1, eI N, eIss l2])), (61, vI .i64 0)] [some (.cells 27 (AV.d (eAg a)).cells), some (bCt c)] _)
 ·intro key
  exact zg key hC hCl ⟨⟨_, rfl, .refl _⟩, ⟨_, rfl, .refl _⟩, ⟨_, rfl, .refl _⟩, trivial⟩ ⟨.refl _, .refl _, trivial⟩ rfl rfl (Nat.zero_le _)
 refine z6 tabOk Tryz.func25 rfl trivial (fun _ => ?_) (fun h => by cases h)
 refine zh 60 tabOk Tryz.func25 rfl trivial ?_
 refine z1b (j := 0) tabOk rfl rfl rfl rfl rfl rfl rfl rfl (by decide) rfl rfl ?_
 refine zn 10 tabOk Tryz.func25 rfl rfl trivial (by kernel_rfl) ?_
 refine zx tabOk rfl trivial (z96 (n := N) (l0 := l0) (p := c.p0) (by omega) (znm hq0) (z7q hp0) s0) (zf Tryz.func68 rfl rfl) (by rintro r o rfl; rfl) (.refl _) rfl rfl ⟨_, rfl⟩ ?_
 refine zo tabOk rfl trivial ?_
 refine z6 tabOk Tryz.func25 rfl trivial (fun h3 => ?_) (fun h3 => ?_)
 ·have h3 : ((chk l0 0 c.p0).2 != 0) = true := h3
  rw [bne_iff_ne] at h3
  rw [if_pos h3]
  exact z7 tabOk Tryz.func25 rfl trivial rfl
 have h3 : ((chk l0 0 c.p0).2 != 0) = false := h3
 rw [bne_eq_false_iff_eq] at h3
 rw [if_neg (fun hh => hh h3)]
 refine za tabOk Tryz.func25 rfl trivial ?_
 refine z1q ?_
 apply letK (p := ASat Tryz.prog 25 Tryz.f25.ntmps C _ [(5, .ptr 1 0), (60, .d (.ag [eI N, eIss l0, eI (2 * N), eIss l1, eI N, eIss l2])), (61, vI .i64 1)] [some (.cells 27 (AV.d (eAg a)).cells), some (bCt c)] _)
 ·intro key
  exact zg key hC hCl ⟨⟨_, rfl, .refl _⟩, ⟨_, rfl, .refl _⟩, ⟨_, rfl, .refl _⟩, trivial⟩ ⟨.refl _, .refl _, trivial⟩ rfl rfl (Nat.zero_le _)
 refine z6 tabOk Tryz.func25 rfl trivial (fun _ => ?_) (fun h => by cases h)
 refine zh 60 tabOk Tryz.func25 rfl trivial ?_
 refine z1b (j := 1) tabOk rfl rfl rfl rfl rfl rfl rfl rfl (by decide) rfl rfl ?_
 refine zn 10 tabOk Tryz.func25 rfl rfl trivial (by kernel_rfl) ?_
 refine zx tabOk rfl trivial (z96 (n := 2 * N) (l0 := l1) (p := c.p1) (by omega) (znm hq1) (z7q hp1) s1) (zf Tryz.func68 rfl rfl) (by rintro r o rfl; rfl) (.refl _) rfl rfl ⟨_, rfl⟩ ?_
 refine zo tabOk rfl trivial ?_
 refine z6 tabOk Tryz.func25 rfl trivial (fun h3 => ?_) (fun h3 => ?_)
 ·have h3 : ((chk l1 0 c.p1).2 != 0) = true := h3
  rw [bne_iff_ne] at h3
  rw [if_pos h3]
  exact z7 tabOk Tryz.func25 rfl trivial rfl
 have h3 : ((chk l1 0 c.p1).2 != 0) = false := h3
 rw [bne_eq_false_iff_eq] at h3
 rw [if_neg (fun hh => hh h3)]
 refine za tabOk Tryz.func25 rfl trivial ?_
 refine z1q ?_
 apply letK (p := ASat Tryz.prog 25 Tryz.f25.ntmps C _ [(5, .ptr 1 0), (60, .d (.ag [eI N, eIss l0, eI (2 * N), eIss l1, eI N, eIss l2])), (61, vI .i64 2)] [some (.cells 27 (AV.d (eAg a)).cells), some (bCt c)] _)
 ·intro key
  exact zg key hC hCl ⟨⟨_, rfl, .refl _⟩, ⟨_, rfl, .refl _⟩, ⟨_, rfl, .refl _⟩, trivial⟩ ⟨.refl _, .refl _, trivial⟩ rfl rfl (Nat.zero_le _)
 refine z6 tabOk Tryz.func25 rfl trivial (fun _ => ?_) (fun h => by cases h)
 refine zh 60 tabOk Tryz.func25 rfl trivial ?_
 refine z1b (j := 2) tabOk rfl rfl rfl rfl rfl rfl rfl rfl (by decide) rfl rfl ?_
 refine zn 10 tabOk Tryz.func25 rfl rfl trivial (by kernel_rfl) ?_
 refine zx tabOk rfl trivial (z96 (n := N) (l0 := l2) (p := c.p2) (by omega) (znm hq2) (z7q hp2) s2) (zf Tryz.func68 rfl rfl) (by rintro r o rfl; rfl) (.refl _) rfl rfl ⟨_, rfl⟩ ?_
 refine zo tabOk rfl trivial ?_
 refine z6 tabOk Tryz.func25 rfl trivial (fun h3 => ?_) (fun h3 => ?_)
 ·have h3 : ((chk l2 0 c.p2).2 != 0) = true := h3
  rw [bne_iff_ne] at h3
  rw [if_pos h3]
  exact z7 tabOk Tryz.func25 rfl trivial rfl
 have h3 : ((chk l2 0 c.p2).2 != 0) = false := h3
 rw [bne_eq_false_iff_eq] at h3
 rw [if_neg (fun hh => hh h3)]
 refine za tabOk Tryz.func25 rfl trivial ?_
 refine z1q ?_
 apply letK (p := ASat Tryz.prog 25 Tryz.f25.ntmps C _ [(5, .ptr 1 0), (60, .d (.ag [eI N, eIss l0, eI (2 * N), eIss l1, eI N, eIss l2])), (61, vI .i64 3)] [some (.cells 27 (AV.d (eAg a)).cells), some (bCt c)] _)
 ·intro key
  exact zg key hC hCl ⟨⟨_, rfl, .refl _⟩, ⟨_, rfl, .refl _⟩, ⟨_, rfl, .refl _⟩, trivial⟩ ⟨.refl _, .refl _, trivial⟩ rfl rfl (Nat.zero_le _)
 refine z6 tabOk Tryz.func25 rfl trivial (fun h => by cases h) (fun _ => ?_)
 exact z7 tabOk Tryz.func25 rfl trivial rfl
theorem z29 {l : Int} (h0 : -9223372036854775808 ≤ l) (h1 : l ≤ 9223372036854775807) : (tItoa l).length ≤ 21 := by
 have := zdl h0 h1
 simpa [lit1] using this
theorem szS (l : List UInt8) : (⟨l.toArray⟩ : ByteArray).size = l.length := by simp [ByteArray.size]
theorem szA : (⟨#[10]⟩ : ByteArray).size = 1 ∧ (⟨#[32]⟩ : ByteArray).size = 1 ∧ (⟨#[105, 110, 118, 32]⟩ : ByteArray).size = 4 := ⟨rfl, rfl, rfl⟩
theorem szP : (⟨#[112, 114, 111, 111, 102, 32]⟩ : ByteArray).size = 6 := rfl
@[reducible] def bCr (a : Ag) (c : Ct) (f : Bool) (bs : List UInt8) : List (Option AObj) := [some (.cells 27 (AV.d (eAg a)).cells), some (bCt c), some (bld 2 3 f bs), some (gB bs)]
theorem z6w (a : Ag) (c : Ct) (f : Bool) (bs : List UInt8) : refsO 4 (bCr a c f bs) = true := by
 simp only [refsO, zj4 (show 2 < 4 by decide) (show 3 < 4 by decide)]
 rfl
theorem zk3 (l : List P2) (p : P2) : (l ++ [p]).flatMap gateT = l.flatMap gateT ++ gateT p := by simp
theorem zb6 : ∀ (l : List P2), (∀ p ∈ l, (0 ≤ p.1 ∧ p.1 ≤ 1000000000) ∧ 0 ≤ p.2 ∧ p.2 ≤ 1000000000) → (l.flatMap gateT).length ≤ l.length * 50
 | [], _ => by simp
 | p :: l, h => by
  have h1 := h p List.mem_cons_self
  have h2 := zb6 l fun x hx => h x (List.mem_cons_of_mem _ hx)
  have i0 := z29 (l := p.1) (by omega) (by omega)
  have i1 := z29 (l := p.2) (by omega) (by omega)
  simp only [List.flatMap_cons, List.length_append, List.length_cons, gateT, List.length_nil] at h2 ⊢
  omega
theorem zls {n : Int} {p : List Sp} (hn : 0 ≤ n ∧ n ≤ 100000) (h : z34 n p = true) (hl : p.length ≤ 1000) : (z1j p).length ≤ 22004000 ∧ (prT p).length ≤ 22005000 ∧ ∀ s ∈ p, (∀ x ∈ s.2.1, -1000000 ≤ x ∧ x ≤ 1000000) ∧ s.2.1.length ≤ 1000 := by
 have hs := z7q h
 have h1 : ∀ s ∈ p, (∀ x ∈ s.2.1, -1000000 ≤ x ∧ x ≤ 1000000) ∧ s.2.1.length ≤ 1000 := fun s hs' => ⟨fun x hx => by
  have := (hs s hs').1 x hx
  unfold litOk at this
  omega, (hs s hs').2⟩
 have h2 := z6k (m := 1000) (p := p) fun s hs' => ⟨fun l hl => by have := (h1 s hs').1 l hl; omega, (h1 s hs').2⟩
 have h3 : p.length * (1000 * 22 + 4) ≤ 1000 * (1000 * 22 + 4) := Nat.mul_le_mul_right _ hl
 have i0 := z29 (l := (p.length : Int)) (by omega) (by omega)
 refine ⟨by omega, ?_, h1⟩
 simp only [prT, z2k, List.length_append, List.length_cons, List.length_nil]
 omega
theorem zho (a : Ag) (c : Ct) (h : AcB a c) (hp : z3s a c = true → c.p0.length ≤ 1000 ∧ c.p1.length ≤ 1000 ∧ c.p2.length ≤ 1000) :
  ACall Tryz.prog 13 [.d (eAg a), .d (eCt c)] [] (fun r o => r = if z3s a c = true then tupOf [vStr (certT c), vI .i64 0] else tupOf [vStr [], vI .i64 1]) := by
 refine z8 Tryz.func13 rfl rfl (Nat.le_of_ble_eq_true rfl) fun C hC hCl hDs hGk => ?_
 refine ze tabOk Tryz.func13 rfl trivial (z6d a c h) (.refl _) rfl ⟨_, rfl⟩ (by rintro r o rfl; rfl) ?_
 rintro _ o rfl
 cases hR : z3s a c with
 | false =>
  rw [if_neg (by decide)]
  refine z6 tabOk Tryz.func13 rfl trivial (fun _ => ?_) (fun h => by cases h)
  exact z7 tabOk Tryz.func13 rfl trivial rfl
 | true =>
 rw [if_pos rfl]
 refine z6 tabOk Tryz.func13 rfl trivial (fun h => by cases h) (fun _ => ?_)
 obtain ⟨l0, l1, l2⟩ := hp hR
 obtain ⟨hg, hA, hinv, -, hp0, hp1, hp2⟩ := z40.1 hR
 have hA' := z13.1 hA
 have hv1 := hA'.v1
 refine zh 7 tabOk Tryz.func13 rfl trivial ?_
 refine zeg 5 1 (fun i => eU8 (([] : List UInt8).getD i 0)) ?_
 have i0 := z29 (l := (c.g.length : Int)) (by omega) (by omega)
 have i1 := z29 (l := c.inv) (by omega) (by omega)
 have hlen : (((c.g.map eP2).length : Nat) : Int) = (c.g.length : Int) := by rw [List.length_map]
 refine zn 9 tabOk Tryz.func13 rfl rfl trivial (by kernel_rfl) ?_
 refine zx tabOk rfl trivial (z3q (c.g.length : Int) (by omega) (by omega)) (zf Tryz.func39 rfl rfl) (by rintro r o rfl; rfl) ⟨.of (congrArg (vI .i64) hlen), trivial⟩ rfl rfl ⟨_, rfl⟩ ?_
 refine zx tabOk rfl ?nd (z3q c.inv (by omega) (by omega)) (zf Tryz.func39 rfl rfl) (by rintro r o rfl; rfl) (.refl _) rfl rfl ⟨_, rfl⟩ ?_
 case nd =>
  refine ⟨?_, ?_, trivial⟩ <;> (simp only [ByteArray.size_append, szS, szA, List.length_cons, List.length_nil]; omega)
 refine zo tabOk rfl trivial ?_
 refine zm [2, 3] tabOk Tryz.func13 rfl ?nd (z3p false [] (kInv ++ (tItoa (c.g.length : Int) ++ [32]) ++ (tItoa c.inv ++ [10])) (by decide) ?nd2) (z3b rfl rfl) ⟨.refl _, .of ?_, trivial⟩ rfl rfl (z1g _ _) ⟨_, rfl⟩ ?_
 case nd =>
  refine ⟨?_, ?_, trivial⟩ <;> (simp only [ByteArray.size_append, szS, szA, List.length_cons, List.length_nil]; omega)
 case nd2 =>
  simp only [List.length_append, List.length_cons, List.length_nil, kInv]
  omega
 ·show AV.d (.v (.string (((((⟨[105, 110, 118, 32].toArray⟩ : ByteArray) ++ ⟨(tItoa (c.g.length : Int)).toArray⟩) ++ ⟨[32].toArray⟩) ++ ⟨(tItoa c.inv).toArray⟩) ++ ⟨[10].toArray⟩))) = vStr _
  rw [z3m, z3m, z3m, z3m, show kInv ++ (tItoa (c.g.length : Int) ++ [32]) ++ (tItoa c.inv ++ [10]) = [105, 110, 118, 32] ++ tItoa (c.g.length : Int) ++ [32] ++ tItoa c.inv ++ [10] by simp [kInv]]
 rintro _ o ⟨rfl, rfl⟩
 rw [List.nil_append]
 have hH0 : (kInv ++ (tItoa (c.g.length : Int) ++ [32]) ++ (tItoa c.inv ++ [10])).length ≤ 100 := by
  simp only [List.length_append, List.length_cons, List.length_nil, kInv]
  omega
 have hct : certT c = kInv ++ (tItoa (c.g.length : Int) ++ [32]) ++ (tItoa c.inv ++ [10]) ++ c.g.flatMap gateT ++ prT c.p0 ++ prT c.p1 ++ prT c.p2 := rfl
 rw [hct]
 generalize kInv ++ (tItoa (c.g.length : Int) ++ [32]) ++ (tItoa c.inv ++ [10]) = H0 at *
 refine za tabOk Tryz.func13 rfl trivial ?_
 have hgat := hA'.gat
 have hgi : ∀ p ∈ c.g, (0 ≤ p.1 ∧ p.1 ≤ 1000000000) ∧ 0 ≤ p.2 ∧ p.2 ≤ 1000000000 := fun p hp => (zpu hA').g p (List.mem_append_right _ hp)
 have hgl : ∀ i, ((c.g.take i).flatMap gateT).length ≤ 20000 * 50 := fun i => by
  have := zb6 (c.g.take i) fun p hp => hgi p (List.mem_of_mem_take hp)
  rw [List.length_take] at this
  omega
 refine zj (α := Nat) (fun i => [(3, .ptr 1 0), (6, .ptr 2 0), (28, .d (eP2s c.g)), (29, vI .i64 c.g.length), (30, vI .i64 (i : Int))]) (fun i => bCr a c true (H0 ++ (c.g.take i).flatMap gateT)) (fun i => i ≤ c.g.length) (fun i => c.g.length - i) 0 (Nat.zero_le _) ?_ ?_
 ·refine fun h => zg h hC hCl ⟨⟨_, rfl, .refl _⟩, ⟨_, rfl, .refl _⟩, ⟨_, rfl, .refl _⟩, ⟨_, rfl, .of (by rw [List.length_map])⟩, ⟨_, rfl, .refl _⟩, trivial⟩ ⟨.refl _, .refl _, .of ?_, .of ?_, trivial⟩ rfl ?_ (Nat.zero_le _)
  ·show (bld 0 1 true _).ren _ = _
   rw [z5l, List.take_zero, List.flatMap_nil, List.append_nil]
   rfl
  ·rw [List.take_zero, List.flatMap_nil, List.append_nil]
   rfl
  ·exact z6w _ _ _ _
 rintro i hi ih
 have hgl0 := hgl i
 refine z6 tabOk Tryz.func13 rfl trivial (fun hb => ?_) (fun hb => ?_)
 ·have hb : decide ((i : Int) < (c.g.length : Int)) = true := hb
  rw [decide_eq_true_eq] at hb
  have hlt : i < c.g.length := by omega
  have ih := ih (i + 1) (by omega) (by omega)
  have hx := hgi c.g[i] (List.getElem_mem hlt)
  have hgd : c.g.getD i (0, 0) = c.g[i] := by rw [List.getD_eq_getElem?_getD, List.getElem?_eq_getElem hlt]; rfl
  rw [List.take_succ_eq_append_getElem hlt, zk3, ← List.append_assoc] at ih
  generalize c.g[i] = x at *
  have j0 := z29 (l := x.1) (by omega) (by omega)
  have j1 := z29 (l := x.2) (by omega) (by omega)
  refine zn 7 tabOk Tryz.func13 rfl rfl (by simp only [andP, and_true, true_and, Int.toNat_natCast, List.length_map, List.length_append, List.length_cons, List.length_nil, List.length_replicate]; omega) (by kernel_rfl) ?_
  refine zx tabOk rfl trivial (z3q x.1 (by omega) (by omega)) (zf Tryz.func39 rfl rfl) (by rintro r o rfl; rfl) ⟨.of (congrArg (fun z : P2 => vI .i64 z.1) hgd), trivial⟩ rfl rfl ⟨_, rfl⟩ ?_
  refine zx tabOk rfl ?nd (z3q x.2 (by omega) (by omega)) (zf Tryz.func39 rfl rfl) (by rintro r o rfl; rfl) ⟨.of (congrArg (fun z : P2 => vI .i64 z.2) hgd), trivial⟩ rfl rfl ⟨_, rfl⟩ ?_
  case nd =>
   refine ⟨?_, trivial⟩
   simp only [ByteArray.size_append, szS, szA, List.length_cons, List.length_nil]; omega
  refine zo tabOk rfl trivial ?_
  refine zm [2, 3] tabOk Tryz.func13 rfl ?nd3 (z3p true (H0 ++ (c.g.take i).flatMap gateT) (gateT x) (by rw [List.length_append]; omega) ?nd4) (z3b rfl rfl) ⟨.refl _, .of ?_, trivial⟩ rfl rfl (z1g _ _) ⟨_, rfl⟩ ?_
  case nd3 =>
   refine ⟨?_, ?_, trivial⟩ <;> (simp only [ByteArray.size_append, szS, szA, List.length_cons, List.length_nil]; omega)
  case nd4 =>
   simp only [List.length_append, List.length_cons, List.length_nil, gateT]
   omega
  ·show AV.d (.v (.string ((((⟨(tItoa x.1).toArray⟩ : ByteArray) ++ ⟨[32].toArray⟩) ++ ⟨(tItoa x.2).toArray⟩) ++ ⟨[10].toArray⟩))) = vStr _
   rw [z3m, z3m, z3m, show gateT x = tItoa x.1 ++ [32] ++ tItoa x.2 ++ [10] by simp [gateT]]
  rintro _ o ⟨rfl, rfl⟩
  refine za tabOk Tryz.func13 rfl trivial ?_
  refine zg ih hC hCl ⟨⟨_, rfl, .refl _⟩, ⟨_, rfl, .refl _⟩, ⟨_, rfl, .refl _⟩, ⟨_, rfl, .refl _⟩, ⟨_, rfl, .of (by rw [zb (by omega) (by omega)]; rfl)⟩, trivial⟩ ⟨.refl _, .refl _, .of ?_, .refl _, trivial⟩ rfl (z6w _ _ _ _) (Nat.zero_le _)
  show (bld 0 1 true _).ren _ = _
  rw [z5l]
  rfl
 have hb : decide ((i : Int) < (c.g.length : Int)) = false := hb
 rw [decide_eq_false_iff_not] at hb
 obtain rfl : i = c.g.length := by omega
 rw [List.take_length] at hgl0 ⊢
 obtain ⟨x0, y0, z0⟩ := zls (by omega) hp0 l0
 obtain ⟨x1, y1, z1⟩ := zls (by omega) hp1 l1
 obtain ⟨x2, y2, z2⟩ := zls (by omega) hp2 l2
 generalize hT : H0 ++ c.g.flatMap gateT = T at *
 have hTl : T.length ≤ 1000100 := by rw [← hT, List.length_append]; omega
 refine za tabOk Tryz.func13 rfl trivial ?_
 refine z3f ?_
 apply letK (p := ASat Tryz.prog 13 Tryz.f13.ntmps C _ [(6, .ptr 2 0), (46, .d (.ag [eSps c.p0, eSps c.p1, eSps c.p2])), (47, vI .i64 0)] (bCr a c true (T)) _)
 ·intro key
  refine zg key hC hCl ⟨⟨_, rfl, .refl _⟩, ⟨_, rfl, .refl _⟩, ⟨_, rfl, .refl _⟩, trivial⟩ ⟨.refl _, .refl _, .refl _, .refl _, trivial⟩ rfl (z6w _ _ _ _) (Nat.zero_le _)
 refine z6 tabOk Tryz.func13 rfl trivial (fun _ => ?_) (fun h => by cases h)
 refine zh 60 tabOk Tryz.func13 rfl trivial ?_
 refine z1b (j := 0) tabOk rfl rfl rfl rfl rfl rfl rfl rfl (by decide) rfl rfl ?_
 have q0 := z29 (l := (c.p0.length : Int)) (by omega) (by omega)
 refine ze tabOk Tryz.func13 rfl trivial (z3q (c.p0.length : Int) (by omega) (by omega)) ⟨.of (congrArg (vI .i64) zmr), trivial⟩ rfl ⟨_, rfl⟩ (by rintro r o rfl; rfl) ?_
 rintro _ o rfl
 refine ze tabOk Tryz.func13 rfl ?_ (z7n c.p0 z0 l0) (.refl _) rfl ⟨_, rfl⟩ (by rintro r o rfl; rfl) ?_
 ·refine ⟨?_, ?_, trivial⟩ <;> (simp only [ByteArray.size_append, szS, szA, szP, List.length_cons, List.length_nil]; omega)
 rintro _ o rfl
 refine zm [2, 3] tabOk Tryz.func13 rfl ?nd10 (z3p true (T) (prT c.p0) (by omega) (by omega)) (z3b rfl rfl) ⟨.refl _, .of ?_, trivial⟩ rfl rfl (z1g _ _) ⟨_, rfl⟩ ?_
 case nd10 =>
  refine ⟨?_, trivial⟩
  simp only [ByteArray.size_append, szS, szA, szP, List.length_cons, List.length_nil]; omega
 ·show AV.d (.v (.string ((((⟨[112, 114, 111, 111, 102, 32].toArray⟩ : ByteArray) ++ ⟨(tItoa (c.p0.length : Int)).toArray⟩) ++ ⟨[10].toArray⟩) ++ ⟨(z1j c.p0).toArray⟩))) = vStr _
  rw [z3m, z3m, z3m, show prT c.p0 = [112, 114, 111, 111, 102, 32] ++ tItoa (c.p0.length : Int) ++ [10] ++ z1j c.p0 by simp [prT, z2k]]
 rintro _ o ⟨rfl, rfl⟩
 refine za tabOk Tryz.func13 rfl trivial ?_
 refine z1q ?_
 apply letK (p := ASat Tryz.prog 13 Tryz.f13.ntmps C _ [(6, .ptr 2 0), (46, .d (.ag [eSps c.p0, eSps c.p1, eSps c.p2])), (47, vI .i64 1)] (bCr a c true (T ++ prT c.p0)) _)
 ·intro key
  refine zg key hC hCl ⟨⟨_, rfl, .refl _⟩, ⟨_, rfl, .refl _⟩, ⟨_, rfl, .refl _⟩, trivial⟩ ⟨.refl _, .refl _, .of ?_, .refl _, trivial⟩ rfl (z6w _ _ _ _) (Nat.zero_le _)
  show (bld 0 1 true _).ren _ = _
  rw [z5l]
  rfl
 refine z6 tabOk Tryz.func13 rfl trivial (fun _ => ?_) (fun h => by cases h)
 refine zh 60 tabOk Tryz.func13 rfl trivial ?_
 refine z1b (j := 1) tabOk rfl rfl rfl rfl rfl rfl rfl rfl (by decide) rfl rfl ?_
 have q1 := z29 (l := (c.p1.length : Int)) (by omega) (by omega)
 refine ze tabOk Tryz.func13 rfl trivial (z3q (c.p1.length : Int) (by omega) (by omega)) ⟨.of (congrArg (vI .i64) zmr), trivial⟩ rfl ⟨_, rfl⟩ (by rintro r o rfl; rfl) ?_
 rintro _ o rfl
 refine ze tabOk Tryz.func13 rfl ?_ (z7n c.p1 z1 l1) (.refl _) rfl ⟨_, rfl⟩ (by rintro r o rfl; rfl) ?_
 ·refine ⟨?_, ?_, trivial⟩ <;> (simp only [ByteArray.size_append, szS, szA, szP, List.length_cons, List.length_nil]; omega)
 rintro _ o rfl
 refine zm [2, 3] tabOk Tryz.func13 rfl ?nd11 (z3p true (T ++ prT c.p0) (prT c.p1) (by simp only [List.length_append]; omega) (by omega)) (z3b rfl rfl) ⟨.refl _, .of ?_, trivial⟩ rfl rfl (z1g _ _) ⟨_, rfl⟩ ?_
 case nd11 =>
  refine ⟨?_, trivial⟩
  simp only [ByteArray.size_append, szS, szA, szP, List.length_cons, List.length_nil]; omega
 ·show AV.d (.v (.string ((((⟨[112, 114, 111, 111, 102, 32].toArray⟩ : ByteArray) ++ ⟨(tItoa (c.p1.length : Int)).toArray⟩) ++ ⟨[10].toArray⟩) ++ ⟨(z1j c.p1).toArray⟩))) = vStr _
  rw [z3m, z3m, z3m, show prT c.p1 = [112, 114, 111, 111, 102, 32] ++ tItoa (c.p1.length : Int) ++ [10] ++ z1j c.p1 by simp [prT, z2k]]
 rintro _ o ⟨rfl, rfl⟩
 refine za tabOk Tryz.func13 rfl trivial ?_
 refine z1q ?_
 apply letK (p := ASat Tryz.prog 13 Tryz.f13.ntmps C _ [(6, .ptr 2 0), (46, .d (.ag [eSps c.p0, eSps c.p1, eSps c.p2])), (47, vI .i64 2)] (bCr a c true (T ++ prT c.p0 ++ prT c.p1)) _)
 ·intro key
  refine zg key hC hCl ⟨⟨_, rfl, .refl _⟩, ⟨_, rfl, .refl _⟩, ⟨_, rfl, .refl _⟩, trivial⟩ ⟨.refl _, .refl _, .of ?_, .refl _, trivial⟩ rfl (z6w _ _ _ _) (Nat.zero_le _)
  show (bld 0 1 true _).ren _ = _
  rw [z5l]
  rfl
 refine z6 tabOk Tryz.func13 rfl trivial (fun _ => ?_) (fun h => by cases h)
 refine zh 60 tabOk Tryz.func13 rfl trivial ?_
 refine z1b (j := 2) tabOk rfl rfl rfl rfl rfl rfl rfl rfl (by decide) rfl rfl ?_
 have q2 := z29 (l := (c.p2.length : Int)) (by omega) (by omega)
 refine ze tabOk Tryz.func13 rfl trivial (z3q (c.p2.length : Int) (by omega) (by omega)) ⟨.of (congrArg (vI .i64) zmr), trivial⟩ rfl ⟨_, rfl⟩ (by rintro r o rfl; rfl) ?_
 rintro _ o rfl
 refine ze tabOk Tryz.func13 rfl ?_ (z7n c.p2 z2 l2) (.refl _) rfl ⟨_, rfl⟩ (by rintro r o rfl; rfl) ?_
 ·refine ⟨?_, ?_, trivial⟩ <;> (simp only [ByteArray.size_append, szS, szA, szP, List.length_cons, List.length_nil]; omega)
 rintro _ o rfl
 refine zm [2, 3] tabOk Tryz.func13 rfl ?nd12 (z3p true (T ++ prT c.p0 ++ prT c.p1) (prT c.p2) (by simp only [List.length_append]; omega) (by omega)) (z3b rfl rfl) ⟨.refl _, .of ?_, trivial⟩ rfl rfl (z1g _ _) ⟨_, rfl⟩ ?_
 case nd12 =>
  refine ⟨?_, trivial⟩
  simp only [ByteArray.size_append, szS, szA, szP, List.length_cons, List.length_nil]; omega
 ·show AV.d (.v (.string ((((⟨[112, 114, 111, 111, 102, 32].toArray⟩ : ByteArray) ++ ⟨(tItoa (c.p2.length : Int)).toArray⟩) ++ ⟨[10].toArray⟩) ++ ⟨(z1j c.p2).toArray⟩))) = vStr _
  rw [z3m, z3m, z3m, show prT c.p2 = [112, 114, 111, 111, 102, 32] ++ tItoa (c.p2.length : Int) ++ [10] ++ z1j c.p2 by simp [prT, z2k]]
 rintro _ o ⟨rfl, rfl⟩
 refine za tabOk Tryz.func13 rfl trivial ?_
 refine z1q ?_
 apply letK (p := ASat Tryz.prog 13 Tryz.f13.ntmps C _ [(6, .ptr 2 0), (46, .d (.ag [eSps c.p0, eSps c.p1, eSps c.p2])), (47, vI .i64 3)] (bCr a c true (T ++ prT c.p0 ++ prT c.p1 ++ prT c.p2)) _)
 ·intro key
  refine zg key hC hCl ⟨⟨_, rfl, .refl _⟩, ⟨_, rfl, .refl _⟩, ⟨_, rfl, .refl _⟩, trivial⟩ ⟨.refl _, .refl _, .of ?_, .refl _, trivial⟩ rfl (z6w _ _ _ _) (Nat.zero_le _)
  show (bld 0 1 true _).ren _ = _
  rw [z5l]
  rfl
 refine z6 tabOk Tryz.func13 rfl trivial (fun h => by cases h) (fun _ => ?_)
 refine zm [2, 3] tabOk Tryz.func13 rfl trivial (zgd true (T ++ prT c.p0 ++ prT c.p1 ++ prT c.p2)) (z3b rfl rfl) (.refl _) rfl rfl (z1g _ _) ⟨_, rfl⟩ ?_
 rintro _ o ⟨rfl, rfl⟩
 exact z7 tabOk Tryz.func13 rfl trivial rfl
end Go.Proofs.YtkemmijjpclckaaGreatDoor
