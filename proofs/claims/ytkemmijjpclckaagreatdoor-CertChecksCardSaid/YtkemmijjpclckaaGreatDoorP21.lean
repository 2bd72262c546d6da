/- A part of the proof. -/
import Derived.Test.YtkemmijjpclckaaGreatDoorP20
set_option linter.unusedVariables false
set_option linter.unusedSimpArgs false
set_option linter.unusedSectionVars false
set_option maxRecDepth 100000
set_option maxHeartbeats 8000000
namespace Go.Proofs.YtkemmijjpclckaaGreatDoor
open Go Ab
def One (l : List (List Int)) (xs : List Int) (x : Int) : Prop := x ≠ 0 ∧ ∃ c ∈ l, x ∈ c ∧ x ∉ xs ∧ -x ∉ xs ∧ ∀ y ∈ c, y ≠ x → -y ∈ xs
theorem zj9 {n : Int} {l : List (List Int)} {a : List Int} (hok : Okl n l a) (hn : n ≤ 100000) (hll : l.length ≤ 1000000) (ha : a.length ≤ 1000000) : ACall Tryz.prog 166 [vI .i64 n, .d (eIss l), .d (eIs a)] [] (zrt l a) := by
 refine za Tryz.func166 rfl rfl (Nat.le_of_ble_eq_true rfl) fun C hC hCl hDs hGk => ?_
 have hn0 := hok.n0
 refine ze tabOk Tryz.func166 rfl trivial (z7f a (fun y hy => z54 (hok.asm y hy) hn) ha) (.refl _) rfl ⟨_, rfl⟩ (by rintro r o rfl; rfl) ?_
 rintro r o rfl
 have hm0 : ∀ x, x ∈ sortU a ↔ x ∈ a := z5y a
 have hp0 := zag a
 have hfo0 : ∀ x ∈ sortU a, Fo l a x := fun x hx => .mem ((hm0 x).1 hx)
 have hlit0 : ∀ x ∈ sortU a, litOk n x := fun x hx => hok.asm x ((hm0 x).1 hx)
 have hln := zmp a
 generalize hs0 : sortU a = s0 at *
 refine z8 tabOk Tryz.func166 rfl trivial ?_
 refine zh (α := Nat) (fun i => [(0, vI .i64 n), (1, .d (eIss l)), (8, .d (eIs s0)), (9, vI .i64 i)]) (fun _ => []) (fun i => i ≤ s0.length ∧ ∀ x ∈ s0.take i, -x ∉ s0) (fun i => s0.length - i) 0 ⟨Nat.zero_le _, by simp⟩ ?_ ?_
 ·exact fun h => zg h hC hCl ⟨⟨_, rfl, .refl _⟩, ⟨_, rfl, .refl _⟩, ⟨_, rfl, .refl _⟩, ⟨_, rfl, .refl _⟩, trivial⟩ trivial rfl rfl (Nat.zero_le _)
 rintro i ⟨hi, hd⟩ ih
 refine z6 tabOk Tryz.func166 rfl trivial (fun hb => ?_) (fun hb => ?_) <;> simp only [decide_eq_true_eq, decide_eq_false_iff_not, List.length_map] at hb
 ·have hlt : i < s0.length := by omega
  have hget : s0.getD i 0 = s0[i] := by simp [hlt]
  have htk : s0.take (i + 1) = s0.take i ++ [s0[i]] := by rw [List.take_add_one]; simp [hlt]
  have hx0 := List.getElem_mem hlt
  generalize hx : s0[i] = x at *
  obtain ⟨b1, b2⟩ := z54 (hlit0 x hx0) hn
  have e1 : IntKind.i64.wrap (0 - x) = -x := by rw [zb (by omega) (by omega), Int.zero_sub]
  refine ze tabOk Tryz.func166 rfl ?_ (zf8 s0 (-x)) ⟨.refl _, .of (by show vI .i64 (IntKind.i64.wrap (0 - s0.getD i 0)) = _; rw [hget, e1]), trivial⟩ rfl ⟨_, rfl⟩ (by rintro r o rfl; rfl) ?_
  ·simp only [Int.toNat_natCast, List.length_map]; exact ⟨⟨by omega, by omega⟩, trivial⟩
  rintro r o rfl
  refine z6 tabOk Tryz.func166 rfl trivial (fun h1 => ?_) (fun h1 => ?_)
  ·have h1 : -x ∈ s0 := by simpa using h1
   refine z7 tabOk Tryz.func166 rfl trivial (.inl ⟨rfl, .inl ⟨x, hfo0 x hx0, hfo0 _ h1⟩⟩)
  have h1 : -x ∉ s0 := by simpa using h1
  refine z8 tabOk Tryz.func166 rfl trivial ?_
  refine zg (ih (i + 1) ⟨by omega, fun y hy => ?_⟩ (by omega)) hC hCl ⟨⟨_, rfl, .refl _⟩, ⟨_, rfl, .refl _⟩, ⟨_, rfl, .refl _⟩, ⟨_, rfl, .of (by rw [zb (by omega) (by omega)]; rfl)⟩, trivial⟩ trivial rfl rfl (Nat.zero_le _)
  rw [htk] at hy
  rcases List.mem_append.1 hy with hy | hy
  ·exact hd y hy
  ·rw [List.mem_singleton.1 hy]; exact h1
 obtain rfl : i = s0.length := by omega
 rw [List.take_length] at hd
 clear ih
 have hrf0 : Rf l a s0 := ⟨fun x hx => (hm0 x).2 hx, hfo0, hd⟩
 refine z8 tabOk Tryz.func166 rfl trivial ?_
 refine zh (α := List Int) (fun xs => [(0, vI .i64 n), (1, .d (eIss l)), (8, .d (eIs xs))]) (fun _ => []) (fun xs => Rf l a xs ∧ xs.Pairwise ltI ∧ ∀ x ∈ xs, litOk n x) (fun xs => n.toNat + 1 - xs.length) s0 ⟨hrf0, hp0, hlit0⟩ ?_ ?_
 ·exact fun h => zg h hC hCl ⟨⟨_, rfl, .refl _⟩, ⟨_, rfl, .refl _⟩, ⟨_, rfl, .refl _⟩, trivial⟩ trivial rfl rfl (Nat.zero_le _)
 rintro xs ⟨hrf, hp, hlit⟩ ih
 have hxl := zrp hp hlit hrf.con
 refine z8 tabOk Tryz.func166 rfl trivial ?_
 refine zh (α := Nat × Int) (fun s => [(0, vI .i64 n), (1, .d (eIss l)), (8, .d (eIs xs)), (11, vI .i64 s.2), (12, vI .i64 s.1)]) (fun _ => []) (fun s => s.1 ≤ l.length ∧ (s.2 = 0 → ∀ c ∈ l.take s.1, leftW xs 0 c = (0, 2)) ∧ (s.2 ≠ 0 → One l xs s.2)) (fun s => l.length - s.1) (0, 0) ⟨Nat.zero_le _, by simp, by simp⟩ ?_ ?_
 ·exact fun h => zg h hC hCl ⟨⟨_, rfl, .refl _⟩, ⟨_, rfl, .refl _⟩, ⟨_, rfl, .refl _⟩, ⟨_, rfl, .refl _⟩, ⟨_, rfl, .refl _⟩, trivial⟩ trivial rfl rfl (Nat.zero_le _)
 rintro ⟨i, more⟩ ⟨hi, hz, hone⟩ ihi
 simp only at hi hz hone ⊢
 refine z6 tabOk Tryz.func166 rfl trivial (fun hb => ?_) (fun hb => ?_) <;> simp only [decide_eq_true_eq, decide_eq_false_iff_not, List.length_map] at hb
 ·have hlt : i < l.length := by omega
  have hget : l.getD i [] = l[i] := by simp [hlt]
  have htk : l.take (i + 1) = l.take i ++ [l[i]] := by rw [List.take_add_one]; simp [hlt]
  have hcl := List.getElem_mem hlt
  generalize hcc : l[i] = c at *
  refine ze tabOk Tryz.func166 rfl ?_ (zod xs c (fun y hy => z54 (hok.cl c hcl y hy) hn)) ⟨.refl _, .of (by show AV.d (eIs (l.getD i [])) = _; rw [hget]), trivial⟩ rfl ⟨_, rfl⟩ (by rintro r o rfl; rfl) ?_
  ·simp only [Int.toNat_natCast, List.length_map]; exact ⟨⟨by omega, by omega⟩, trivial⟩
  rintro r o rfl
  rcases z9i xs c (fun y hy => (hok.cl c hcl y hy).1) with ⟨e, h2⟩ | ⟨x, e, h1, h2, h3, h4, h5⟩ | ⟨e, h2⟩
  ·rw [e]
   refine z6 tabOk Tryz.func166 rfl trivial (fun _ => ?_) (fun h => by cases h)
   refine z7 tabOk Tryz.func166 rfl trivial (.inl ⟨rfl, zqi hrf.fo hcl h2⟩)
  ·rw [e]
   refine z6 tabOk Tryz.func166 rfl trivial (fun h => by cases h) (fun _ => ?_)
   refine z6 tabOk Tryz.func166 rfl trivial (fun _ => ?_) (fun h => by cases h)
   refine z8 tabOk Tryz.func166 rfl trivial ?_
   exact zg (ihi (i + 1, x) ⟨by simp; omega, fun h => absurd h h1, fun _ => ⟨h1, c, hcl, h4, h2, h3, h5⟩⟩ (by simp; omega)) hC hCl ⟨⟨_, rfl, .refl _⟩, ⟨_, rfl, .refl _⟩, ⟨_, rfl, .refl _⟩, ⟨_, rfl, .refl _⟩, ⟨_, rfl, .of (by rw [zb (by omega) (by omega)]; rfl)⟩, trivial⟩ trivial rfl rfl (Nat.zero_le _)
  ·rw [e]
   refine z6 tabOk Tryz.func166 rfl trivial (fun h => by cases h) (fun _ => ?_)
   refine z6 tabOk Tryz.func166 rfl trivial (fun h => by cases h) (fun _ => ?_)
   refine z8 tabOk Tryz.func166 rfl trivial ?_
   refine zg (ihi (i + 1, more) ⟨by simp; omega, fun h d hd => ?_, hone⟩ (by simp; omega)) hC hCl ⟨⟨_, rfl, .refl _⟩, ⟨_, rfl, .refl _⟩, ⟨_, rfl, .refl _⟩, ⟨_, rfl, .refl _⟩, ⟨_, rfl, .of (by rw [zb (by omega) (by omega)]; rfl)⟩, trivial⟩ trivial rfl rfl (Nat.zero_le _)
   simp only at hd
   rw [htk] at hd
   rcases List.mem_append.1 hd with hd | hd
   ·exact hz h d hd
   ·rw [List.mem_singleton.1 hd]; exact e
 obtain rfl : i = l.length := by omega
 rw [List.take_length] at hz
 refine z6 tabOk Tryz.func166 rfl trivial (fun hb => ?_) (fun hb => ?_)
 ·have hb : more = 0 := by simpa using hb
  obtain ⟨h1, h2⟩ := zs5 hok hrf (hz hb)
  exact z7 tabOk Tryz.func166 rfl trivial (.inr ⟨xs, rfl, h1, hp, h2⟩)
 have hb : more ≠ 0 := by simpa using hb
 obtain ⟨h1, c, hcl, h2, h3, h4, h5⟩ := hone hb
 refine zj 9 tabOk Tryz.func166 rfl ?_ ?_
 ·exact (by simp only [andP, and_true, true_and, Int.toNat_natCast, List.length_map, List.length_append, List.length_cons, List.length_nil, List.length_replicate]; omega)
 refine zw 0 rfl ?_
 refine ze tabOk Tryz.func166 rfl trivial (z7f (xs ++ [more]) (fun y hy => ?_) (by simp; omega)) ⟨.eL (by rw [List.map_append]; rfl), trivial⟩ rfl ⟨_, rfl⟩ (by rintro r o rfl; rfl) ?_
 ·rcases List.mem_append.1 hy with hy | hy
  ·exact z54 (hlit y hy) hn
  ·rw [List.mem_singleton.1 hy]; exact z54 (hok.cl c hcl _ h2) hn
 rintro r o rfl
 refine z8 tabOk Tryz.func166 rfl trivial ?_
 have hlit2 : ∀ x ∈ sortU (xs ++ [more]), litOk n x := by
  intro x hx
  rw [z5y] at hx
  rcases List.mem_append.1 hx with hx | hx
  ·exact hlit x hx
  ·rw [List.mem_singleton.1 hx]; exact hok.cl c hcl _ h2
 have hrf2 := zs4 hrf h1 hcl h2 h3 h4 h5
 have hl2 := zrp (zag _) hlit2 hrf2.con
 have hl3 := zq7 hp h3
 exact zg (ih (sortU (xs ++ [more])) ⟨hrf2, zag _, hlit2⟩ (by omega)) hC hCl ⟨⟨_, rfl, .refl _⟩, ⟨_, rfl, .refl _⟩, ⟨_, rfl, .refl _⟩, trivial⟩ trivial rfl rfl (Nat.zero_le _)
theorem zf6 {n : Int} {l : List (List Int)} {c : List Int} (hok : Okl n l c) (hn : n ≤ 100000) (hll : l.length ≤ 1000000) (hc : c.length ≤ 1000000) : ACall Tryz.prog 148 [vI .i64 n, .d (eIss l), .d (eIs c)] [] (refR l c) := by
 refine za Tryz.func148 rfl rfl (Nat.le_of_ble_eq_true rfl) fun C hC hCl hDs hGk => ?_
 refine z8 tabOk Tryz.func148 rfl trivial ?_
 refine z2w (e := 3) (s := 1) (t := 7) (.inl rfl) (fun i => eI (([] : List Int).getD i 0)) ?_
 refine zh (α := Nat) (fun i => [(0, vI .i64 n), (1, .d (eIss l)), (2, .d (eIs c)), (7, .gs 0), (8, vI .i64 i)]) (fun i => [some (gIs ((c.take i).map fun x => -x))]) (fun i => i ≤ c.length) (fun i => c.length - i) 0 (Nat.zero_le _) ?_ ?_
 ·exact fun h => zg h hC hCl ⟨⟨_, rfl, .refl _⟩, ⟨_, rfl, .refl _⟩, ⟨_, rfl, .refl _⟩, ⟨_, rfl, .refl _⟩, ⟨_, rfl, .refl _⟩, trivial⟩ ⟨.gL (by simp), trivial⟩ rfl rfl (Nat.zero_le _)
 rintro i hi ih
 refine z6 tabOk Tryz.func148 rfl trivial (fun hb => ?_) (fun hb => ?_) <;> simp only [decide_eq_true_eq, decide_eq_false_iff_not, List.length_map] at hb
 ·have hlt : i < c.length := by omega
  have hget : c.getD i 0 = c[i] := by simp [hlt]
  have htk : c.take (i + 1) = c.take i ++ [c[i]] := by rw [List.take_add_one]; simp [hlt]
  have hxb := z54 (hok.asm _ (List.getElem_mem hlt)) hn
  generalize hx : c[i] = x at *
  have e1 : IntKind.i64.wrap (0 - x) = -x := by rw [zb (by omega) (by omega), Int.zero_sub]
  refine z8 tabOk Tryz.func148 rfl ?_ ?_
  ·exact (by simp only [andP, and_true, true_and, Int.toNat_natCast, List.length_map, List.length_append, List.length_cons, List.length_nil, List.length_replicate, List.length_take]; omega)
  refine zg (ih (i + 1) (by omega) (by omega)) hC hCl ⟨⟨_, rfl, .refl _⟩, ⟨_, rfl, .refl _⟩, ⟨_, rfl, .refl _⟩, ⟨_, rfl, .refl _⟩, ⟨_, rfl, .of (by rw [zb (by omega) (by omega)]; rfl)⟩, trivial⟩ ⟨.gL ?_, trivial⟩ rfl rfl (Nat.zero_le _)
  rw [htk, List.map_append, List.map_append, List.map_cons, ← e1, ← hget]
  rfl
 obtain rfl : i = c.length := by omega
 refine zw 0 rfl ?_
 rw [List.take_length]
 refine ze tabOk Tryz.func148 rfl trivial (zj9 (zo0 hok) hn hll (by simpa using hc)) (.refl _) rfl ⟨_, rfl⟩ ziu ?_
 rintro r o (⟨rfl, h⟩ | ⟨xs, rfl, h⟩)
 ·exact z7 tabOk Tryz.func148 rfl trivial ⟨true, rfl, fun _ => h, fun _ => rfl⟩
 ·exact z7 tabOk Tryz.func148 rfl trivial ⟨false, rfl, fun h => (by cases h), fun h2 => absurd h2 h.1⟩
end Go.Proofs.YtkemmijjpclckaaGreatDoor
namespace Go.Proofs.YtkemmijjpclckaaGreatDoor
open Go Ab Go.RowKit
@[reducible] def woA (l : List (List Int)) (c : List Int) : AV := match takeR l c with | none => .tp [.d (.v (.slice none 0 0)), vB false] | some l' => .tp [.d (eIss l'), vB true]
theorem zfc {l : List (List Int)} {c : List Int} (hll : ∀ d ∈ l, (∀ x ∈ d, -1000000 ≤ x ∧ x ≤ 1000000) ∧ d.length ≤ 1000000) (hcc : ∀ x ∈ c, -1000000 ≤ x ∧ x ≤ 1000000) (hc : c.length ≤ 1000000) (hl : l.length ≤ 1000000) :
  ACall Tryz.prog 147 [.d (eIss l), .d (eIs c)] [] (fun r o => r = woA l c) := by
 refine za Tryz.func147 rfl rfl (Nat.le_of_ble_eq_true rfl) fun C hC hCl hDs hGk => ?_
 refine ze tabOk Tryz.func147 rfl trivial (z7f c hcc hc) (.refl _) rfl ⟨_, rfl⟩ (by rintro r o rfl; rfl) ?_
 rintro _ o rfl
 refine z8 tabOk Tryz.func147 rfl trivial ?_
 refine zh (α := Nat) (fun i => [(0, .d (eIss l)), (1, .d (eIs c)), (6, .d (eIs (sortU c))), (7, vI .i64 (i : Int))]) (fun _ => []) (fun i => i ≤ l.length ∧ ∀ q (hq : q < l.length), q < i → eqS c l[q] = false) (fun i => l.length - i) 0 ⟨Nat.zero_le _, fun q _ h => absurd h (Nat.not_lt_zero q)⟩ ?_ ?_
 ·exact fun h => zg h hC hCl ⟨⟨_, rfl, .refl _⟩, ⟨_, rfl, .refl _⟩, ⟨_, rfl, .refl _⟩, ⟨_, rfl, .refl _⟩, trivial⟩ trivial rfl rfl (Nat.zero_le _)
 rintro i ⟨hi, hno⟩ ih
 refine z6 tabOk Tryz.func147 rfl trivial (fun hb => ?_) (fun hb => ?_)
 rotate_left
 ·have hb : decide ((i : Int) < (((l.map eIs).length : Nat) : Int)) = false := hb
  rw [decide_eq_false_iff_not, List.length_map] at hb
  have e1 : takeR l c = none := by
   rw [takeR, List.findIdx?_eq_none_iff.2 fun x hx => ?_]
   ·rfl
   ·obtain ⟨q, hq, rfl⟩ := List.mem_iff_getElem.1 hx
    exact hno q hq (by omega)
  refine z7 tabOk Tryz.func147 rfl trivial ?_
  rw [woA, e1]
  rfl
 have hb : decide ((i : Int) < (((l.map eIs).length : Nat) : Int)) = true := hb
 rw [decide_eq_true_eq, List.length_map] at hb
 have hlt : i < l.length := by omega
 have eg : l.getD i [] = l[i] := by simp [hlt]
 obtain ⟨hd1, hd2⟩ := hll _ (List.getElem_mem hlt)
 rw [← eg] at hd1 hd2
 refine ze tabOk Tryz.func147 rfl (by simp only [andP, and_true, true_and, Int.toNat_natCast, List.length_map, List.length_append, List.length_cons, List.length_nil, List.length_replicate]; omega) (z7f (l.getD i []) hd1 hd2) (.refl _) rfl ⟨_, rfl⟩ (by rintro r o rfl; rfl) ?_
 rintro _ o rfl
 refine ze tabOk Tryz.func147 rfl trivial (zpu (sortU (l.getD i [])) (sortU c)) (.refl _) rfl ⟨_, rfl⟩ (by rintro r o rfl; rfl) ?_
 rintro _ o rfl
 refine z6 tabOk Tryz.func147 rfl trivial (fun h2 => ?_) (fun h2 => ?_)
 ·have h2 : eqS c (l.getD i []) = true := h2
  rw [eg] at h2
  have e1 : takeR l c = some (l.take i ++ l.drop (i + 1)) := by
   have : l.findIdx? (eqS c) = some i := List.findIdx?_eq_some_iff_getElem.2 ⟨hlt, h2, fun q hq => by rw [hno q (by omega) hq]; decide⟩
   rw [takeR, this]
   rfl
  rw [woA, e1]
  have hpl : C.π.length = 0 := by rw [hCl, hC]; rfl
  have w1 : IntKind.i64.wrap ((i : Int) + 1) = (i : Int) + 1 := zb (by omega) (by omega)
  refine z57 9 1 [(4, some (29, .gs 0))] (fun L => [some (pk 4 L (.grow 24 1 (List.take ((i : Int) - 0).toNat (List.drop (Int.toNat 0) (l.map eIs))) (fun j => eIs (l.getD (Int.toNat 0 + j) []))) HD)]) _ (objsF := [some (.grow 24 1 (List.take ((i : Int) - 0).toNat (List.drop (Int.toNat 0) (l.map eIs))) (fun j => eIs (l.getD (Int.toNat 0 + j) [])))]) tabOk Tryz.func147 rfl rfl trivial (by kernel_rfl) (by kernel_rfl) ?_ ?_ ?_ rfl (fun L => by
   refine z2l tabOk rfl rfl rfl rfl rfl rfl rfl ?_
   exact zo tabOk rfl (by rw [w1, List.length_map]; exact ⟨⟨by omega, by omega, Int.le_refl _⟩, ⟨Int.le_refl _, by omega, by omega⟩, trivial⟩) rfl) ?_ ?_
  ·rfl
  ·intro L hL
   simp only [zjm (hL 4 (by decide))]
  ·intro j L hb
   simp only [actB, List.any_cons, List.any_nil, Bool.or_false] at hb
   have n1 := Nat.ne_of_beq_eq_false hb
   simp only [pk_ne (fun e => n1 e.symm)]
  ·refine List.forall_mem_cons.2 ⟨⟨_, rfl, rfl, ?_⟩, fun x h => by cases h⟩
   refine z9l (p := 0) (ys := List.take ((i : Int) - 0).toNat (List.drop (Int.toNat 0) (l.map eIs))) (rd2 := fun j => eIs (l.getD (Int.toNat 0 + j) [])) tabOk rfl (fun _ _ _ h => h) rfl rfl rfl (fun L => rfl) rfl rfl rfl rfl rfl rfl ?_ rfl rfl rfl (by omega) ?_ ?_
   ·show (List.take ((i : Int) - 0).toNat (List.drop (Int.toNat 0) (l.map eIs))).length * 24 ≤ 140737488355328
    rw [List.length_take, List.length_drop, List.length_map]
    have : min ((i : Int) - 0).toNat (l.length - Int.toNat 0) ≤ l.length := by omega
    omega
   ·intro L h1 _
    simp only [pk_no h1]
    rfl
   ·intro L h1 _
    simp only [ze8, pk_no h1]
    rfl
  have hln : (List.take ((i : Int) - 0).toNat (List.drop (Int.toNat 0) (l.map eIs))).length + (List.take ((((l.map eIs).length : Nat) : Int) - IntKind.i64.wrap ((i : Int) + 1)).toNat (List.drop (IntKind.i64.wrap ((i : Int) + 1)).toNat (l.map eIs))).length ≤ 2000000 := by
   simp only [List.length_take, List.length_drop, List.length_map]
   omega
  refine zj 3 tabOk Tryz.func147 rfl ?nd ?_
  case nd =>
   refine ⟨?_, trivial⟩
   show ((List.take ((i : Int) - 0).toNat (List.drop (Int.toNat 0) (l.map eIs))).length + (List.take ((((l.map eIs).length : Nat) : Int) - IntKind.i64.wrap ((i : Int) + 1)).toNat (List.drop (IntKind.i64.wrap ((i : Int) + 1)).toNat (l.map eIs))).length) * 24 ≤ 140737488355328
   omega
  refine zw 0 rfl ?_
  refine zq tabOk Tryz.func147 rfl trivial hC hCl (r2 := .tp [.d (eIss (l.take i ++ l.drop (i + 1))), vB true]) (VLe.tp ⟨VLe.eL ?_, .refl _, trivial⟩) (o2 := []) trivial rfl rfl (Nat.le_refl _) rfl
  rw [w1, List.map_append, List.map_take, List.map_drop]
  congr 1
  rw [show ((i : Int) + 1).toNat = i + 1 by omega, List.take_of_length_le]
  rw [List.length_drop, List.length_map]
  omega
 ·have h2 : eqS c (l.getD i []) = false := h2
  rw [eg] at h2
  refine z8 tabOk Tryz.func147 rfl trivial ?_
  refine zg (ih (i + 1) ⟨by omega, fun q hq hqi => ?_⟩ (by omega)) hC hCl ⟨⟨_, rfl, .refl _⟩, ⟨_, rfl, .refl _⟩, ⟨_, rfl, .refl _⟩, ⟨_, rfl, .of (by rw [zb (by omega) (by omega)]; rfl)⟩, trivial⟩ trivial rfl rfl (Nat.zero_le _)
  rcases Nat.lt_or_ge q i with h3 | h3
  ·exact hno q hq h3
  ·obtain rfl : q = i := by omega
   exact h2
theorem zl9 {n : Int} {l : List (List Int)} {c : List Int} (h : Okl n l c) (hn : n ≤ 100000) (hll : l.length ≤ 1000000) (hc : c.length ≤ 1000000) : ACall Tryz.prog 148 [vI .i64 n, .d (eIss l), .d (eIs c)] [] (fun r o => r = vB (refB l c)) := by
 refine (zf6 h hn hll hc).mono ?_
 rintro r o ⟨b, rfl, h1⟩
 congr 3
 rw [Bool.eq_iff_iff, h1, zai]
theorem zja {n : Int} {l0 : List (List Int)} {p : List Sp} (hn : 0 ≤ n ∧ n ≤ 100000) (hc : Cls n l0) (hp : ∀ s ∈ p, (∀ x ∈ s.2.1, litOk n x) ∧ s.2.1.length ≤ 1000) (hs : l0.length + p.length ≤ 1000) :
  ACall Tryz.prog 122 [.d (eCnf n l0), .d (eSps p)] [] (fun r o => r = tupOf [vI .i64 ((chk l0 0 p).1 : Int), vI .i64 (chk l0 0 p).2]) := by
 refine za Tryz.func122 rfl rfl (Nat.le_of_ble_eq_true rfl) fun C hC hCl hDs hGk => ?_
 generalize hq : chk l0 0 p = q at *
 have hpl : C.π.length = 0 := by rw [hCl, hC]; rfl
 refine z8 tabOk Tryz.func122 rfl trivial ?_
 refine zh (α := Nat × List (List Int)) (fun s => [(1, .d (eSps p)), (2, .ptr 0 0), (6, .d (eIss s.2)), (7, vI .i64 (s.1 : Int))]) (fun s => [some (bCf n l0)]) (fun s => s.1 ≤ p.length ∧ Cls n s.2 ∧ s.2.length ≤ l0.length + s.1 ∧ chk s.2 s.1 (p.drop s.1) = q) (fun s => p.length - s.1) (0, l0) ⟨Nat.zero_le _, hc, Nat.le_refl _, hq⟩ ?_ ?_
 ·exact fun h => zg h hC hCl ⟨⟨_, rfl, .refl _⟩, ⟨_, rfl, .refl _⟩, ⟨_, rfl, .refl _⟩, ⟨_, rfl, .refl _⟩, trivial⟩ ⟨.refl _, trivial⟩ rfl rfl (Nat.zero_le _)
 rintro ⟨i, l⟩ ⟨hi, hcl, hll, hck⟩ ih
 simp only at hi hcl hll hck ih ⊢
 refine z6 tabOk Tryz.func122 rfl trivial (fun h => ?_) (fun h => ?_)
 rotate_left
 ·have h : decide ((i : Int) < (((p.map eSp).length : Nat) : Int)) = false := h
  rw [decide_eq_false_iff_not, List.length_map] at h
  obtain rfl : i = p.length := by omega
  rw [List.drop_length, chk] at hck
  refine z7 tabOk Tryz.func122 rfl trivial ?_
  rw [← hck]
  show tupOf [vI .i64 (((p.map eSp).length : Nat) : Int), vI .i64 6] = _
  rw [List.length_map]
 have h : decide ((i : Int) < (((p.map eSp).length : Nat) : Int)) = true := h
 rw [decide_eq_true_eq, List.length_map] at h
 have hlt : i < p.length := by omega
 have eg : p.getD i (false, [], ()) = p[i] := by simp [hlt]
 rw [List.drop_eq_getElem_cons hlt, chk] at hck
 have hps := hp _ (List.getElem_mem hlt)
 rw [← eg] at hps hck
 have hl1 : l.length ≤ 1000 := by omega
 have hok : Okl n l (p.getD i (false, [], ())).2.1 := ⟨hn.1, hcl.lit, hps.1⟩
 have hstep := zfi hcl hps (l' := (stepR l (p.getD i (false, [], ()))).getD [])
 have hlim : ∀ d ∈ l, (∀ x ∈ d, -1000000 ≤ x ∧ x ≤ 1000000) ∧ d.length ≤ 1000000 := fun d hd => ⟨fun x hx => z54 (hcl.lit d hd x hx) hn.2, Nat.le_trans (hcl.len d hd) (by decide)⟩
 refine z6 tabOk Tryz.func122 rfl (by simp only [andP, and_true, true_and, Int.toNat_natCast, List.length_map, List.length_append, List.length_cons, List.length_nil, List.length_replicate]; omega) (fun hd => ?_) (fun hd => ?_)
 ·have hd : (p.getD i (false, [], ())).1 = true := hd
  unfold stepR at hck hstep
  rw [hd] at hck hstep
  simp only [if_true] at hck hstep
  refine ze tabOk Tryz.func122 rfl (by simp only [andP, and_true, true_and, Int.toNat_natCast, List.length_map, List.length_append, List.length_cons, List.length_nil, List.length_replicate]; omega) (zfc (l := l) (c := (p.getD i (false, [], ())).2.1) hlim (fun x hx => z54 (hps.1 x hx) hn.2) (Nat.le_trans hps.2 (by decide)) (by omega)) (.refl _) rfl ⟨_, rfl⟩ ?_ ?_
  ·rintro r o rfl
   unfold woA
   cases takeR l _ <;> rfl
  rintro _ o rfl
  unfold woA
  cases ht : takeR l (p.getD i (false, [], ())).2.1 with
  | none =>
   rw [ht] at hck
   refine z6 tabOk Tryz.func122 rfl trivial (fun _ => ?_) (fun h => by cases h)
   refine z7 tabOk Tryz.func122 rfl trivial ?_
   rw [← hck]
  | some l' =>
   rw [ht] at hck hstep
   obtain ⟨k1, k2⟩ := hstep rfl
   simp only [Option.getD_some] at k1 k2
   simp only [reduceCtorEq, false_and, if_false] at hck
   refine z6 tabOk Tryz.func122 rfl trivial (fun h => by cases h) (fun _ => ?_)
   refine z8 tabOk Tryz.func122 rfl trivial ?_
   exact zg (ih (i + 1, l') ⟨by simp only; omega, k1, by simp only; omega, hck⟩ (by simp only; omega)) hC hCl ⟨⟨_, rfl, .refl _⟩, ⟨_, rfl, .refl _⟩, ⟨_, rfl, .refl _⟩, ⟨_, rfl, .of (by rw [zb (by omega) (by omega)]; rfl)⟩, trivial⟩ ⟨.refl _, trivial⟩ rfl rfl (Nat.zero_le _)
 ·have hd : (p.getD i (false, [], ())).1 = false := hd
  unfold stepR at hck hstep
  rw [hd] at hck hstep
  simp only [Bool.false_eq_true, if_false] at hck hstep
  refine zp 8 tabOk Tryz.func122 rfl rfl trivial (by kernel_rfl) ?_
  refine zo tabOk rfl (by simp only [andP, and_true, true_and, Int.toNat_natCast, List.length_map, List.length_append, List.length_cons, List.length_nil, List.length_replicate]; omega) ?_
  refine ze tabOk Tryz.func122 rfl trivial (zl9 hok hn.2 (by omega) (Nat.le_trans hps.2 (by decide))) (.refl _) rfl ⟨_, rfl⟩ (by rintro r o rfl; rfl) ?_
  rintro _ o rfl
  cases ht : refB l (p.getD i (false, [], ())).2.1 with
  | false =>
   rw [ht] at hck
   refine z6 tabOk Tryz.func122 rfl trivial (fun _ => ?_) (fun h => by cases h)
   refine z7 tabOk Tryz.func122 rfl trivial ?_
   rw [← hck]
   rfl
  | true =>
   rw [ht] at hck hstep
   obtain ⟨k1, k2⟩ := hstep rfl
   simp only [if_true, Option.getD_some] at k1 k2
   simp only [if_true, true_and] at hck
   refine z6 tabOk Tryz.func122 rfl trivial (fun h => by cases h) (fun _ => ?_)
   refine z6 tabOk Tryz.func122 rfl (by simp only [andP, and_true, true_and, Int.toNat_natCast, List.length_map, List.length_append, List.length_cons, List.length_nil, List.length_replicate]; omega) (fun h3 => ?_) (fun h3 => ?_)
   ·have h3 : (((((p.getD i (false, [], ())).2.1.map eI).length : Nat) : Int) == 0) = true := h3
    rw [beq_iff_eq, List.length_map] at h3
    have h3 : (p.getD i (false, [], ())).2.1 = [] := List.length_eq_zero_iff.1 (by omega)
    rw [if_pos h3] at hck
    refine z7 tabOk Tryz.func122 rfl trivial ?_
    rw [← hck]
   ·have h3 : (((((p.getD i (false, [], ())).2.1.map eI).length : Nat) : Int) == 0) = false := h3
    rw [beq_eq_false_iff_ne, List.length_map] at h3
    have h3 : ¬ (p.getD i (false, [], ())).2.1 = [] := fun e => h3 (by rw [e]; rfl)
    rw [if_neg h3] at hck
    refine z57 9 1 [(2, some (60, .gs 1))] (fun L => [some (bCf n l0), some (pk 2 L (gIss l) HD)]) _ (objsF := [some (bCf n l0), some (gIss l)]) tabOk Tryz.func122 rfl rfl trivial (by kernel_rfl) (by kernel_rfl) ?_ ?_ ?_ rfl (fun L => by
     refine z2l tabOk rfl rfl rfl rfl rfl rfl rfl ?_
     refine z3b 6 tabOk rfl (by rw [List.length_map]; exact ⟨⟨by omega, by omega⟩, trivial⟩) ?_
     refine z2l tabOk rfl rfl rfl rfl rfl rfl rfl ?_
     exact zo tabOk rfl trivial rfl) ?_ ?_
    ·rfl
    ·intro L hL
     simp only [zjm (hL 2 (by decide))]
    ·intro j L hb
     simp only [actB, List.any_cons, List.any_nil, Bool.or_false] at hb
     have n1 := Nat.ne_of_beq_eq_false hb
     simp only [pk_ne (fun e => n1 e.symm)]
    ·refine List.forall_mem_cons.2 ⟨⟨_, rfl, rfl, ?_⟩, fun x h => by cases h⟩
     refine z9l (p := 1) (ys := l.map eIs) (rd2 := fun j => eIs (l.getD j [])) tabOk rfl (fun _ _ _ h => h) rfl rfl rfl (fun L => rfl) rfl rfl rfl rfl rfl rfl ?_ rfl rfl rfl (by omega) ?_ ?_
     ·show (l.map eIs).length * 24 ≤ 140737488355328
      rw [List.length_map]
      omega
     ·intro L h1 _
      simp only [pk_no h1]
      rfl
     ·intro L h1 _
      simp only [ze8, pk_no h1]
      rfl
    refine zj 2 tabOk Tryz.func122 rfl ?nd ?_
    case nd =>
     show ((l.map eIs).length + 1) * 24 ≤ 140737488355328 ∧ True
     rw [List.length_map]
     exact ⟨by omega, trivial⟩
    refine zw 1 rfl ?_
    refine z8 tabOk Tryz.func122 rfl trivial ?_
    refine zg (ih (i + 1, l ++ [(p.getD i (false, [], ())).2.1]) ⟨by simp only; omega, k1, by simp only; omega, hck⟩ (by simp only; omega)) hC hCl ⟨⟨_, rfl, .refl _⟩, ⟨_, rfl, .refl _⟩, ⟨_, rfl, .eL ?_⟩, ⟨_, rfl, .of (by rw [zb (by omega) (by omega)]; rfl)⟩, trivial⟩ ⟨.refl _, trivial⟩ rfl rfl (Nat.zero_le _)
    rw [List.map_append]
    rfl
end Go.Proofs.YtkemmijjpclckaaGreatDoor
namespace Ab
open Go
variable [Draws]
section
variable {P : Program} [Globals P] {T : Tab} {f : FuncId} {fn : Func} {n : Nat} {C : Cx} {R : AV → List (Option AObj) → Prop} {todo todo' : List Item} {env env' : Env} {objs objs' : List (Option AObj)} {nd : Prop}
theorem zgh {ι : List Nat} {objs0 : List (Option AObj)} {bs az : List AV} {X : Nat → Prop} {π : List Value} {w : World} {vs : List Value} (hm : Mem X π objs' w) (hs : subR (rho ι objs'.length) objs' ι objs0) (hv : VLs az (AV.rens (rho ι objs'.length) bs)) (hd : refsBs ι.length bs = true) (hvs : RelVs w (okOf X π objs') π az vs) :
  RelVs w (okOf (lendX X π objs' ι) (lendP π ι) objs0) (lendP π ι) bs vs := by
 refine RelVs.unren (m := ι.length) (z5e hm hs) ?_ bs hd (hv.rel hvs)
 intro j' h' hj' hh'
 obtain ⟨i', hi'⟩ : ∃ i', nth ι j' = some i' := by
  rw [z1r]; exact ⟨ι[j'], List.getElem?_eq_getElem hj'⟩
 rw [zba hi'] at hh'
 rw [z2k hi' (z1y hh')]
 exact hh'
theorem zem {ι : List Nat} {X : Nat → Prop} {π π' : List Value} {w w' : World} {o : List (Option AObj)} {tmps : Array Value} (L : Lended X π objs' w ι π' o w') (he : z11 w (okOf X π objs') π env' tmps) :
  z11 w' (okOf X (z26 ι π' π) (z2q ι o objs')) (z26 ι π' π) (z2s (memN ι) env') tmps := by
 intro t a ht
 rw [z4m] at ht
 cases hl : look env' t with
 | none => rw [hl] at ht; cases ht
 | some b =>
  rw [hl] at ht
  simp only [Option.map_some, Option.some.injEq] at ht
  subst ht
  exact L.keep _ _ (he t b hl)
theorem zjz {ι : List Nat} {dst : Option Tmp} {e : Env} (hput : putE n dst .dead env' = some e) : putE n dst .dead (z2s (memN ι) env') = some (putD dst .dead (z2s (memN ι) env')) := by
 cases dst with
 | none => rfl
 | some d =>
  simp only [putE] at hput ⊢
  cases hb : Nat.blt d n with
  | false => rw [hb] at hput; cases hput
  | true => rfl
theorem z14 (ι : List Nat) {g : FuncId} {az bs : List AV} {objs0 : List (Option AObj)} {dst : Option Tmp} {R' : AV → List (Option AObj) → Prop} {Pn : D → Prop} (hT : TabOk P T) (hf : P.funcs[f]? = some fn) (h : srun T n fn.results.toList 2000 True todo env objs = .call nd g az dst todo' env' objs') (hn : nd)
  (hc : z5l P g bs objs0 R' Pn) (hp : ∀ x, Pn x → C.pn x) (hs : subR (rho ι objs'.length) objs' ι objs0) (hv : VLs az (AV.rens (rho ι objs'.length) bs)) (hnd : z5c ι = true) (hd : refsBs ι.length bs = true) (hro : refsO ι.length objs0 = true) (hdst : ∃ e, putE n dst .dead env' = some e)
  (k : ∀ r o, R' r o → ASat P f n C todo' (putD dst (r.ren (rho ι objs'.length)) (z2s (memN ι) env')) (z2q ι o objs') R) (hds : C.ds = [] := by with_reducible assumption) (hG : GOk P C.π C.objs C.w := by with_reducible assumption) : ASat P f n C todo env objs R := by
 suffices hcc : Cont P f n C R (.call nd g az dst todo' env' objs') from (z1f hT hf 2000 True todo env objs (by rw [h]; exact hcc)).2
 refine ⟨hn, hdst, fun π w tmps hs1 hm hh he vs hvs => ?_⟩
 refine (hc _ _ w vs (z8q (hG.hist hh) hm hs) (z8p hm hs hnd hro) (zgh hm hs hv hd hvs)).mono ?_
 rintro e w' (⟨v, r, o, π', rfl, hR, hm', hrel, hhist⟩ | ⟨v, x, o, π', rfl, hP, hm', hrel, hhist⟩)
 ·refine .inl ⟨v, rfl, ?_⟩
  have L := lended hm hs hnd hm' hhist
  obtain ⟨e, hput⟩ := hdst
  obtain ⟨p1, p2⟩ := z1j (zem L he) hs1 (z6c (zjz hput)) (L.back _ _ hrel)
  exact k r o hR _ w' _ p2 L.mem (hh.trans L.hist) p1
 ·refine .inr ⟨_, rfl, fun fn' _ => ?_⟩
  have L := lended hm hs hnd hm' hhist
  rw [hds]
  exact .inr ⟨v, x, _, _, rfl, hp x hP, L.mem, L.back _ _ hrel, hh.trans L.hist⟩
theorem zl4 (ι : List Nat) {g g' : FuncId} {d : Deferred} {vh : Value} {m : Nat} {cs : List AV} {o2 : List (Option AObj)} {env2 : Env} {az bs : List AV} {objs0 : List (Option AObj)} {dst : Option Tmp} {R' : AV → List (Option AObj) → Prop} {Pn : D → Prop} (hT : TabOk P T) (hf : P.funcs[f]? = some fn) (h : srun T n fn.results.toList 2000 True todo env objs = .call nd g az dst todo' env' objs') (hn : nd)
  (hds : C.ds = [d]) (hoff : OffV g' vh d) (hen : ∀ args w, (callFunc g' args).run P w = .ok (.enter g' args) w) (hm0 : ∀ o, nth (z2q ι o objs') m = some (some (.hold (.fn (.func g') cs) vh))) (hO : ∀ o, subO o2 (z2q ι o objs')) (hro2 : refsO o2.length o2 = true) (hcs : refsBs o2.length cs = true)
  {o0 : List (Option AObj)} (hC : C.objs = o0) (hCo : o0.length ≤ o2.length) (hCl : C.π.length = C.objs.length) (hE : subE env2 (z2s (memN ι) env')) (hpE : ptrE o2.length env2 = true)
  (hp : ∀ x, Pn x → ∃ o3 l, ACatch P g' cs o2 x o3 ∧ resOf T env2 o3 fn.results.toList = some l ∧ R (tupOf l) o3)
  (hc : z5l P g bs objs0 R' Pn) (hs : subR (rho ι objs'.length) objs' ι objs0) (hv : VLs az (AV.rens (rho ι objs'.length) bs)) (hnd : z5c ι = true) (hd : refsBs ι.length bs = true) (hro : refsO ι.length objs0 = true) (hdst : ∃ e, putE n dst .dead env' = some e)
  (k : ∀ r o, R' r o → ASat P f n C todo' (putD dst (r.ren (rho ι objs'.length)) (z2s (memN ι) env')) (z2q ι o objs') R) (hG : GOk P C.π C.objs C.w := by with_reducible assumption) : ASat P f n C todo env objs R := by
 suffices hcc : Cont P f n C R (.call nd g az dst todo' env' objs') from (z1f hT hf 2000 True todo env objs (by rw [h]; exact hcc)).2
 refine ⟨hn, hdst, fun π w tmps hs1 hm hh he vs hvs => ?_⟩
 refine (hc _ _ w vs (z8q (hG.hist hh) hm hs) (z8p hm hs hnd hro) (zgh hm hs hv hd hvs)).mono ?_
 rintro e w' (⟨v, r, o, π', rfl, hR, hm', hrel, hhist⟩ | ⟨v, x, o, π', rfl, hP, hm', hrel, hhist⟩)
 ·refine .inl ⟨v, rfl, ?_⟩
  have L := lended hm hs hnd hm' hhist
  obtain ⟨e, hput⟩ := hdst
  obtain ⟨p1, p2⟩ := z1j (zem L he) hs1 (z6c (zjz hput)) (L.back _ _ hrel)
  exact k r o hR _ w' _ p2 L.mem (hh.trans L.hist) p1
 ·refine .inr ⟨_, rfl, fun fn' hfn' => ?_⟩
  rw [hf] at hfn'
  cases hfn'
  have L := lended hm hs hnd hm' hhist
  rw [hds]
  obtain ⟨o3, l, hcat, hres, hRR⟩ := hp x hP
  have hxd : RelD w' (okOf C.X (z26 ι π' π) (z2q ι o objs')) x v := by
   have := L.back _ _ hrel
   cases this with | d h => exact h
  exact za4 hT hoff hen (hm0 o) hcat (hO o) hro2 hcs (by rw [hC]; exact hCo) hCl hE hpE hres hRR L.mem (hh.trans L.hist) (zem L he) hxd hG
end
end Ab
namespace Go.Proofs.YtkemmijjpclckaaGreatDoor
open Go Ab Go.RowKit
@[reducible] def wrC (at_ e : Int) : D := .ifc 114 (.ag [eI at_, eI e])
@[reducible] def ctO (b : List UInt8) (at_ : Int) : List (Option AObj) := [some (.cells 117 [.d (eBy b), vI .i64 at_])]
@[reducible] def prE {α : Type} (q : PR α) (x : D) : Prop := ∃ a e, q = .inl (a, e) ∧ x = wrC a e
@[reducible] def prR {α : Type} (b : List UInt8) (q : PR α) (enc : α → AV) (r : AV) (o : List (Option AObj)) : Prop := ∃ v p, q = .inr (v, p) ∧ r = enc v ∧ o = ctO b p
theorem z2d (b s : List UInt8) (at_ : Int) (hb : b.length ≤ 1000000) (hs : s.length ≤ 1000000) : z5l Tryz.prog 99 [.ptr 0 0, vTx s] (ctO b at_) (prR b (wordP b s at_) fun _ => .tp []) (prE (wordP b s at_)) := by
 refine z3u Tryz.func99 rfl rfl (Nat.le_of_ble_eq_true rfl) fun C hC hCl hDs hGk hPn => ?_
 unfold wordP
 refine zp 14 tabOk Tryz.func99 rfl rfl trivial (by kernel_rfl) ?_
 refine zv tabOk rfl trivial (zjb b at_ s hb hs) (zf Tryz.func136 rfl rfl) (by rintro r o rfl; rfl) (.refl _) rfl rfl ⟨_, rfl⟩ ?_
 refine zo tabOk rfl trivial ?_
 cases hi : isAt b at_ s with
 | false =>
  refine z6 tabOk Tryz.func99 rfl trivial (fun _ => ?_) (fun h => by cases h)
  refine zj 9 tabOk Tryz.func99 rfl trivial ?_
  refine z62 Tryz.func99 rfl rfl rfl rfl ?_
  rw [hPn]
  exact ⟨at_, 2, by unfold wordP; exact if_neg (by rw [hi]; decide), rfl⟩
 | true =>
  refine z6 tabOk Tryz.func99 rfl trivial (fun h => by cases h) (fun _ => ?_)
  exact zq tabOk Tryz.func99 rfl trivial hC hCl (.refl _) (o2 := ctO b (isTo b at_ s)) ⟨.refl _, trivial⟩ rfl rfl (Nat.le_refl _) ⟨_, _, if_pos rfl, rfl, rfl⟩
theorem zpc (b : List UInt8) (at_ most : Int) {g : FuncId} (q : Int × Int × Int) (hen : ∀ args w, (callFunc g args).run Tryz.prog w = .ok (.enter g args) w)
  (hg : ACall Tryz.prog g [.d (eBy b), vI .i64 at_, vI .i64 most] [] (fun r o => r = tupOf [vI .i64 q.1, vI .i64 q.2.1, vI .i64 q.2.2])) :
  z5l Tryz.prog 100 [.ptr 0 0, .d (.v (.func (.func g) #[] #[])), vI .i64 most] (ctO b at_) (prR b (if q.2.2 ≠ 0 then .inl (at_, q.2.2) else .inr (q.1, q.2.1)) fun v => vI .i64 v) (prE (if q.2.2 ≠ 0 then .inl (at_, q.2.2) else .inr (q.1, q.2.1) : PR Int)) := by
 refine z3u Tryz.func100 rfl rfl (Nat.le_of_ble_eq_true rfl) fun C hC hCl hDs hGk hPn => ?_
 obtain ⟨v, nx, e⟩ := q
 simp only at hg hPn ⊢
 refine zp 17 tabOk Tryz.func100 rfl rfl trivial (by kernel_rfl) ?_
 refine zv tabOk rfl trivial hg hen (by rintro r o rfl; rfl) (.refl _) rfl rfl ⟨_, rfl⟩ ?_
 refine zo tabOk rfl trivial ?_
 refine z6 tabOk Tryz.func100 rfl trivial (fun he => ?_) (fun he => ?_)
 ·have he : (e != 0) = true := he
  rw [bne_iff_ne] at he
  refine zj 9 tabOk Tryz.func100 rfl trivial ?_
  refine z62 Tryz.func100 rfl rfl rfl rfl ?_
  rw [hPn]
  exact ⟨_, _, if_pos he, rfl⟩
 ·have he : (e != 0) = false := he
  rw [bne_eq_false_iff_eq] at he
  exact zq tabOk Tryz.func100 rfl trivial hC hCl (.refl _) (o2 := ctO b nx) ⟨.refl _, trivial⟩ rfl rfl (Nat.le_refl _) ⟨_, _, if_neg (not_not_intro he), rfl, rfl⟩
theorem z6p (b : List UInt8) (at_ most : Int) (hb : b.length ≤ 1000000) : z5l Tryz.prog 100 [.ptr 0 0, .d (.v (.func (.func 101) #[] #[])), vI .i64 most] (ctO b at_) (prR b (numP b most at_) fun v => vI .i64 v) (prE (numP b most at_)) :=
 zpc b at_ most (numR b at_ most) (zf Tryz.func101 rfl rfl) (zck b at_ most hb)
def signP (b : List UInt8) (most at_ : Int) : PR Int := if (signR b at_ most).2.2 ≠ 0 then .inl (at_, (signR b at_ most).2.2) else .inr ((signR b at_ most).1, (signR b at_ most).2.1)
theorem zm6 (b : List UInt8) (at_ most : Int) (hb : b.length ≤ 1000000) : z5l Tryz.prog 100 [.ptr 0 0, .d (.v (.func (.func 161) #[] #[])), vI .i64 most] (ctO b at_) (prR b (signP b most at_) fun v => vI .i64 v) (prE (signP b most at_)) :=
 zpc b at_ most (signR b at_ most) (zf Tryz.func161 rfl rfl) (zj8 b at_ most hb)
end Go.Proofs.YtkemmijjpclckaaGreatDoor
namespace Ab
open Go
variable [Draws]
section
variable {P : Program} [Globals P] {T : Tab} {f : FuncId} {fn : Func} {n m : Nat} {C : Cx} {R : AV → List (Option AObj) → Prop} {todo todo' k : List Item} {env env0 env' envF : Env} {objs objs' objs1 objs2 : List (Option AObj)} {nd : Prop} {ops : Array Oper} {l : List Oper} {K : Env → Prop} {X : Nat → Prop} {O : List Nat → List (Option AObj)}
theorem zic {e : Nat} {E : Env} (ι : List Nat) {oe : Oper} {d : Tmp} {g : FuncId} {az bs : List AV} {objs0 : List (Option AObj)} {R' : AV → List (Option AObj) → Prop} {r0 : AV}
  (hE : ∀ t ∈ oe.looksAt ops, ∀ b, look E t = some b → look envF t = some b) (hdr : z2s (memN ι) envF = envF)
  (hO0 : ∀ L, e ∉ L → O L = objs') (hO1 : ∀ L, e ∉ L → O (e :: L) = objs1)
  (hdst : oe.dst = some d) (hdn : Nat.blt d n = true) (hlook : look envF d = some r0) (hw : wantE ops (restr E (oe.looksAt ops)) oe = .yes) (hco : z7m (restr E (oe.looksAt ops)) oe = some (g, az)) (hen : ∀ args w, (callFunc g args).run P w = .ok (.enter g args) w)
  (hc : ACall P g bs objs0 R') (hs : subR (rho ι objs'.length) objs' ι objs0) (hv : VLs az (AV.rens (rho ι objs'.length) bs)) (hnd : z5c ι = true) (hd : refsBs ι.length bs = true) (hro : refsO ι.length objs0 = true)
  (hr : ∀ r o, R' r o → r.ren (rho ι objs'.length) = r0 ∧ z2q ι o objs' = objs1) : HeadX P n X O m ops envF e oe := by
 intro L hLm heL hdeps hcl π w tmps hsz hm hgk hlk
 have hOL := hO0 L heL
 have hOj := hO1 L heL
 rw [hOL] at hm hgk hlk
 have he : z11 w (okOf X π objs') π (restr E (oe.looksAt ops)) tmps := fun t b ht => by
  obtain ⟨h1, h2⟩ := z28 ht
  exact hlk t h1 b (hE t h1 b h2)
 obtain ⟨vs, c1, c2⟩ := z7a he hco
 refine .inr ⟨(zx he).1 hw, .inr (.inr ⟨g, vs.toArray, by rw [c2, hen], ?_⟩)⟩
 have hargs : RelVs w (okOf (lendX X π objs' ι) (lendP π ι) objs0) (lendP π ι) bs vs := by
  refine RelVs.unren (m := ι.length) (z5e hm hs) ?_ bs hd (hv.rel c1)
  intro j' h' hj' hh'
  obtain ⟨i', hi'⟩ : ∃ i', nth ι j' = some i' := by
   rw [z1r]; exact ⟨ι[j'], List.getElem?_eq_getElem hj'⟩
  rw [zba hi'] at hh'
  rw [z2k hi' (z1y hh')]
  exact hh'
 rcases hc _ _ w vs (z8q hgk hm hs) (z8p hm hs hnd hro) hargs with ⟨_, hcl2⟩ | ⟨v, w', hcl2, _⟩
 ·refine hcl2.mono ?_
  rintro e2 w2 ⟨v, r, o, π', rfl, hR, hm', hrel, hhist⟩
  have L2 := lended hm hs hnd hm' hhist
  obtain ⟨e3, e4⟩ := hr r o hR
  have hmem := L2.mem
  have hhst := L2.hist
  have hkp := L2.keep
  have hbk := L2.back _ _ hrel
  rw [e4] at hmem hhst hkp hbk
  rw [e3] at hbk
  refine ⟨v, z26 ι π' π, rfl, ⟨by rw [hOj]; exact hmem, by rw [hOL, hOj]; exact hhst, fun t a u ht hlv hau => ?_⟩, fun d' hd' => ?_⟩
  ·rw [hOL] at hau
   have := hkp a u hau
   rw [zip hdr ht] at this
   rw [hOj]
   exact this
  ·rw [hdst] at hd'
   cases hd'
   exact ⟨by simpa [Nat.blt_eq] using hdn, r0, hlook, by rw [hOj]; exact hbk⟩
 ·rw [hen] at hcl2
  cases hcl2
def oneO (e : Nat) (o0 o1 : List (Option AObj)) (L : List Nat) : List (Option AObj) := if e ∈ L then o1 else o0
theorem zrq {p : List (Option AObj) → Prop} {e : Nat} {o0 o1 : List (Option AObj)} {L : List Nat} (h0 : p o0) (h1 : p o1) : p (oneO e o0 o1 L) := by
 rw [oneO]
 split
 ·exact h1
 ·exact h0
theorem zi5 {e j : Nat} {o0 o1 : List (Option AObj)} {L : List Nat} (h : j ≠ e) : oneO e o0 o1 (j :: L) = oneO e o0 o1 L := by
 simp only [oneO, List.mem_cons, Ne.symm h, false_or]
theorem z99 (m e : Nat) (A : Acts) (objs1 : List (Option AObj)) (E : Env) {id : Nat} (hT : TabOk P T) (hf : P.funcs[f]? = some fn) (hmx : P.follows .mixedOrders = true) (h : srun T n fn.results.toList 2000 True todo env objs = .draw nd id ops k env' objs') (hn : nd)
  (hB : drawB ops m = true) (hsee : seeB ops m A = true) (hem : Nat.blt e m = true) (hae : actB A e = true)
  (hAm : (A.all fun x => Nat.blt x.1 m) = true) (hD0 : DSat P n C.X objs' ops (fun x => x = E) (z1i ops m A) env') (hD1 : DSat P n C.X objs1 ops (fun x => x = E) (z1i ops m A) env')
  (hA : ∀ x ∈ A, ∃ oe, ops[x.1]? = some oe ∧ oe.dst = x.2.map (·.1) ∧ HeadX P n C.X (oneO e objs' objs1) m ops (actE A ++ E) x.1 oe)
  (hk : ASat P f n C (.inRegion ops (List.range' m (ops.size - m)) :: k) (actE A ++ E) objs1 R) (hGk : GOk P C.π C.objs C.w := by with_reducible assumption) : ASat P f n C todo env objs R := by
 refine zfq m A (oneO e objs' objs1) E hT hf hmx h hn hB hsee (by simp [oneO]) (fun L hL => by rw [oneO, if_pos (hL e (by simpa [Nat.blt_eq] using hem))]) (fun j L hj => ?_) hAm (fun L => ?_) hA hk
 ·refine zi5 ?_
  rintro rfl
  rw [hae] at hj
  cases hj
 ·exact zrq (p := fun o => DSat P n C.X o ops (fun x => x = E) (z1i ops m A) env') hD0 hD1
theorem z83 {e : Nat} {E : Env} (ι : List Nat) {oe : Oper} {d : Tmp} {g : FuncId} {az bs : List AV} {objs0 : List (Option AObj)} {R' : AV → List (Option AObj) → Prop} {r0 : AV}
  (hE : ∀ t ∈ oe.looksAt ops, ∀ b, look E t = some b → look envF t = some b) (hdr : z2s (memN ι) envF = envF)
  (hdst : oe.dst = some d) (hdn : Nat.blt d n = true) (hlook : look envF d = some r0) (hw : wantE ops (restr E (oe.looksAt ops)) oe = .yes) (hco : z7m (restr E (oe.looksAt ops)) oe = some (g, az)) (hen : ∀ args w, (callFunc g args).run P w = .ok (.enter g args) w)
  (hc : ACall P g bs objs0 R') (hs : subR (rho ι objs'.length) objs' ι objs0) (hv : VLs az (AV.rens (rho ι objs'.length) bs)) (hnd : z5c ι = true) (hd : refsBs ι.length bs = true) (hro : refsO ι.length objs0 = true)
  (hr : ∀ r o, R' r o → r.ren (rho ι objs'.length) = r0 ∧ z2q ι o objs' = objs1) : HeadX P n X (oneO e objs' objs1) m ops envF e oe :=
 zic ι hE hdr (fun L h => by rw [oneO, if_neg h]) (fun L h => by rw [oneO, if_pos (List.mem_cons_self ..)]) hdst hdn hlook hw hco hen hc hs hv hnd hd hro hr
end
end Ab
namespace Ab
open Go
variable [Draws]
section
variable {P : Program} [Globals P] {T : Tab} {f : FuncId} {fn : Func} {n m : Nat} {C : Cx} {R : AV → List (Option AObj) → Prop} {todo todo' k : List Item} {env env0 env' envF : Env} {objs objs' objs1 : List (Option AObj)} {nd : Prop} {ops : Array Oper} {X : Nat → Prop} {O : List Nat → List (Option AObj)}
def befB (ops : Array Oper) : Nat → Nat → Nat → Bool
 | 0, _, _ => false
 | f + 1, a, b => z1o ops a b || (List.range a).any fun q => z1o ops a q && befB ops f q b
theorem zko {L : List Nat} (hcl : ∀ q ∈ L, ∀ q', z1o ops q q' = true → q' ∈ L) : ∀ f a b, befB ops f a b = true → a ∈ L → b ∈ L
 | 0, _, _, h, _ => by cases h
 | f + 1, a, b, h, ha => by
  simp only [befB, Bool.or_eq_true, List.any_eq_true, Bool.and_eq_true] at h
  rcases h with h | ⟨q, _, h1, h2⟩
  ·exact hcl a ha b h
  ·exact zko hcl f q b h2 (hcl a ha q h1)
theorem zlp {o : Oper} {E : Env} {a : AV} {d : Nat} (hT : TabOk P T) (hw : wantE ops (restr E (o.looksAt ops)) o = .yes)
  (hs : pstep T o (restr E (o.looksAt ops)) objs = .ok a) (hdst : o.dst = some d) (hdn : Nat.blt d n = true) (hlook : look E d = some a) : z7n P n X objs ops E o := by
 intro π w tmps hsz hm hgk hlk
 have he : z11 w (okOf X π objs) π (restr E (o.looksAt ops)) tmps := fun t b ht => by
  obtain ⟨h1, h2⟩ := z28 ht
  exact hlk t h1 b h2
 have hdo := z43 (ds := []) hT hm he o
 rw [hs] at hdo
 obtain ⟨v, d1, d2⟩ := hdo
 refine .inr ⟨(zx he).1 hw, .inl ⟨v, w, d2 w (.refl w), .refl w, fun d' hd => ?_⟩⟩
 rw [hdst] at hd
 cases hd
 exact ⟨by simpa [Nat.blt_eq] using hdn, _, hlook, d1⟩
theorem zk5 {L : List Nat} {j : Nat} {o : Oper} {o0 : List (Option AObj)} (hOL : O L = o0) (hOj : O (j :: L) = O L) (h : z7n P n X o0 ops envF o) {π : List Value} {w : World} {tmps : Array Value} (hs : tmps.size = n) (hm : Mem X π (O L) w) (hgk : GOk P π (O L) w) (hl : ∀ t ∈ o.looksAt ops, ∀ a, look envF t = some a → RelV w (okOf X π (O L)) π a (tmps.getD t undef)) :
  (Region.wanted o (yielded ops tmps) = false ∧ ∃ π', StepX X O m ops envF L j π w π' w ∧ PutOk n w (okOf X π' (O (j :: L))) π' envF o undef) ∨
  (Region.wanted o (yielded ops tmps) = true ∧
   ((∃ v w2 π', (execOp (Act.eval ⟨tmps, []⟩) o).run P w = .ok (.value v) w2 ∧ StepX X O m ops envF L j π w π' w2 ∧ PutOk n w2 (okOf X π' (O (j :: L))) π' envF o v) ∨
    (∃ w2 π', (execOp (Act.eval ⟨tmps, []⟩) o).run P w = .ok .skip w2 ∧ StepX X O m ops envF L j π w π' w2 ∧ PutOk n w2 (okOf X π' (O (j :: L))) π' envF o undef) ∨
    (∃ g args, (execOp (Act.eval ⟨tmps, []⟩) o).run P w = .ok (.enter g args) w ∧ Calls P g args w fun e w2 => ∃ v π', e = .returned v ∧ StepX X O m ops envF L j π w π' w2 ∧ PutOk n w2 (okOf X π' (O (j :: L))) π' envF o v))) := by
 subst hOL
 rcases h π w tmps hs hm hgk hl with ⟨hw, hp⟩ | ⟨hw, ⟨v, w2, hr, hlt, hp⟩ | ⟨g, args, hr, hc⟩⟩
 ·exact .inl ⟨hw, π, z3h hOj hm (.refl w), by rw [hOj]; exact hp⟩
 ·exact .inr ⟨hw, .inl ⟨v, w2, π, hr, z3h hOj hm hlt, by rw [hOj]; exact hp⟩⟩
 ·exact .inr ⟨hw, .inr (.inr ⟨g, args, hr, hc.mono fun e w2 ⟨v, h1, h2, h3⟩ => ⟨v, π, h1, z3h hOj hm h2, by rw [hOj]; exact h3⟩⟩)⟩
theorem zr2 {j : Nat} {o : Oper} {E : Env} {a : AV} {c : Option Prop} {L : List Nat} (hT : TabOk P T) (hw : wantE ops (restr E (o.looksAt ops)) o = .yes) (hE : ∀ t ∈ o.looksAt ops, ∀ b, look E t = some b → look envF t = some b)
  (hs : estep T o (restr E (o.looksAt ops)) (O L) = some ⟨c, true, a, none, O (j :: L)⟩) (hc : cond c) (hdst : o.dst = none) {π : List Value} {w : World} {tmps : Array Value} (hm : Mem X π (O L) w) (hlk : ∀ t ∈ o.looksAt ops, ∀ a, look envF t = some a → RelV w (okOf X π (O L)) π a (tmps.getD t undef)) :
  Region.wanted o (yielded ops tmps) = true ∧ ∃ w2 π', (execOp (Act.eval ⟨tmps, []⟩) o).run P w = .ok .skip w2 ∧ StepX X O m ops envF L j π w π' w2 ∧ PutOk n w2 (okOf X π' (O (j :: L))) π' envF o undef := by
 have he : z11 w (okOf X π (O L)) π (restr E (o.looksAt ops)) tmps := fun t b ht => by
  obtain ⟨h1, h2⟩ := z28 ht
  exact hlk t h1 b (hE t h1 b h2)
 have hst := z79 (ds := []) hT hm he o
 rw [hs] at hst
 obtain ⟨v, w', π', h1, h2, _⟩ := hst hc
 refine ⟨(zx he).1 hw, w', π', h1, ⟨h2.mem, h2.hist, fun t a u _ _ hu => h2.keep _ _ hu⟩, fun d hd => ?_⟩
 rw [hdst] at hd
 cases hd
theorem zn4 (m js fuel : Nat) (late : List Nat) {os : Oper} {E : Env} {a : AV} {c : Option Prop} {id : Nat} (hT : TabOk P T) (hf : P.funcs[f]? = some fn) (hmx : P.follows .mixedOrders = true) (h : srun T n fn.results.toList 2000 True todo env objs = .draw nd id ops k env' objs') (hn : nd)
  (hB : drawB ops m = true) (hjs : Nat.blt js m = true) (hear : ((List.range m).all fun j => Nat.beq j js || late.any (Nat.beq j) || befB ops fuel js j) = true)
  (hD : DSat P n C.X objs' ops (fun x => x = E) (z1i ops m [(js, none)]) env')
  (hos : ops[js]? = some os) (hsd : os.dst = none) (hws : wantE ops (restr E (os.looksAt ops)) os = .yes)
  (hs : estep T os (restr E (os.looksAt ops)) objs' = some ⟨c, true, a, none, objs1⟩) (hc : cond c)
  (hlate : ∀ j ∈ late, ∃ o, ops[j]? = some o ∧ z7n P n C.X objs1 ops E o)
  (hk : ASat P f n C (.inRegion ops (List.range' m (ops.size - m)) :: k) E objs1 R) (hGk : GOk P C.π C.objs C.w := by with_reducible assumption) : ASat P f n C todo env objs R := by
 obtain ⟨E0, a1, a2, a3, rfl⟩ := hD
 have hq : ∀ {j : Nat} {o : Oper}, j < m → j ≠ js → ops[j]? = some o → o ∈ z1i ops m [(js, none)] := by
  intro j o hj hb ho
  unfold z1i
  rw [List.mem_filterMap]
  refine ⟨j, List.mem_filter.2 ⟨List.mem_range.2 hj, ?_⟩, ho⟩
  simp only [actB, List.any_cons, List.any_nil, Bool.or_false, Bool.not_eq_true']
  cases hx : Nat.beq js j with
  | false => rfl
  | true => exact absurd (Nat.eq_of_beq_eq_true hx).symm hb
 suffices hcc : Cont P f n C R (.draw nd id ops k env' objs') from (z1f hT hf 2000 True todo env objs (by rw [h]; exact hcc)).2
 refine ⟨hn, zaa (O := oneO js objs' objs1) (envF := E0) hmx hB ?_ (by simp [oneO]) (fun L hL => by rw [oneO, if_pos (hL js (by simpa [Nat.blt_eq] using hjs))]) ?_ hk⟩
 ·intro j o hj ho L hLm hjL hdeps hcl π w tmps hsz hm hgk hlk
  by_cases hjj : j = js
  ·subst hjj
   rw [hos] at ho
   cases ho
   have hOL : oneO j objs' objs1 L = objs' := by rw [oneO, if_neg hjL]
   have hOj : oneO j objs' objs1 (j :: L) = objs1 := by rw [oneO, if_pos (List.mem_cons_self ..)]
   obtain ⟨h1, w2, π', h2⟩ := zr2 (n := n) (m := m) (ops := ops) (O := oneO j objs' objs1) (L := L) hT hws (fun _ _ _ h => h) (by rw [hOL, hOj]; exact hs) hc hsd hm hlk
   exact .inr ⟨h1, .inr (.inl ⟨w2, π', h2⟩)⟩
  ·have hOj : oneO js objs' objs1 (j :: L) = oneO js objs' objs1 L := zi5 hjj
   by_cases hL : js ∈ L
   ·have hOL : oneO js objs' objs1 L = objs1 := by rw [oneO, if_pos hL]
    have h1 := List.all_eq_true.1 hear j (List.mem_range.2 hj)
    simp only [Bool.or_eq_true, List.any_eq_true] at h1
    rcases h1 with (h1 | ⟨q, h2, h3⟩) | h1
    ·exact absurd (Nat.eq_of_beq_eq_true h1) hjj
    ·obtain rfl := Nat.eq_of_beq_eq_true h3
     obtain ⟨o2, h4, h5⟩ := hlate j h2
     rw [ho] at h4
     cases h4
     exact zk5 hOL hOj h5 hsz hm hgk hlk
    ·exact absurd (zko hcl _ _ _ h1 hL) hjL
   ·have hOL : oneO js objs' objs1 L = objs' := by rw [oneO, if_neg hL]
    exact zk5 hOL hOj (a3 o (hq hj hjj ho)) hsz hm hgk hlk
 ·intro t ht a ha
  refine a1 t (fun o ho hd => ?_) a ha
  unfold z1i at ho
  rw [List.mem_filterMap] at ho
  obtain ⟨j, hj, ho⟩ := ho
  have hj := List.mem_range.1 (List.mem_filter.1 hj).1
  have := ht j hj
  rw [z18.2 ⟨o, ho, hd⟩] at this
  cases this
end
end Ab
namespace Go.Proofs.YtkemmijjpclckaaGreatDoor
open Go Ab Go.RowKit
@[reducible] def gIn (l : List Int) : AObj := .grow 3 1 (l.map eI) (fun i => eI (l.getD i 0))
@[reducible] def zSp : AObj := .cells 87 [.d (.v (.bool false)), .d (.v (.slice none 0 0))]
@[reducible] def cspO (b : List UInt8) (at_ : Int) (del : Bool) (out : List Int) : List (Option AObj) := [some (.cells 117 [.d (eBy b), vI .i64 at_]), some zSp, some (.cells 87 [vB del, .gs 3]), some (gIn out)]
theorem z5m (b s : List UInt8) (at_ : Int) : (isAt b at_ s = true ∧ wordP b s at_ = .inr ((), isTo b at_ s)) ∨ (isAt b at_ s = false ∧ wordP b s at_ = .inl (at_, 2)) := by
 unfold wordP
 cases h : isAt b at_ s with
 | true => exact .inl ⟨rfl, if_pos rfl⟩
 | false => exact .inr ⟨rfl, if_neg (by decide)⟩
theorem zm5 (b : List UInt8) (n at0 : Int) (hb : b.length ≤ 1000000) (h0 : 0 ≤ at0) (h1 : at0 ≤ b.length) : z5l Tryz.prog 140 [.ptr 0 0, vI .i64 n] (ctO b at0) (prR b (stepP b n at0) fun s => .d (eSp s)) (prE (stepP b n at0)) := by
 refine z3u Tryz.func140 rfl rfl (Nat.le_of_ble_eq_true rfl) fun C hC hCl hDs hGk hPn => ?_
 obtain ⟨hge, hle⟩ := @zib b at0 sDel h0 h1
 unfold stepP at *
 generalize hq : clR b n (b.length + 1) (isTo b at0 sDel) [] = q at *
 refine zn4 16 15 8 [12] (c := none) tabOk Tryz.func140 rfl rfl trivial (by kernel_rfl) (by kernel_rfl) (by kernel_rfl) (zv tabOk rfl trivial (zjb b at0 sDel hb (by decide)) (zf Tryz.func136 rfl rfl) (by rintro r o rfl; rfl) (.refl _) rfl rfl ⟨_, rfl⟩ (zo tabOk rfl trivial rfl)) rfl rfl rfl rfl trivial (List.forall_mem_cons.2 ⟨⟨_, rfl, zlp tabOk rfl rfl rfl rfl rfl⟩, fun x h => by cases h⟩) ?_
 generalize isTo b at0 sDel = at1 at *
 generalize isAt b at0 sDel = del at *
 refine z8 tabOk Tryz.func140 rfl trivial ?_
 refine z7p 2 1 (e' := 3) (s := 1) (fun i => eI (([] : List Int).getD i 0)) rfl rfl ?_
 refine zh (α := Nat × Int × List Int) (fun s => [(0, .ptr 0 0), (1, vI .i64 n), (4, .ptr 1 0), (5, .ptr 2 0)]) (fun s => cspO b s.2.1 del s.2.2) (fun s => 0 ≤ s.2.1 ∧ s.2.1 ≤ b.length ∧ b.length - s.2.1 < s.1 ∧ s.2.2.length ≤ 1000 ∧ clR b n s.1 s.2.1 s.2.2 = q) (fun s => s.1) (b.length + 1, at1, []) ⟨by simp only; omega, by simp only; omega, by simp only; omega, by simp, hq⟩ ?_ ?_
 ·exact fun h => zg h hC hCl ⟨⟨_, rfl, .refl _⟩, ⟨_, rfl, .refl _⟩, ⟨_, rfl, .refl _⟩, ⟨_, rfl, .refl _⟩, trivial⟩ ⟨.refl _, .refl _, .refl _, .refl _, trivial⟩ rfl rfl (Nat.le_of_ble_eq_true rfl)
 rintro ⟨f, at_, out⟩ ⟨ha, hab, hf, hout, hcl⟩ ih
 simp only at ha hab hf hout hcl ih ⊢
 obtain ⟨f, rfl⟩ : ∃ k, f = k + 1 := ⟨f - 1, by omega⟩
 rw [clR] at hcl
 have hpl := @zah b at_ n
 have hsp : signP b n at_ = if (signR b at_ n).2.2 ≠ 0 then .inl (at_, (signR b at_ n).2.2) else .inr ((signR b at_ n).1, (signR b at_ n).2.1) := rfl
 have hcall := zm6 b at_ n hb
 rw [hsp] at hcall
 clear hsp
 generalize signR b at_ n = sg at *
 obtain ⟨l, nx, e⟩ := sg
 simp only at hcl hpl hcall
 refine z14 [0] tabOk Tryz.func140 rfl trivial hcall ?_ ⟨⟨_, rfl, .refl _⟩, trivial⟩ (.refl _) rfl rfl rfl ⟨_, rfl⟩ ?_
 ·rintro x ⟨a, e2, hx, rfl⟩
  split at hx
  ·rename_i he
   rw [if_pos he] at hcl
   simp only [Sum.inl.injEq, Prod.mk.injEq] at hx
   obtain ⟨rfl, rfl⟩ := hx
   rw [hPn, ← hcl]
   exact ⟨_, _, rfl, rfl⟩
  ·cases hx
 rintro r o ⟨v, p, hx, rfl, rfl⟩
 split at hx
 ·cases hx
 rename_i he
 simp only [Sum.inr.injEq, Prod.mk.injEq] at hx
 obtain ⟨rfl, rfl⟩ := hx
 have he : e = 0 := Decidable.not_not.1 he
 obtain ⟨-, p2, p3⟩ := hpl he
 rw [if_neg (fun hh => hh he)] at hcl
 refine z6 tabOk Tryz.func140 rfl trivial (fun hl => ?_) (fun hl => ?_)
 ·have hl : l = 0 := by simpa using hl
  rw [if_pos hl] at hcl
  refine z14 [0] tabOk Tryz.func140 rfl trivial (z2d b sNl nx hb (by decide)) ?_ ⟨⟨_, rfl, .refl _⟩, trivial⟩ (.refl _) rfl rfl rfl ⟨_, rfl⟩ ?_
  ·rintro x ⟨a, e2, hx, rfl⟩
   rcases z5m b sNl nx with ⟨h1, h2⟩ | ⟨h1, h2⟩
   ·rw [h2] at hx
    cases hx
   ·rw [h2] at hx
    cases hx
    rw [if_neg (by rw [h1]; decide)] at hcl
    rw [hPn, ← hcl]
    exact ⟨_, _, rfl, rfl⟩
  rintro r o ⟨v, p, hx, rfl, rfl⟩
  rcases z5m b sNl nx with ⟨h1, h2⟩ | ⟨h1, h2⟩
  ·rw [h2] at hx
   cases hx
   rw [if_pos h1] at hcl
   refine zw 3 rfl ?_
   refine zq tabOk Tryz.func140 rfl trivial hC hCl (.refl _) (o2 := ctO b (isTo b nx sNl)) ⟨.refl _, trivial⟩ rfl rfl (Nat.le_refl _) ⟨(del, out, ()), _, ?_, rfl, rfl⟩
   rw [← hcl]
   rfl
  ·rw [h2] at hx
   cases hx
 have hl : l ≠ 0 := by simpa using hl
 rw [if_neg hl] at hcl
 refine z6 tabOk Tryz.func140 rfl trivial (fun ho => ?_) (fun ho => ?_)
 ·have ho : out.length = 1000 := by
   have ho : ((((out.map eI).length : Nat) : Int) == 1000) = true := ho
   rw [List.length_map, beq_iff_eq] at ho
   omega
  rw [if_pos ho] at hcl
  refine zj 9 tabOk Tryz.func140 rfl trivial ?_
  refine z62 Tryz.func140 rfl rfl rfl rfl ?_
  rw [hPn, ← hcl]
  exact ⟨_, _, rfl, rfl⟩
 have ho : out.length ≠ 1000 := by
  have ho : ((((out.map eI).length : Nat) : Int) == 1000) = false := ho
  rw [List.length_map, beq_eq_false_iff_ne] at ho
  omega
 rw [if_neg ho] at hcl
 refine z14 [0] tabOk Tryz.func140 rfl ?nd (z2d b sSp nx hb (by decide)) ?_ ⟨⟨_, rfl, .refl _⟩, trivial⟩ (.refl _) rfl rfl rfl ⟨_, rfl⟩ ?_
 case nd =>
  show ((out.map eI).length + 1) * 8 ≤ 140737488355328 ∧ True
  rw [List.length_map]
  exact ⟨by omega, trivial⟩
 ·rintro x ⟨a, e2, hx, rfl⟩
  rcases z5m b sSp nx with ⟨h1, h2⟩ | ⟨h1, h2⟩
  ·rw [h2] at hx
   cases hx
  ·rw [h2] at hx
   cases hx
   rw [if_neg (by rw [h1]; decide)] at hcl
   rw [hPn, ← hcl]
   exact ⟨_, _, rfl, rfl⟩
 rintro r o ⟨v, p, hx, rfl, rfl⟩
 rcases z5m b sSp nx with ⟨h1, h2⟩ | ⟨h1, h2⟩
 ·rw [h2] at hx
  cases hx
  rw [if_pos h1] at hcl
  obtain ⟨t1, t2, t3⟩ := z82 h1
  have t2 : isTo b nx sSp = nx + 1 := t2
  refine z8 tabOk Tryz.func140 rfl trivial ?_
  refine zg (ih (f, isTo b nx sSp, out ++ [l]) ⟨by simp only; omega, by simp only; omega, by simp only; omega, by simp only [List.length_append, List.length_cons, List.length_nil]; omega, hcl⟩ (by simp only; omega)) hC hCl ⟨⟨_, rfl, .refl _⟩, ⟨_, rfl, .refl _⟩, ⟨_, rfl, .refl _⟩, ⟨_, rfl, .refl _⟩, trivial⟩ ⟨.refl _, .refl _, .refl _, .grow ?_ (z2r eI 0 _), trivial⟩ rfl rfl (Nat.le_of_ble_eq_true rfl)
  rw [List.map_append]
  rfl
 ·rw [h2] at hx
  cases hx
theorem z8a (b : List UInt8) (n : Int) (p : Nat) (hb : b.length ≤ 1000000) (hp : p ≤ b.length) (hn : 0 ≤ n) : z5l Tryz.prog 102 [.ptr 0 0, vI .i64 n] (ctO b p) (prR b (z7i b n p) fun l => .d (eSps l)) (prE (z7i b n p)) := by
 refine z3u Tryz.func102 rfl rfl (Nat.le_of_ble_eq_true rfl) fun C hC hCl hDs hGk hPn => ?_
 obtain ⟨Q, hQ⟩ : ∃ Q, z7i b n p = Q := ⟨_, rfl⟩
 rw [hQ] at hPn ⊢
 unfold z7i at hQ
 refine z14 [0] tabOk Tryz.func102 rfl trivial (z2d b za5 p hb (by decide)) ?_ ⟨⟨_, rfl, .refl _⟩, trivial⟩ (.refl _) rfl rfl rfl ⟨_, rfl⟩ ?_
 ·rintro x ⟨a, e, hx, rfl⟩
  rw [hx] at hQ
  rw [hPn]
  exact ⟨_, _, hQ.symm, rfl⟩
 rintro r o ⟨v, p1, hx, rfl, rfl⟩
 obtain ⟨q1, t1, rfl, ⟨hq1, -⟩, -⟩ := (z2t hp).ok _ _ hx
 rw [hx] at hQ
 simp only [bnd] at hQ
 clear hx
 refine z14 [0] tabOk Tryz.func102 rfl trivial (z6p b q1 20000 hb) ?_ ⟨⟨_, rfl, .refl _⟩, trivial⟩ (.refl _) rfl rfl rfl ⟨_, rfl⟩ ?_
 ·rintro x ⟨a, e, hx, rfl⟩
  rw [hx] at hQ
  rw [hPn]
  exact ⟨_, _, hQ.symm, rfl⟩
 rintro r o ⟨m, p2, hx, rfl, rfl⟩
 obtain ⟨q2, t2, rfl, ⟨hq2, -⟩, -, hm0, hm1⟩ := (z6z hq1).ok _ _ hx
 rw [hx] at hQ
 simp only [bnd] at hQ
 clear hx
 refine z14 [0] tabOk Tryz.func102 rfl trivial (z2d b [10] q2 hb (by decide)) ?_ ⟨⟨_, rfl, .refl _⟩, trivial⟩ (.refl _) rfl rfl rfl ⟨_, rfl⟩ ?_
 ·rintro x ⟨a, e, hx, rfl⟩
  rw [hx] at hQ
  rw [hPn]
  exact ⟨_, _, hQ.symm, rfl⟩
 rintro r o ⟨v, p3, hx, rfl, rfl⟩
 obtain ⟨q3, t3, rfl, ⟨hq3, -⟩, -⟩ := (z2t hq2).ok _ _ hx
 rw [hx] at hQ
 simp only [bnd] at hQ
 clear hx
 refine z8 tabOk Tryz.func102 rfl trivial ?_
 refine z2w (e := 87) (s := 2) (t := 6) (.inl rfl) (fun i => eSp (([] : List Sp).getD i (false, [], ()))) ?_
 refine zh (α := Nat × Nat × List Sp) (fun s => [(0, .ptr 0 0), (1, vI .i64 n), (6, .gs 1), (13, vI .i64 m), (14, vI .i64 (s.1 : Int))]) (fun s => [some (.cells 117 [.d (eBy b), vI .i64 (s.2.1 : Int)]), some (gSps s.2.2)]) (fun s => (s.1 : Int) ≤ m ∧ s.2.1 ≤ b.length ∧ s.2.2.length = s.1 ∧ z8e b n (m.toNat - s.1) (s.2.1 : Int) s.2.2 = Q) (fun s => m.toNat - s.1) (0, q3, []) ⟨hm0, hq3, rfl, hQ⟩ ?_ ?_
 ·exact fun h => zg h hC hCl ⟨⟨_, rfl, .refl _⟩, ⟨_, rfl, .refl _⟩, ⟨_, rfl, .refl _⟩, ⟨_, rfl, .refl _⟩, ⟨_, rfl, .refl _⟩, trivial⟩ ⟨.refl _, .gL rfl, trivial⟩ rfl rfl (Nat.le_of_ble_eq_true rfl)
 rintro ⟨i, p4, out⟩ ⟨hi, hp4, hol, hcl⟩ ih
 simp only at hi hp4 hol hcl ih ⊢
 refine z6 tabOk Tryz.func102 rfl trivial (fun h1 => ?_) (fun h1 => ?_)
 ·have h1 : decide ((i : Int) < m) = true := h1
  rw [decide_eq_true_eq] at h1
  rw [show m.toNat - i = (m.toNat - (i + 1)) + 1 by omega, z8e] at hcl
  refine z14 [0] tabOk Tryz.func102 rfl trivial (zm5 b n p4 hb (by omega) (by omega)) ?_ ⟨⟨_, rfl, .refl _⟩, trivial⟩ (.refl _) rfl rfl rfl ⟨_, rfl⟩ ?_
  ·rintro x ⟨a, e, hx, rfl⟩
   rw [hx] at hcl
   rw [hPn]
   exact ⟨_, _, hcl.symm, rfl⟩
  rintro r o ⟨s, p5, hx, rfl, rfl⟩
  obtain ⟨q5, t5, rfl, ⟨hq5, -⟩, -⟩ := (zfh hn hp4).ok _ _ hx
  rw [hx] at hcl
  simp only [bnd] at hcl
  refine z8 tabOk Tryz.func102 rfl ?nd ?_
  case nd =>
   rw [List.length_map]
   show (out.length + 1) * 32 ≤ 140737488355328 ∧ True
   exact ⟨by omega, trivial⟩
  refine zg (ih (i + 1, q5, out ++ [s]) ⟨by simp only; omega, hq5, by simp only [List.length_append, List.length_singleton]; omega, hcl⟩ (by simp only; omega)) hC hCl ⟨⟨_, rfl, .refl _⟩, ⟨_, rfl, .refl _⟩, ⟨_, rfl, .refl _⟩, ⟨_, rfl, .refl _⟩, ⟨_, rfl, .of (by rw [zb (by omega) (by omega)]; rfl)⟩, trivial⟩ ⟨.refl _, .gL ?_, trivial⟩ rfl rfl (Nat.le_of_ble_eq_true rfl)
  rw [List.map_append]
  rfl
 ·have h1 : decide ((i : Int) < m) = false := h1
  rw [decide_eq_false_iff_not] at h1
  rw [show m.toNat - i = 0 by omega, z8e] at hcl
  refine zw 1 rfl ?_
  exact zq tabOk Tryz.func102 rfl trivial hC hCl (.refl _) (o2 := ctO b p4) ⟨.refl _, trivial⟩ rfl rfl (Nat.le_refl _) ⟨_, _, hcl.symm, rfl, rfl⟩
@[reducible] def rdR (b : List UInt8) (p : Nat) : AObj := .cells 117 [.d (eBy b), vI .i64 (p : Int)]
@[reducible] def nilD : D := .v (.slice none 0 0)
@[reducible] def zCt : AObj := .cells 31 [.d nilD, .d (eI 0), .d nilD, .d nilD, .d nilD]
@[reducible] def gP2s (l : List P2) : AObj := gL 98 2 eP2 (0, 0) l
theorem dnil2 {s : Nat} {rd : Nat → D} : DLe (.v (.slice none 0 0)) (.sl s [] rd) := fun _ _ _ h => by
 cases h
 exact .nil (Nat.zero_le _)
theorem zlr {v : Int} {g : List P2} {x : P2} (h : gatOk v g = true) (hx : 0 ≤ x.2 ∧ x.2 ≤ x.1 ∧ x.1 < 2 * (v + g.length)) : gatOk v (g ++ [x]) = true := by
 rw [z8x, h, Bool.true_and, gatOk, gatOk, Bool.and_true]
 exact decide_eq_true hx
theorem zm8 (a : Ag) (b : List UInt8) (ha : RightA a) (hb : b.length ≤ 1000000) : z5l Tryz.prog 59 [.ptr 0 0, .d (eAg a)] (ctO b 0) (prR b (bodyP a b) fun c => .d (eCt c)) (prE (bodyP a b)) := by
 refine z3u Tryz.func59 rfl rfl (Nat.le_of_ble_eq_true rfl) fun C hC hCl hDs hGk hPn => ?_
 have hB := z6t (z13.2 ha)
 have hbd := z1z hB
 have hv1 := ha.v1
 have hvw := z4e a hB
 obtain ⟨Q, hQ⟩ : ∃ Q, bodyP a b = Q := ⟨_, rfl⟩
 rw [hQ] at hPn ⊢
 unfold bodyP at hQ
 have er : ∀ {α : Type} {q : PR α} {F : α → Int → PR Ct}, bnd q F = Q → ∀ x, prE q x → C.pn x := by
  rintro α q F h x ⟨p, e, rfl, rfl⟩
  rw [hPn]
  exact ⟨_, _, h.symm, rfl⟩
 refine z14 [0] tabOk Tryz.func59 rfl trivial (z2d b kInv 0 hb (by decide)) (er hQ) ⟨⟨_, rfl, .refl _⟩, trivial⟩ (.refl _) rfl rfl rfl ⟨_, rfl⟩ ?_
 rintro r o ⟨_, p1, hx, rfl, rfl⟩
 obtain ⟨p1, t1, rfl, ⟨hp1, -⟩, -⟩ := (z2t (p := 0) (Nat.zero_le _)).ok _ _ hx
 rw [hx] at hQ
 simp only [bnd] at hQ
 clear hx
 refine ze tabOk Tryz.func59 rfl trivial hvw (.refl _) rfl ⟨_, rfl⟩ (by rintro r o rfl; rfl) ?_
 rintro _ o rfl
 have e1 : IntKind.i64.wrap (20000 - varsA a) = 20000 - varsA a := zb (by omega) (by omega)
 refine z14 [0] tabOk Tryz.func59 rfl trivial (z6p b p1 (20000 - varsA a) hb) (er hQ) ⟨⟨_, rfl, .refl _⟩, trivial⟩ ⟨.refl _, .refl _, .of (congrArg (fun z => vI .i64 z) e1), trivial⟩ rfl rfl rfl ⟨_, rfl⟩ ?_
 rintro r o ⟨m, p2, hx, rfl, rfl⟩
 obtain ⟨p2, t2, rfl, ⟨hp2, -⟩, -, hm0, hm1⟩ := (z6z hp1).ok _ _ hx
 rw [hx] at hQ
 simp only [bnd] at hQ
 clear hx
 refine z14 [0] tabOk Tryz.func59 rfl trivial (z2d b [32] p2 hb (by decide)) (er hQ) ⟨⟨_, rfl, .refl _⟩, trivial⟩ (.refl _) rfl rfl rfl ⟨_, rfl⟩ ?_
 rintro r o ⟨_, p3, hx, rfl, rfl⟩
 obtain ⟨p3, t3, rfl, ⟨hp3, -⟩, -⟩ := (z2t hp2).ok _ _ hx
 rw [hx] at hQ
 simp only [bnd] at hQ
 clear hx
 have e2 : IntKind.i64.wrap (varsA a + m) = varsA a + m := zb (by omega) (by omega)
 have e3 : IntKind.i64.wrap (2 * (varsA a + m)) = 2 * (varsA a + m) := zb (by omega) (by omega)
 have e4 : IntKind.i64.wrap (2 * (varsA a + m) + 1) = 2 * (varsA a + m) + 1 := zb (by omega) (by omega)
 refine zp 9 tabOk Tryz.func59 rfl rfl trivial (by kernel_rfl) ?_
 refine zv tabOk rfl trivial (hvw) (zf Tryz.func47 rfl rfl) (by rintro r o rfl; rfl) (.refl _) rfl rfl ⟨_, rfl⟩ ?_
 refine zo tabOk rfl trivial ?_
 apply letK (p := ASat Tryz.prog 59 Tryz.f59.ntmps C _ [(0, .ptr 0 0), (3, .ptr 1 0), (4, .ptr 2 0), (5, .ptr 3 0), (6, vI .i64 m), (7, vI .i64 (varsA a + m)), (8, vI .i64 (p3 : Int))] [some (rdR b p3), some (bAg a), some zCt, some zCt] _)
 ·intro key
  refine zj 3 tabOk Tryz.func59 rfl trivial ?_
  exact zg key hC hCl ⟨⟨_, rfl, .refl _⟩, ⟨_, rfl, .refl _⟩, ⟨_, rfl, .refl _⟩, ⟨_, rfl, .refl _⟩, ⟨_, rfl, .refl _⟩, ⟨_, rfl, .of (congrArg (fun z => vI .i64 z) e2)⟩, ⟨_, rfl, .refl _⟩, trivial⟩ ⟨.refl _, .refl _, .refl _, .refl _, trivial⟩ rfl rfl (Nat.le_of_ble_eq_true rfl)
 refine z14 [0] tabOk Tryz.func59 rfl trivial (z6p b p3 (2 * (varsA a + m) + 1) hb) (er hQ) ⟨⟨_, rfl, .refl _⟩, trivial⟩ ⟨.refl _, .refl _, .of ?vl, trivial⟩ rfl rfl rfl ⟨_, rfl⟩ ?_
 case vl =>
  show vI .i64 (IntKind.i64.wrap (IntKind.i64.wrap (2 * (varsA a + m)) + 1)) = _
  rw [e3, e4]
  rfl
 rintro r o ⟨inv, p4, hx, rfl, rfl⟩
 obtain ⟨p4, t4, rfl, ⟨hp4, -⟩, -, hi0, hi1⟩ := (z6z hp3).ok _ _ hx
 rw [hx] at hQ
 simp only [bnd] at hQ
 clear hx
 refine z14 [0] tabOk Tryz.func59 rfl trivial (z2d b [10] p4 hb (by decide)) (er hQ) ⟨⟨_, rfl, .refl _⟩, trivial⟩ (.refl _) rfl rfl rfl ⟨_, rfl⟩ ?_
 rintro r o ⟨_, p5, hx, rfl, rfl⟩
 obtain ⟨p5, t5, rfl, ⟨hp5, -⟩, -⟩ := (z2t hp4).ok _ _ hx
 rw [hx] at hQ
 simp only [bnd] at hQ
 clear hx
 refine z8 tabOk Tryz.func59 rfl trivial ?_
 refine z7p 3 0 (e' := 98) (s := 2) (fun i => eP2 (([] : List P2).getD i (0, 0))) rfl rfl ?_
 refine zh (α := Nat × Nat × List P2) (fun s => [(0, .ptr 0 0), (3, .ptr 1 0), (4, .ptr 2 0), (5, .ptr 3 0), (8, vI .i64 (p3 : Int)), (39, vI .i64 m), (40, vI .i64 (s.1 : Int))]) (fun s => [some (rdR b s.2.1), some (bAg a), some zCt, some (.cells 31 [.gs 4, vI .i64 inv, .d nilD, .d nilD, .d nilD]), some (gP2s s.2.2)])
  (fun s => (s.1 : Int) ≤ m ∧ s.2.1 ≤ b.length ∧ s.2.2.length = s.1 ∧ gatOk (varsA a + 1) s.2.2 = true ∧ bnd (za7 b (varsA a) (m.toNat - s.1) (s.2.1 : Int) s.2.2) (fun g p6 => if z3y { a with g := a.g ++ g } inv = true then .inl ((p3 : Int), 2) else restP b (varsA a + g.length + 1) g inv p6) = Q) (fun s => m.toNat - s.1) (0, p5, []) ⟨hm0, hp5, rfl, rfl, hQ⟩ ?_ ?_
 ·refine fun h => zg h hC hCl ⟨⟨_, rfl, .refl _⟩, ⟨_, rfl, .refl _⟩, ⟨_, rfl, .refl _⟩, ⟨_, rfl, .refl _⟩, ⟨_, rfl, .refl _⟩, ⟨_, rfl, .refl _⟩, ⟨_, rfl, .refl _⟩, trivial⟩ ⟨.refl _, .refl _, .refl _, .refl _, .gL rfl, trivial⟩ rfl rfl (Nat.le_of_ble_eq_true rfl)
 rintro ⟨i, p6, g⟩ ⟨hi, hp6, hgl, hgo, hcl⟩ ih
 simp only at hi hp6 hgl hgo hcl ih ⊢
 clear hQ
 refine z6 tabOk Tryz.func59 rfl trivial (fun h1 => ?_) (fun h1 => ?_)
 ·have h1 : decide ((i : Int) < m) = true := h1
  rw [decide_eq_true_eq] at h1
  rw [show m.toNat - i = (m.toNat - (i + 1)) + 1 by omega, za7] at hcl
  unfold gateP at hcl
  have f1 : IntKind.i64.wrap (varsA a + 1) = varsA a + 1 := zb (by omega) (by omega)
  have f2 : IntKind.i64.wrap (varsA a + 1 + (i : Int)) = varsA a + 1 + (i : Int) := zb (by omega) (by omega)
  have f3 : IntKind.i64.wrap (2 * (varsA a + 1 + (i : Int))) = 2 * (varsA a + 1 + (i : Int)) := zb (by omega) (by omega)
  have f4 : IntKind.i64.wrap (2 * (varsA a + 1 + (i : Int)) - 1) = 2 * (varsA a + 1 + (i : Int)) - 1 := zb (by omega) (by omega)
  have er2 : ∀ {α : Type} {q : PR α} {F : α → Int → PR P2} {F2 : P2 → Int → PR (List P2)} {F3 : List P2 → Int → PR Ct}, bnd (bnd (bnd q F) F2) F3 = Q → ∀ x, prE q x → C.pn x := by
   rintro α q F F2 F3 h x ⟨p, e, rfl, rfl⟩
   rw [hPn]
   exact ⟨_, _, h.symm, rfl⟩
  rw [show (g.length : Int) = (i : Int) by omega] at hcl
  refine ze tabOk Tryz.func59 rfl trivial hvw (.refl _) rfl ⟨_, rfl⟩ (by rintro r o rfl; rfl) ?_
  rintro _ o rfl
  refine z14 [0] tabOk Tryz.func59 rfl trivial (z6p b p6 (2 * (varsA a + 1 + (i : Int)) - 1) hb) (er2 hcl) ⟨⟨_, rfl, .refl _⟩, trivial⟩ ⟨.refl _, .refl _, .of ?vl2, trivial⟩ rfl rfl rfl ⟨_, rfl⟩ ?_
  case vl2 =>
   show vI .i64 (IntKind.i64.wrap (IntKind.i64.wrap (2 * IntKind.i64.wrap (IntKind.i64.wrap (varsA a + 1) + (i : Int))) - 1)) = _
   rw [f1, f2, f3, f4]
   rfl
  rintro r o ⟨x, p7, hx, rfl, rfl⟩
  obtain ⟨p7, t7, rfl, ⟨hp7, -⟩, -, hx0, hx1⟩ := (z6z hp6).ok _ _ hx
  rw [hx] at hcl
  simp only [bnd] at hcl
  clear hx
  refine z14 [0] tabOk Tryz.func59 rfl trivial (z2d b [32] p7 hb (by decide)) (er2 hcl) ⟨⟨_, rfl, .refl _⟩, trivial⟩ (.refl _) rfl rfl rfl ⟨_, rfl⟩ ?_
  rintro r o ⟨_, p8, hx, rfl, rfl⟩
  obtain ⟨p8, t8, rfl, ⟨hp8, -⟩, -⟩ := (z2t hp7).ok _ _ hx
  rw [hx] at hcl
  simp only [bnd] at hcl
  clear hx
  refine z14 [0] tabOk Tryz.func59 rfl trivial (z6p b p8 x hb) (er2 hcl) ⟨⟨_, rfl, .refl _⟩, trivial⟩ (.refl _) rfl rfl rfl ⟨_, rfl⟩ ?_
  rintro r o ⟨y, p9, hx, rfl, rfl⟩
  obtain ⟨p9, t9, rfl, ⟨hp9, -⟩, -, hy0, hy1⟩ := (z6z hp8).ok _ _ hx
  rw [hx] at hcl
  simp only [bnd] at hcl
  clear hx
  refine z14 [0] tabOk Tryz.func59 rfl trivial (z2d b [10] p9 hb (by decide)) (er2 hcl) ⟨⟨_, rfl, .refl _⟩, trivial⟩ (.refl _) rfl rfl rfl ⟨_, rfl⟩ ?_
  rintro r o ⟨_, p10, hx, rfl, rfl⟩
  obtain ⟨p10, t10, rfl, ⟨hp10, -⟩, -⟩ := (z2t hp9).ok _ _ hx
  rw [hx] at hcl
  simp only [bnd] at hcl
  clear hx
  refine z8 tabOk Tryz.func59 rfl ?nd ?_
  case nd =>
   rw [List.length_map]
   show (g.length + 1) * 16 ≤ 140737488355328 ∧ True
   exact ⟨by omega, trivial⟩
  refine zg (ih (i + 1, p10, g ++ [(x, y)]) ⟨by simp only; omega, hp10, by simp only [List.length_append, List.length_singleton]; omega, zlr hgo (by simp only; omega), hcl⟩ (by simp only; omega)) hC hCl ⟨⟨_, rfl, .refl _⟩, ⟨_, rfl, .refl _⟩, ⟨_, rfl, .refl _⟩, ⟨_, rfl, .refl _⟩, ⟨_, rfl, .refl _⟩, ⟨_, rfl, .refl _⟩, ⟨_, rfl, .of (by rw [zb (by omega) (by omega)]; rfl)⟩, trivial⟩ ⟨.refl _, .refl _, .refl _, .refl _, .gL ?_, trivial⟩ rfl rfl (Nat.le_of_ble_eq_true rfl)
  rw [List.map_append]
  rfl
 have h1 : decide ((i : Int) < m) = false := h1
 rw [decide_eq_false_iff_not] at h1
 obtain rfl : g.length = i := hgl
 have hml : (g.length : Int) = m := by omega
 rw [show m.toNat - g.length = 0 by omega, za7] at hcl
 simp only [bnd] at hcl
 clear ih
 refine zw 4 rfl ?_
 have hgr := zfu (a := a) (c := ⟨g, inv, [], [], []⟩) ha (by simp only; omega) hgo
 have hvg : varsA (zk a ⟨g, inv, [], [], []⟩) = varsA a + g.length := z3g _ _
 have hcl : (if z3y (zk a ⟨g, inv, [], [], []⟩) inv = true then .inl ((p3 : Int), 2) else restP b (varsA a + g.length + 1) g inv p6) = Q := hcl
 refine ze tabOk Tryz.func59 rfl trivial (z7g a ⟨g, inv, [], [], []⟩ (by have := hB.g; have := ha.i0; unfold varsA at hv1; omega) (by simp only; omega)) ⟨.refl _, VLe.dag ⟨.refl _, .refl _, dnil2, dnil2, dnil2, trivial⟩, trivial⟩ rfl ⟨_, rfl⟩ (by rintro r o rfl; rfl) ?_
 rintro _ o rfl
 have hBG := z6t (z13.2 hgr)
 have hgat := hgr.gat
 generalize zk a ⟨g, inv, [], [], []⟩ = G at *
 refine ze tabOk Tryz.func59 rfl trivial (zdi G inv hBG hgat ⟨hi0, by rw [hvg]; omega⟩) (.refl _) rfl ⟨_, rfl⟩ (by rintro r o rfl; rfl) ?_
 rintro _ o rfl
 cases hH : z3y G inv with
 | true =>
  rw [if_pos hH] at hcl
  refine z6 tabOk Tryz.func59 rfl trivial (fun _ => ?_) (fun h => by cases h)
  refine zj 9 tabOk Tryz.func59 rfl trivial ?_
  refine z62 Tryz.func59 rfl rfl rfl rfl ?_
  rw [hPn]
  exact ⟨_, _, hcl.symm, rfl⟩
 | false =>
 rw [if_neg (by rw [hH]; decide)] at hcl
 refine z6 tabOk Tryz.func59 rfl trivial (fun h => by cases h) (fun _ => ?_)
 refine ze tabOk Tryz.func59 rfl trivial (zdt G hBG) (.refl _) rfl ⟨_, rfl⟩ (by rintro r o rfl; rfl) ?_
 rintro _ o rfl
 have hN : varsA G + 1 = varsA a + g.length + 1 := by rw [hvg]
 rw [← hN] at hcl
 have hN2 : 0 ≤ varsA G + 1 ∧ varsA G + 1 ≤ 20001 := by omega
 generalize hN' : varsA G + 1 = N at *
 unfold restP at hcl
 refine z8 tabOk Tryz.func59 rfl trivial ?_
 refine z3n ?_
 apply letK (p := ASat Tryz.prog 59 Tryz.f59.ntmps C _ [(0, .ptr 0 0), (4, .ptr 2 0), (5, .ptr 3 0), (80, .d (.ag [eI N, eI (2 * N), eI N])), (81, vI .i64 0)] [some (rdR b p6), none, some zCt, some (.cells 31 [.d (eP2s g), vI .i64 inv, .d nilD, .d nilD, .d nilD])] _)
 ·intro key
  exact zg key hC hCl ⟨⟨_, rfl, .refl _⟩, ⟨_, rfl, .refl _⟩, ⟨_, rfl, .refl _⟩, ⟨_, rfl, .of (by rw [← hN'])⟩, ⟨_, rfl, .refl _⟩, trivial⟩ ⟨.refl _, .refl _, .refl _, trivial⟩ rfl rfl (Nat.le_of_ble_eq_true rfl)
 refine z6 tabOk Tryz.func59 rfl trivial (fun _ => ?_) (fun h => by cases h)
 refine zj 60 tabOk Tryz.func59 rfl trivial ?_
 refine z1c (j := 0) tabOk rfl rfl rfl rfl rfl rfl rfl rfl (by decide) rfl rfl ?_
 refine z14 [0] tabOk Tryz.func59 rfl trivial (z8a b N p6 hb hp6 (by omega)) (er hcl) ⟨⟨_, rfl, .refl _⟩, trivial⟩ (.refl _) rfl rfl rfl ⟨_, rfl⟩ ?_
 rintro r o ⟨x, p7, hx, rfl, rfl⟩
 obtain ⟨p7, t7, rfl, ⟨hp7, -⟩, -⟩ := (z9c ⟨by omega, by omega⟩ hp6).ok _ _ hx
 rw [hx] at hcl
 simp only [bnd] at hcl
 clear hx
 refine z8 tabOk Tryz.func59 rfl trivial ?_
 refine z1v ?_
 apply letK (p := ASat Tryz.prog 59 Tryz.f59.ntmps C _ [(0, .ptr 0 0), (4, .ptr 2 0), (5, .ptr 3 0), (80, .d (.ag [eI N, eI (2 * N), eI N])), (81, vI .i64 1)] [some (rdR b p7), none, some zCt, some (.cells 31 [.d (eP2s g), vI .i64 inv, .d (eSps x), .d nilD, .d nilD])] _)
 ·intro key
  exact zg key hC hCl ⟨⟨_, rfl, .refl _⟩, ⟨_, rfl, .refl _⟩, ⟨_, rfl, .refl _⟩, ⟨_, rfl, .refl _⟩, ⟨_, rfl, .refl _⟩, trivial⟩ ⟨.refl _, .refl _, .refl _, trivial⟩ rfl rfl (Nat.le_of_ble_eq_true rfl)
 refine z6 tabOk Tryz.func59 rfl trivial (fun _ => ?_) (fun h => by cases h)
 refine zj 60 tabOk Tryz.func59 rfl trivial ?_
 refine z1c (j := 1) tabOk rfl rfl rfl rfl rfl rfl rfl rfl (by decide) rfl rfl ?_
 refine z14 [0] tabOk Tryz.func59 rfl trivial (z8a b (2 * N) p7 hb hp7 (by omega)) (er hcl) ⟨⟨_, rfl, .refl _⟩, trivial⟩ (.refl _) rfl rfl rfl ⟨_, rfl⟩ ?_
 rintro r o ⟨y, p8, hx, rfl, rfl⟩
 obtain ⟨p8, t8, rfl, ⟨hp8, -⟩, -⟩ := (z9c ⟨by omega, by omega⟩ hp7).ok _ _ hx
 rw [hx] at hcl
 simp only [bnd] at hcl
 clear hx
 refine z8 tabOk Tryz.func59 rfl trivial ?_
 refine z1v ?_
 apply letK (p := ASat Tryz.prog 59 Tryz.f59.ntmps C _ [(0, .ptr 0 0), (4, .ptr 2 0), (5, .ptr 3 0), (80, .d (.ag [eI N, eI (2 * N), eI N])), (81, vI .i64 2)] [some (rdR b p8), none, some zCt, some (.cells 31 [.d (eP2s g), vI .i64 inv, .d (eSps x), .d (eSps y), .d nilD])] _)
 ·intro key
  exact zg key hC hCl ⟨⟨_, rfl, .refl _⟩, ⟨_, rfl, .refl _⟩, ⟨_, rfl, .refl _⟩, ⟨_, rfl, .refl _⟩, ⟨_, rfl, .refl _⟩, trivial⟩ ⟨.refl _, .refl _, .refl _, trivial⟩ rfl rfl (Nat.le_of_ble_eq_true rfl)
 refine z6 tabOk Tryz.func59 rfl trivial (fun _ => ?_) (fun h => by cases h)
 refine zj 60 tabOk Tryz.func59 rfl trivial ?_
 refine z1c (j := 2) tabOk rfl rfl rfl rfl rfl rfl rfl rfl (by decide) rfl rfl ?_
 refine z14 [0] tabOk Tryz.func59 rfl trivial (z8a b N p8 hb hp8 (by omega)) (er hcl) ⟨⟨_, rfl, .refl _⟩, trivial⟩ (.refl _) rfl rfl rfl ⟨_, rfl⟩ ?_
 rintro r o ⟨z, p9, hx, rfl, rfl⟩
 obtain ⟨p9, t9, rfl, ⟨hp9, -⟩, -⟩ := (z9c ⟨by omega, by omega⟩ hp8).ok _ _ hx
 rw [hx] at hcl
 simp only [bnd] at hcl
 clear hx
 refine z8 tabOk Tryz.func59 rfl trivial ?_
 refine z1v ?_
 apply letK (p := ASat Tryz.prog 59 Tryz.f59.ntmps C _ [(0, .ptr 0 0), (4, .ptr 2 0), (5, .ptr 3 0), (80, .d (.ag [eI N, eI (2 * N), eI N])), (81, vI .i64 3)] [some (rdR b p9), none, some zCt, some (.cells 31 [.d (eP2s g), vI .i64 inv, .d (eSps x), .d (eSps y), .d (eSps z)])] _)
 ·intro key
  exact zg key hC hCl ⟨⟨_, rfl, .refl _⟩, ⟨_, rfl, .refl _⟩, ⟨_, rfl, .refl _⟩, ⟨_, rfl, .refl _⟩, ⟨_, rfl, .refl _⟩, trivial⟩ ⟨.refl _, .refl _, .refl _, trivial⟩ rfl rfl (Nat.le_of_ble_eq_true rfl)
 refine z6 tabOk Tryz.func59 rfl trivial (fun h => by cases h) (fun _ => ?_)
 refine zp 9 tabOk Tryz.func59 rfl rfl trivial (by kernel_rfl) ?_
 refine zo tabOk rfl trivial ?_
 refine z6 tabOk Tryz.func59 rfl trivial (fun h2 => ?_) (fun h2 => ?_)
 ·have h2 : decide ((p9 : Int) < (((b.map eU8).length : Nat) : Int)) = true := h2
  rw [decide_eq_true_eq, List.length_map] at h2
  rw [if_pos h2] at hcl
  refine zj 12 tabOk Tryz.func59 rfl trivial ?_
  refine z62 Tryz.func59 rfl rfl rfl rfl ?_
  rw [hPn]
  exact ⟨_, _, hcl.symm, rfl⟩
 ·have h2 : decide ((p9 : Int) < (((b.map eU8).length : Nat) : Int)) = false := h2
  rw [decide_eq_false_iff_not, List.length_map] at h2
  rw [if_neg h2] at hcl
  exact zq tabOk Tryz.func59 rfl trivial hC hCl (.refl _) (o2 := ctO b p9) ⟨.refl _, trivial⟩ rfl rfl (Nat.le_refl _) ⟨⟨g, inv, x, y, z⟩, _, hcl.symm, rfl, rfl⟩
@[reducible] def zAgO : AObj := .cells 27 [.d (eI 0), .d nilD, .d nilD, .d nilD, .d nilD, .d nilD, .d nilD]
@[reducible] def gAn (l : List P2) : AObj := .grow 98 2 (l.map eP2) (fun j => eP2 (l.getD j (0, 0)))
theorem zbc (a : Ag) (c : Ct) (h1 : a.g.length ≤ 100000) (h2 : c.g.length ≤ 100000) : ACall Tryz.prog 17 [.d (eAg a), .d (eCt c)] [] (fun r o => r = .d (eAg (zk a c))) := by
 refine za Tryz.func17 rfl rfl (Nat.le_of_ble_eq_true rfl) fun C hC hCl hDs hGk => ?_
 have hpl : C.π.length = 0 := by rw [hCl, hC]; rfl
 refine z57 6 1 [(3, some (8, .gs 3))] (fun L => [some (bAg a), some (bCt c), some zAgO, some (pk 3 L (gAn a.g) HD)]) _ (objsF := [some (bAg a), some (bCt c), some zAgO, some (gAn a.g)]) tabOk Tryz.func17 rfl rfl trivial (by kernel_rfl) (by kernel_rfl) ?_ ?_ ?_ rfl (fun L => by
   refine z2l tabOk rfl rfl rfl rfl rfl rfl rfl ?_
   exact zo tabOk rfl trivial rfl) ?_ ?_
 ·rfl
 ·intro L hL
  simp only [zjm (hL 3 (by decide))]
 ·intro j L hb
  simp only [actB, List.any_cons, List.any_nil, Bool.or_false] at hb
  have n1 := Nat.ne_of_beq_eq_false hb
  simp only [pk_ne (fun e => n1 e.symm)]
 ·refine List.forall_mem_cons.2 ⟨⟨_, rfl, rfl, ?_⟩, fun x h => by cases h⟩
  refine z9l (p := 3) (ys := a.g.map eP2) (rd2 := fun j => eP2 (a.g.getD j (0, 0))) tabOk rfl (fun _ _ _ h => h) rfl rfl rfl (fun L => rfl) rfl rfl rfl rfl rfl rfl ?_ rfl rfl rfl (by omega) ?_ ?_
  ·show (a.g.map eP2).length * 16 ≤ 140737488355328
   rw [List.length_map]
   omega
  ·intro L h1 _
   simp only [pk_no h1]
   rfl
  ·intro L h1 _
   simp only [ze8, pk_no h1]
   rfl
 refine zj 4 tabOk Tryz.func17 rfl ?nd ?_
 case nd =>
  refine ⟨?_, trivial⟩
  show ((a.g.map eP2).length + (c.g.map eP2).length) * 16 ≤ 140737488355328
  rw [List.length_map, List.length_map]
  omega
 refine zw 3 rfl ?_
 refine zq tabOk Tryz.func17 rfl trivial hC hCl (r2 := .d (eAg (zk a c))) (VLe.dag ⟨.refl _, .refl _, DLe.eL ?_, .refl _, .refl _, .refl _, .refl _, trivial⟩) (o2 := []) trivial rfl rfl (Nat.le_refl _) rfl
 rw [show (zk a c).g = a.g ++ c.g from rfl, List.map_append]
theorem zkx {H : List Bool} {v : Nat} (h : v < H.length) : H.take (v + 1) = H.take v ++ [H.getD v false] := by
 rw [List.take_succ_eq_append_getElem h]
 simp [h]
theorem zml {H : List Bool} {v j : Nat} (hj : j < v) : (H.take v).getD j false = H.getD j false := by
 simp [List.getD_eq_getElem?_getD, List.getElem?_take, hj]
theorem zi0 (a : Ag) (l : Int) (h : AgB a) (hg : gatOk (a.i + a.l.length + 1) a.g = true) (hl : 0 ≤ l ∧ l ≤ 2 * varsA a + 1) : ACall Tryz.prog 53 [.d (eAg a), vI .i64 l] [] (fun r o => r = vB (z3y a l)) := by
 refine za Tryz.func53 rfl rfl (Nat.le_of_ble_eq_true rfl) fun C hC hCl hDs hGk => ?_
 have hv := z1z h
 have hi0 := h.i0
 have hi1 := h.i1
 have hll := h.l
 have hgl := h.g
 have hit : ((a.i.toNat : Nat) : Int) = a.i := by omega
 have hF : GOkF (a.i.toNat + a.l.length + 1) a.g := zet (by rw [show ((a.i.toNat + a.l.length + 1 : Nat) : Int) = a.i + a.l.length + 1 by omega]; exact hg)
 have hHl := zgn a.i.toNat a.l.length a.g
 have hg0 := fun v => @zgl a.i.toNat a.l.length a.g v
 have hgg := fun j hj => zc2 a.g (hang0 a.i.toNat a.l.length) j hj (by rw [z5g]; exact hF)
 rw [z5g] at hgg
 have hNN : ((hangA a.i.toNat a.l.length a.g).length : Int) = varsA a + 1 := by rw [hHl]; unfold varsA; omega
 unfold z3y
 change ∀ j (hj : j < a.g.length), (hangA a.i.toNat a.l.length a.g).getD (a.i.toNat + a.l.length + 1 + j) false = ((hangA a.i.toNat a.l.length a.g).getD (a.g[j].1 / 2).toNat false || (hangA a.i.toNat a.l.length a.g).getD (a.g[j].2 / 2).toNat false) at hgg
 generalize hangA a.i.toNat a.l.length a.g = H at *
 refine z8 tabOk Tryz.func53 rfl trivial ?_
 refine z2w (e := 4) (s := 1) (t := 5) (.inl rfl) (fun i => eBo (([] : List Bool).getD i false)) ?_
 refine zh (α := Nat) (fun v => [(1, vI .i64 l), (2, .ptr 0 0), (5, .gs 1), (6, vI .i64 (v : Int))]) (fun v => [some (bAg a), some (gBo (H.take v))]) (fun v => v ≤ H.length) (fun v => H.length - v) 0 (Nat.zero_le _) ?_ ?_
 ·exact fun h => zg h hC hCl ⟨⟨_, rfl, .refl _⟩, ⟨_, rfl, .refl _⟩, ⟨_, rfl, .refl _⟩, ⟨_, rfl, .refl _⟩, trivial⟩ ⟨.refl _, .gL rfl, trivial⟩ rfl rfl (Nat.zero_le _)
 rintro v hvl ih
 have hsl : (H.take v).length = v := by rw [List.length_take]; omega
 refine ze tabOk Tryz.func53 rfl trivial (z3j a h) (.refl _) rfl ⟨_, rfl⟩ (by rintro r o rfl; rfl) ?_
 rintro _ o rfl
 refine z6 tabOk Tryz.func53 rfl trivial (fun hb => ?_) (fun hb => ?_)
 rotate_left
 ·have hb : decide ((v : Int) ≤ varsA a) = false := hb
  rw [decide_eq_false_iff_not] at hb
  obtain rfl : v = H.length := by omega
  have e2 : IntKind.i64.wrap (Int.tdiv l 2) = l / 2 := by rw [Int.tdiv_eq_ediv_of_nonneg hl.1, zb (by omega) (by omega)]
  refine z7 tabOk Tryz.func53 rfl ?_ ?_
  ·rw [e2, List.length_map, hsl]
   exact ⟨by omega, ⟨by omega, by omega⟩, by decide, trivial⟩
  ·rw [e2, List.take_length]
   rfl
 have hb : decide ((v : Int) ≤ varsA a) = true := hb
 rw [decide_eq_true_eq] at hb
 have hlt : v < H.length := by omega
 have ih := ih (v + 1) (by omega) (by omega)
 rw [zkx hlt] at ih
 have hget := fun j => @zml H v j
 have e3 : IntKind.i64.wrap ((v : Int) - a.i) = (v : Int) - a.i := zb (by omega) (by omega)
 have e4 : IntKind.i64.wrap ((v : Int) - a.i - (((a.l.map eP2).length : Nat) : Int)) = (v : Int) - a.i - (a.l.length : Int) := by rw [List.length_map, zb (by omega) (by omega)]
 have e5 : IntKind.i64.wrap ((v : Int) - a.i - (a.l.length : Int) - 1) = (v : Int) - a.i - (a.l.length : Int) - 1 := zb (by omega) (by omega)
 have eJ : IntKind.i64.wrap (IntKind.i64.wrap (IntKind.i64.wrap ((v : Int) - a.i) - (((a.l.map eP2).length : Nat) : Int)) - 1) = (v : Int) - a.i - (a.l.length : Int) - 1 := by rw [e3, e4, e5]
 refine z6 tabOk Tryz.func53 rfl trivial (fun h1 => ?_) (fun h1 => ?_)
 ·have h1 : decide (IntKind.i64.wrap (IntKind.i64.wrap (IntKind.i64.wrap ((v : Int) - a.i) - (((a.l.map eP2).length : Nat) : Int)) - 1) < 0) = true := h1
  rw [eJ, decide_eq_true_eq] at h1
  rw [hg0 v (by omega)] at ih
  refine z6 tabOk Tryz.func53 rfl trivial (fun h2 => ?_) (fun h2 => ?_)
  ·have h2 : decide ((v : Int) ≥ 1) = true := h2
   rw [decide_eq_true_eq] at h2
   refine z8 tabOk Tryz.func53 rfl (by simp only [andP, and_true, true_and, Int.toNat_natCast, List.length_map, List.length_append, List.length_cons, List.length_nil, List.length_replicate, hsl]; omega) ?_
   refine zg ih hC hCl ⟨⟨_, rfl, .refl _⟩, ⟨_, rfl, .refl _⟩, ⟨_, rfl, .refl _⟩, ⟨_, rfl, .of (by rw [zb (by omega) (by omega)]; rfl)⟩, trivial⟩ ⟨.refl _, .gL ?_, trivial⟩ rfl rfl (Nat.zero_le _)
   rw [List.map_append]
   show _ ++ [eBo (decide ((v : Int) ≤ a.i))] = _ ++ [eBo (decide (1 ≤ v ∧ v ≤ a.i.toNat))]
   rw [show decide ((v : Int) ≤ a.i) = decide (1 ≤ v ∧ v ≤ a.i.toNat) from decide_eq_decide.2 (by omega)]
  ·have h2 : decide ((v : Int) ≥ 1) = false := h2
   rw [decide_eq_false_iff_not] at h2
   rw [decide_eq_false (show ¬ (1 ≤ v ∧ v ≤ a.i.toNat) by omega)] at ih
   refine z8 tabOk Tryz.func53 rfl (by simp only [andP, and_true, true_and, Int.toNat_natCast, List.length_map, List.length_append, List.length_cons, List.length_nil, List.length_replicate, hsl]; omega) ?_
   refine zg ih hC hCl ⟨⟨_, rfl, .refl _⟩, ⟨_, rfl, .refl _⟩, ⟨_, rfl, .refl _⟩, ⟨_, rfl, .of (by rw [zb (by omega) (by omega)]; rfl)⟩, trivial⟩ ⟨.refl _, .gL ?_, trivial⟩ rfl rfl (Nat.zero_le _)
   rw [List.map_append]
   rfl
 have h1 : decide (IntKind.i64.wrap (IntKind.i64.wrap (IntKind.i64.wrap ((v : Int) - a.i) - (((a.l.map eP2).length : Nat) : Int)) - 1) < 0) = false := h1
 rw [eJ, decide_eq_false_iff_not] at h1
 obtain ⟨j, hj, hjl⟩ : ∃ j : Nat, v = a.i.toNat + a.l.length + 1 + j ∧ j < a.g.length := ⟨v - (a.i.toNat + a.l.length + 1), by omega, by omega⟩
 have hJ : IntKind.i64.wrap (IntKind.i64.wrap (IntKind.i64.wrap ((v : Int) - a.i) - (((a.l.map eP2).length : Nat) : Int)) - 1) = (j : Int) := by rw [eJ]; omega
 have hpg : p2 a.g j = a.g[j] := by simp [p2, hjl]
 have hgj := (z5h _ _).1 hg j hjl
 have hHv := hgg j hjl
 rw [← hj, ← hpg] at hHv
 rw [← hpg] at hgj
 generalize hp : p2 a.g j = p at *
 have q1 : IntKind.i64.wrap (Int.tdiv p.1 2) = p.1 / 2 := by rw [Int.tdiv_eq_ediv_of_nonneg (by omega), zb (by omega) (by omega)]
 have q2 : IntKind.i64.wrap (Int.tdiv p.2 2) = p.2 / 2 := by rw [Int.tdiv_eq_ediv_of_nonneg (by omega), zb (by omega) (by omega)]
 have g1 := hget (p.1 / 2).toNat (by omega)
 have g2 := hget (p.2 / 2).toNat (by omega)
 rw [hHv] at ih
 refine z6 tabOk Tryz.func53 rfl ?nd (fun h2 => ?_) (fun h2 => ?_)
 case nd =>
  rw [hJ, Int.toNat_natCast, show a.g.getD j (0, 0) = p from hp, q1, List.length_map, List.length_map, hsl]
  exact ⟨by omega, ⟨by omega, by omega⟩, by decide, ⟨by omega, by omega⟩, trivial⟩
 ·have h2 : (H.take v).getD (IntKind.i64.wrap (Int.tdiv (a.g.getD (IntKind.i64.wrap (IntKind.i64.wrap (IntKind.i64.wrap ((v : Int) - a.i) - (((a.l.map eP2).length : Nat) : Int)) - 1)).toNat (0, 0)).1 2)).toNat false = true := h2
  rw [hJ, Int.toNat_natCast, show a.g.getD j (0, 0) = p from hp, q1, g1] at h2
  rw [h2, Bool.true_or] at ih
  refine z8 tabOk Tryz.func53 rfl (by simp only [andP, and_true, true_and, Int.toNat_natCast, List.length_map, List.length_append, List.length_cons, List.length_nil, List.length_replicate, hsl]; omega) ?_
  refine zg ih hC hCl ⟨⟨_, rfl, .refl _⟩, ⟨_, rfl, .refl _⟩, ⟨_, rfl, .refl _⟩, ⟨_, rfl, .of (by rw [zb (by omega) (by omega)]; rfl)⟩, trivial⟩ ⟨.refl _, .gL ?_, trivial⟩ rfl rfl (Nat.zero_le _)
  rw [List.map_append]
  rfl
 ·have h2 : (H.take v).getD (IntKind.i64.wrap (Int.tdiv (a.g.getD (IntKind.i64.wrap (IntKind.i64.wrap (IntKind.i64.wrap ((v : Int) - a.i) - (((a.l.map eP2).length : Nat) : Int)) - 1)).toNat (0, 0)).1 2)).toNat false = false := h2
  rw [hJ, Int.toNat_natCast, show a.g.getD j (0, 0) = p from hp, q1, g1] at h2
  rw [h2, Bool.false_or] at ih
  refine z8 tabOk Tryz.func53 rfl ?nd3 ?_
  case nd3 =>
   rw [hJ]
   simp only [Int.toNat_natCast]
   rw [show a.g.getD j (0, 0) = p from hp, q2, List.length_map, List.length_map, hsl]
   exact ⟨by show (v + 1) * 1 ≤ 140737488355328; omega, by omega, ⟨by omega, by omega⟩, by decide, ⟨by omega, by omega⟩, trivial⟩
  refine zg ih hC hCl ⟨⟨_, rfl, .refl _⟩, ⟨_, rfl, .refl _⟩, ⟨_, rfl, .refl _⟩, ⟨_, rfl, .of (by rw [zb (by omega) (by omega)]; rfl)⟩, trivial⟩ ⟨.refl _, .gL ?_, trivial⟩ rfl rfl (Nat.zero_le _)
  rw [List.map_append]
  show _ ++ [eBo ((H.take v).getD (IntKind.i64.wrap (Int.tdiv (a.g.getD (IntKind.i64.wrap (IntKind.i64.wrap (IntKind.i64.wrap ((v : Int) - a.i) - (((a.l.map eP2).length : Nat) : Int)) - 1)).toNat (0, 0)).2 2)).toNat false)] = _
  rw [hJ, Int.toNat_natCast, show a.g.getD j (0, 0) = p from hp, q2, g2]
  rfl
theorem za2 (a : Ag) (k : Int) (h : AgB a) (hk : 0 ≤ k ∧ k ≤ 1000) : ACall Tryz.prog 51 [.d (eAg a), vI .i64 k] [] (fun r o => r = vI .i64 (k * (varsA a + 1))) := by
 refine za Tryz.func51 rfl rfl (Nat.le_of_ble_eq_true rfl) fun C hC hCl hDs hGk => ?_
 have hv := z1z h
 have e1 : IntKind.i64.wrap (varsA a + 1) = varsA a + 1 := zb (by omega) (by omega)
 have hp : 0 ≤ k * (varsA a + 1) ∧ k * (varsA a + 1) ≤ 1000 * 3000001 := ⟨Int.mul_nonneg hk.1 (by omega), Int.mul_le_mul hk.2 (by omega) (by omega) (by decide)⟩
 have e2 : IntKind.i64.wrap (k * (varsA a + 1)) = k * (varsA a + 1) := zb (by omega) (by omega)
 refine ze tabOk Tryz.func51 rfl trivial (z3j a h) (.refl _) rfl ⟨_, rfl⟩ (by rintro r o rfl; rfl) ?_
 rintro _ o rfl
 refine z7 tabOk Tryz.func51 rfl trivial ?_
 show vI .i64 (IntKind.i64.wrap (k * IntKind.i64.wrap (varsA a + 1))) = _
 rw [e1, e2]
structure AcM (a : Ag) (c : Ct) : Prop where
 b : AcB a c
 m : AgM a
 l0 : ∀ s ∈ c.p0, s.2.1.length ≤ maxLen
 l1 : ∀ s ∈ c.p1, s.2.1.length ≤ maxLen
 l2 : ∀ s ∈ c.p2, s.2.1.length ≤ maxLen
theorem zg1 (a : Ag) (c : Ct) (h : AcM a c) : ACall Tryz.prog 19 [.d (eAg a), .d (eCt c)] [] (fun r o => r = vB (z2z a c)) := by
 refine za Tryz.func19 rfl rfl (Nat.le_of_ble_eq_true rfl) fun C hC hCl hDs hGk => ?_
 have hrc : z2z a c = (decide (c.g.length ≤ 20000) && z2i (zk a c) && decide (0 ≤ c.inv ∧ c.inv ≤ 2 * varsA (zk a c) + 1) && !(z3y (zk a c) c.inv) && z1l (varsA (zk a c) + 1) c.p0 && z1l (2 * (varsA (zk a c) + 1)) c.p1 && z1l (varsA (zk a c) + 1) c.p2) := rfl
 rw [hrc]
 refine z6 tabOk Tryz.func19 rfl trivial (fun h1 => ?_) (fun h1 => ?_)
 ·have h1 : decide ((((c.g.map eP2).length : Nat) : Int) > 20000) = true := h1
  rw [decide_eq_true_eq, List.length_map] at h1
  refine z7 tabOk Tryz.func19 rfl trivial ?_
  rw [decide_eq_false (show ¬ c.g.length ≤ 20000 by omega)]
  rfl
 have h1 : decide ((((c.g.map eP2).length : Nat) : Int) > 20000) = false := h1
 rw [decide_eq_false_iff_not, List.length_map] at h1
 rw [decide_eq_true (show c.g.length ≤ 20000 by omega), Bool.true_and]
 refine ze tabOk Tryz.func19 rfl trivial (zbc a c h.b.ag h.b.cg) (.refl _) rfl ⟨_, rfl⟩ (by rintro r o rfl; rfl) ?_
 rintro _ o rfl
 have hRc := za3 (zk a c) ⟨h.m.outs, h.m.bad, h.m.con⟩ h.m.s
 generalize zk a c = g at *
 refine ze tabOk Tryz.func19 rfl trivial hRc (.refl _) rfl ⟨_, rfl⟩ (by rintro r o rfl; rfl) ?_
 rintro _ o rfl
 cases hR : z2i g with
 | false =>
  refine zp 14 tabOk Tryz.func19 rfl rfl trivial (by kernel_rfl) ?_
  repeat refine z12 tabOk rfl trivial (fun _ => ?_) (fun h => by cases h)
  refine zo tabOk rfl trivial ?_
  repeat refine z6 tabOk Tryz.func19 rfl trivial (fun _ => ?_) (fun h => by cases h)
  exact z7 tabOk Tryz.func19 rfl trivial rfl
 | true =>
 rw [Bool.true_and]
 have hB := z6t hR
 have hA := z13.1 hR
 have hv := z1z hB
 have hv1 := hA.v1
 refine zp 14 tabOk Tryz.func19 rfl rfl trivial (by kernel_rfl) ?_
 refine z12 tabOk rfl trivial (fun h => by cases h) (fun _ => ?_)
 refine z12 tabOk rfl trivial (fun h2 => ?_) (fun h2 => ?_)
 ·have h2 : decide (c.inv < 0) = true := h2
  rw [decide_eq_true_eq] at h2
  rw [decide_eq_false (show ¬ (0 ≤ c.inv ∧ c.inv ≤ 2 * varsA g + 1) by omega)]
  repeat refine z12 tabOk rfl trivial (fun _ => ?_) (fun h => by cases h)
  refine zo tabOk rfl trivial ?_
  repeat refine z6 tabOk Tryz.func19 rfl trivial (fun _ => ?_) (fun h => by cases h)
  exact z7 tabOk Tryz.func19 rfl trivial rfl
 have h2 : decide (c.inv < 0) = false := h2
 rw [decide_eq_false_iff_not] at h2
 have e1 : IntKind.i64.wrap (2 * varsA g) = 2 * varsA g := zb (by omega) (by omega)
 have e2 : IntKind.i64.wrap (2 * varsA g + 1) = 2 * varsA g + 1 := zb (by omega) (by omega)
 repeat refine z12 tabOk rfl trivial (fun h => by cases h) (fun _ => ?_)
 refine zv tabOk rfl trivial (z3j g hB) (zf Tryz.func35 rfl rfl) (by rintro r o rfl; rfl) (.refl _) rfl rfl ⟨_, rfl⟩ ?_
 refine zo tabOk rfl trivial ?_
 refine z6 tabOk Tryz.func19 rfl trivial (fun h3 => ?_) (fun h3 => ?_)
 ·have h3 : decide (c.inv > IntKind.i64.wrap (IntKind.i64.wrap (2 * varsA g) + 1)) = true := h3
  rw [e1, e2, decide_eq_true_eq] at h3
  rw [decide_eq_false (show ¬ (0 ≤ c.inv ∧ c.inv ≤ 2 * varsA g + 1) by omega)]
  exact z7 tabOk Tryz.func19 rfl trivial rfl
 have h3 : decide (c.inv > IntKind.i64.wrap (IntKind.i64.wrap (2 * varsA g) + 1)) = false := h3
 rw [e1, e2, decide_eq_false_iff_not] at h3
 rw [decide_eq_true (show 0 ≤ c.inv ∧ c.inv ≤ 2 * varsA g + 1 by omega), Bool.true_and]
 have e3 : IntKind.i64.wrap (2 * (varsA g + 1)) = 2 * (varsA g + 1) := zb (by omega) (by omega)
 have hVc := za2 g 1 hB (by decide)
 rw [Int.one_mul] at hVc
 refine ze tabOk Tryz.func19 rfl trivial hVc (.refl _) rfl ⟨_, rfl⟩ (by rintro r o rfl; rfl) ?_
 rintro _ o rfl
 refine ze tabOk Tryz.func19 rfl trivial (z7x (varsA g + 1) c.p0 h.l0) (.refl _) rfl ⟨_, rfl⟩ (by rintro r o rfl; rfl) ?_
 rintro _ o rfl
 refine ze tabOk Tryz.func19 rfl trivial (z7x (2 * (varsA g + 1)) c.p1 h.l1) ⟨.of (congrArg (fun z => vI .i64 z) e3), .refl _, trivial⟩ rfl ⟨_, rfl⟩ (by rintro r o rfl; rfl) ?_
 rintro _ o rfl
 refine ze tabOk Tryz.func19 rfl trivial (z7x (varsA g + 1) c.p2 h.l2) (.refl _) rfl ⟨_, rfl⟩ (by rintro r o rfl; rfl) ?_
 rintro _ o rfl
 refine ze tabOk Tryz.func19 rfl trivial (zi0 g c.inv hB hA.gat ⟨by omega, by omega⟩) (.refl _) rfl ⟨_, rfl⟩ (by rintro r o rfl; rfl) ?_
 rintro _ o rfl
 generalize z1l (varsA g + 1) c.p0 = x
 generalize z1l (2 * (varsA g + 1)) c.p1 = y
 generalize z1l (varsA g + 1) c.p2 = z
 generalize z3y g c.inv = w
 cases x with
 | false =>
  repeat refine z6 tabOk Tryz.func19 rfl trivial (fun h => by cases h) (fun _ => ?_)
  refine z7 tabOk Tryz.func19 rfl trivial ?_
  cases y <;> cases z <;> cases w <;> rfl
 | true =>
 refine z6 tabOk Tryz.func19 rfl trivial (fun _ => ?_) (fun h => by cases h)
 cases y with
 | false =>
  repeat refine z6 tabOk Tryz.func19 rfl trivial (fun h => by cases h) (fun _ => ?_)
  refine z7 tabOk Tryz.func19 rfl trivial ?_
  cases z <;> cases w <;> rfl
 | true =>
 refine z6 tabOk Tryz.func19 rfl trivial (fun _ => ?_) (fun h => by cases h)
 cases z with
 | false =>
  repeat refine z6 tabOk Tryz.func19 rfl trivial (fun h => by cases h) (fun _ => ?_)
  refine z7 tabOk Tryz.func19 rfl trivial ?_
  cases w <;> rfl
 | true =>
 refine z6 tabOk Tryz.func19 rfl trivial (fun _ => ?_) (fun h => by cases h)
 refine z7 tabOk Tryz.func19 rfl trivial ?_
 cases w <;> rfl
@[reducible] def pErC (e : Int) : AObj := .cells 34 [vI .i64 e]
@[reducible] def pAtC (a : Int) : AObj := .cells 3 [vI .i64 a]
@[reducible] def pCsC : List AV := [.ptr 1 0, .ptr 2 0, .ptr 3 0]
@[reducible] def pOb (a e : Int) : List (Option AObj) := [none, some zCt, some (pAtC a), some (pErC e)]
theorem z94 (at_ e : Int) : ACatch Tryz.prog 58 pCsC (pOb 0 0) (wrC at_ e) (pOb at_ e) := by
 refine zix Tryz.func58 rfl rfl rfl rfl rfl rfl (by decide) (by decide) fun C hC hCl hDs hGk => ?_
 refine z6 tabOk Tryz.func58 rfl trivial (fun h => by cases h) (fun _ => ?_)
 refine zj 5 tabOk Tryz.func58 rfl trivial ?_
 refine zl6 rfl rfl rfl rfl (d := .struct _) rfl rfl rfl ?_
 refine z57 7 0 [(5, none), (6, none)] (fun L => [none, some zCt, some (pk 6 L (pAtC at_) (pAtC 0)), some (pErC 0), some (.cells 114 [vI .i64 at_, vI .i64 e])]) _
  (objsF := [none, some zCt, some (pAtC at_), some (pErC 0), some (.cells 114 [vI .i64 at_, vI .i64 e])]) tabOk Tryz.func58 rfl rfl trivial (by kernel_rfl) (by kernel_rfl) ?_ ?_ ?_ rfl (fun L => zo tabOk rfl trivial rfl) ?_ ?_
 ·rfl
 ·intro L hL
  simp only [zjm (hL 6 (by decide))]
 ·intro j L hb
  simp only [actB, List.any_cons, List.any_nil, Bool.or_false, Bool.or_eq_false_iff] at hb
  have n2 := Nat.ne_of_beq_eq_false hb.2
  simp only [pk_ne (fun e => n2 e.symm)]
 ·refine List.forall_mem_cons.2 ⟨⟨_, rfl, rfl, ?_⟩, List.forall_mem_cons.2 ⟨⟨_, rfl, rfl, ?_⟩, fun x h => by cases h⟩⟩
  ·refine z9k (a := .dead) (c := none) tabOk rfl (fun _ _ _ h => h) (fun L hL => ?_) trivial rfl
   simp only [pk_ne (show (5 : Nat) ≠ 6 by decide)]
   rfl
  ·refine z9k (a := .dead) (c := none) tabOk rfl (fun _ _ _ h => h) (fun L hL => ?_) trivial rfl
   simp only [ze8, pk_no hL]
   rfl
 exact zq tabOk Tryz.func58 rfl trivial hC hCl (.refl _) (o2 := pOb at_ e) ⟨.refl _, .refl _, .refl _, trivial⟩ rfl rfl (Nat.le_refl _) rfl
theorem zh9 (caps : Array Value) (w : World) (hw : Globals.tb Tryz.prog w) (hcs : caps.size ≤ 15) : CallsD Tryz.prog 58 caps .returning w fun e u' w' => (∃ v, e = .returned v) ∧ u' = .returning ∧ Later w w' := by
 refine ziw Tryz.func58 rfl rfl rfl rfl rfl rfl (by decide) (fun C hC hCl hDs hGk => ?_) caps hcs w hw
 refine z6 tabOk Tryz.func58 rfl trivial (fun _ => ?_) (fun h => by cases h)
 exact z7 tabOk Tryz.func58 rfl trivial trivial
def cparA (q : PR Ct) : AV := match q with
 | .inl (a, e) => tupOf [.d (eCt ⟨[], 0, [], [], []⟩), vI .i64 a, vI .i64 e]
 | .inr (c, p) => tupOf [.d (eCt c), vI .i64 p, vI .i64 0]
@[reducible] def zte (q : PR Ct) : AV := match q with
 | .inl (a, e) => tupOf [.d (.ag [nilD, eI 0, nilD, nilD, nilD]), vI .i64 a, vI .i64 e]
 | .inr (c, p) => tupOf [.d (eCt c), vI .i64 p, vI .i64 0]
@[reducible] def pOv (a : Ag) (b : List UInt8) (c : Ct) (p : Int) (vh : Value) : List (Option AObj) := [some (bAg a), some (.cells 31 [.d (eP2s c.g), .d (eI c.inv), .d (eSps c.p0), .d (eSps c.p1), .d (eSps c.p2)]), some (pAtC 0), some (pErC 0), some (.hold (.fn (.func 58) pCsC) vh), some (.cells 117 [.d (eBy b), vI .i64 p])]
theorem zhd (a : Ag) (b : List UInt8) (ha : RightA a) (hb : b.length ≤ 1000000) : ACall Tryz.prog 23 [.d (eAg a), .d (eBy b)] [] (fun r o => r = zte (certP a b)) := by
 refine za Tryz.func23 rfl rfl (Nat.le_of_ble_eq_true rfl) fun C hC hCl hDs hGk => ?_
 refine zj 11 tabOk Tryz.func23 rfl trivial ?_
 refine zl3 rfl rfl rfl rfl rfl (fun d vh hoff => ?_)
 obtain ⟨C', hC'⟩ : ∃ C', { C with ds := d :: C.ds } = C' := ⟨_, rfl⟩
 have hD : C'.ds = [d] := by rw [← hC', hDs]
 have hCo : C'.objs = [] := by rw [← hC']; exact hC
 have hCl' : C'.π.length = C'.objs.length := by rw [← hC']; exact hCl
 have hGk' : GOk Tryz.prog C'.π C'.objs C'.w := by rw [← hC']; exact hGk
 rw [hC']
 clear hC' hDs hCl hC hGk
 have hen : ∀ args w, (callFunc 58 args).run Tryz.prog w = .ok (.enter 58 args) w := zf Tryz.func58 rfl rfl
 have hof : OffV 58 vh d := hoff
 unfold certP
 refine z6 tabOk Tryz.func23 rfl trivial (fun h => ?_) (fun h => ?_)
 ·have h : 100000 < b.length := by
   have h : decide ((((b.map eU8).length : Nat) : Int) > 100000) = true := h
   rw [decide_eq_true_eq, List.length_map] at h
   omega
  refine zj 6 tabOk Tryz.func23 rfl trivial ?_
  refine zl0 (m := 4) (o2 := pOb 0 0) (env2 := [(4, .ptr 1 0), (5, .ptr 2 0), (6, .ptr 3 0)]) tabOk Tryz.func23 rfl rfl rfl rfl hD hof hen rfl (z94 0 3) ⟨.refl _, .refl _, .refl _, trivial⟩ rfl rfl hCo (Nat.zero_le _) hCl' ⟨⟨_, rfl, .refl _⟩, ⟨_, rfl, .refl _⟩, ⟨_, rfl, .refl _⟩, trivial⟩ rfl rfl ?_
  rw [if_pos h]
  rfl
 have h : ¬ 100000 < b.length := by
  have h : decide ((((b.map eU8).length : Nat) : Int) > 100000) = false := h
  rw [decide_eq_false_iff_not, List.length_map] at h
  omega
 rw [if_neg h]
 refine zl4 [5] (m := 4) (o2 := pOb 0 0) (env2 := [(4, .ptr 1 0), (5, .ptr 2 0), (6, .ptr 3 0)]) tabOk Tryz.func23 rfl trivial hD hof hen (fun o => rfl) (fun o => ⟨.refl _, .refl _, .refl _, trivial⟩) rfl rfl hCo (Nat.zero_le _) hCl' ⟨⟨_, rfl, .refl _⟩, ⟨_, rfl, .refl _⟩, ⟨_, rfl, .refl _⟩, trivial⟩ rfl ?_ (zm8 a b ha hb) ⟨⟨_, rfl, .refl _⟩, trivial⟩ (.refl _) rfl rfl rfl ⟨_, rfl⟩ ?_
 ·rintro x ⟨p, e, hx, rfl⟩
  refine ⟨_, _, z94 p e, rfl, ?_⟩
  rw [hx]
  rfl
 rintro r o ⟨c, p, hx, rfl, rfl⟩
 rw [hx]
 refine z57 6 0 [(5, none)] (fun L => pOv a b c p vh) _ (objsF := pOv a b c p vh) tabOk Tryz.func23 rfl rfl trivial (by kernel_rfl) (by kernel_rfl) rfl (fun _ _ => rfl) (fun _ _ _ => rfl) rfl (fun L => zo tabOk rfl trivial rfl) ?_ ?_
 ·refine List.forall_mem_cons.2 ⟨⟨_, rfl, rfl, ?_⟩, fun x h => by cases h⟩
  refine z9k (a := .dead) (c := none) tabOk rfl (fun _ _ _ h => h) (fun L hL => ?_) trivial rfl
  rfl
 refine zqd (m := 4) hD hof hen rfl (fun caps w hw hs => zh9 caps w hw (by rw [hs]; decide)) tabOk Tryz.func23 rfl trivial ?_
 rfl
theorem zj0 (a : Ag) (b : List UInt8) (ha : RightA a) (hb : b.length ≤ 1000000) : ACall Tryz.prog 23 [.d (eAg a), .d (eBy b)] [] (fun r o => r = cparA (certP a b)) := by
 refine (zhd a b ha hb).less ?_
 rintro r o rfl
 refine ⟨_, [], rfl, ?_, trivial, ?_, rfl, Nat.le_refl _⟩
 ·cases certP a b with
  | inl x => exact .tp ⟨.dag ⟨dnil2, .refl _, dnil2, dnil2, dnil2, trivial⟩, .refl _, .refl _, trivial⟩
  | inr x => exact .refl _
 ·cases certP a b <;> rfl
theorem zj1 (n : Nat) (h1 : 1 ≤ n) (hn : n ≤ 1000000) (rd : Nat → D) : ACall Tryz.prog 164 [.d (.v (.slice none 0 0)), vI .i64 (n : Int)] [] (fun r o => r = .gs 0 ∧ o = [some (.grow 3 1 [] rd)]) := by
 intro X π w us hgk m hv
 refine .inl ⟨zf Tryz.func164 rfl rfl _ _, ?_⟩
 cases hv with | cons hv ht => cases ht with | cons hv2 ht => cases ht with | nil =>
 cases hv with | d hv => cases hv with | v _ =>
 cases hv2 with | d hv2 => cases hv2 with | v _ =>
 obtain rfl : π = [] := List.length_eq_zero_iff.1 m.len
 obtain ⟨i0, hi0, hz0, hs0, hb0⟩ : ∃ i0, Tryz.prog.info? (Tryz.growL_ren.t 25) = some i0 ∧ i0.zero = some (Value.int .i64 0) ∧ i0.size = 1 ∧ i0.bytes = 8 := by
  have h : (Tryz.prog.info? (Tryz.growL_ren.t 25)).map (fun i => (i.zero, i.size, i.bytes)) = some (some (Value.int .i64 0), 1, 8) := by kernel_rfl
  cases hi : Tryz.prog.info? (Tryz.growL_ren.t 25) with
  | none => rw [hi] at h; cases h
  | some i =>
   rw [hi] at h
   simp only [Option.map_some, Option.some.injEq, Prod.mk.injEq] at h
   exact ⟨i, rfl, h.1, h.2.1, h.2.2⟩
 have hcall := Any8.slices_Grow_grow Tryz.growL i0 (Value.int .i64 0) hi0 hz0 (by omega) none 0 0 n [] w (Nat.le_refl _) (by omega) (by rw [hb0]; omega) (by omega) (by simp) (fun _ => rfl) (fun a e => by cases e)
 refine Calls.mono hcall ?_
 rintro e w' ⟨rfl, rfl⟩
 have hG1 := grownCap_ge w (0 + n) 0 (Tryz.growL_ren.t 25)
 have hG2 := grownCap_le_maxLen w (0 + n) 0 (Tryz.growL_ren.t 25) (by have hml : maxLen = 9223372036854775807 := rfl; omega)
 generalize grownCap w (0 + n) 0 (Tryz.growL_ren.t 25) = G at *
 obtain ⟨c, rfl⟩ : ∃ c, G = c + 1 := ⟨G - 1, by omega⟩
 generalize hA : (#[] ++ Builtin.zeroCells (Value.int .i64 0).cells (0 + n - 0) ++ Builtin.zeroCells (Value.int .i64 0).cells (c + 1 - (0 + n)) : Array Value) = A
 have hAs : A.size = (c + 1) * 1 := by
  rw [← hA]
  simp only [Array.size_append, z2a]
  show 0 + (0 + n - 0) * 1 + (c + 1 - (0 + n)) * 1 = (c + 1) * 1
  omega
 obtain ⟨A⟩ := A
 have hAs : A.length = (c + 1) * 1 := hAs
 have hnew : (w.drew.alloc (.cells A.toArray (Tryz.growL_ren.t 25))).heap[w.heap.size]? = some (.cells A.toArray 3 (0, 0)) := by
  show (w.heap.push _)[w.heap.size]? = _
  simp
  rfl
 have t := z2n (w' := w.drew.alloc (.cells A.toArray (Tryz.growL_ren.t 25))) m rfl rfl ⟨rfl, zy (Nat.le_succ _)⟩ (by show w.heap.size ≤ (w.heap.push _).size; simp) (fun b hb => z17 _ hb) (.slice (some ⟨w.heap.size, 0, none⟩) 0 (c + 1)) (.grow 3 1 [] rd)
  (by intro b e; cases e; exact Nat.le_refl _)
  (.grow (xs := []) (us := []) hnew (fun i _ h => by omega) .nil (fun i h => absurd h (Nat.not_lt_zero i)) (Nat.zero_le _) hG2 (by rw [hAs]; omega) (fun i h => absurd h (Nat.not_lt_zero i)))
 exact ⟨_, _, _, _, rfl, ⟨rfl, rfl⟩, t.mem, .gs rfl, t.hist⟩
theorem zhe : ACall Tryz.prog 164 [.d (.v (.slice none 0 0)), vI .i64 0] [] (fun r o => r = .d (.v (.slice none 0 0))) :=
 z3t (fun _ _ => Nat.le_refl _) rfl (vs := [.slice none 0 0, .int .i64 0]) (fun w ok π us h => by
  cases h with | cons h1 h => cases h with | cons h2 h => cases h with | nil =>
  cases h1 with | d h1 => cases h1 with | v _ => cases h2 with | d h2 => cases h2 with | v _ => rfl) (fun args w => zf Tryz.func164 rfl rfl args w) fun w ht => (Any8.slices_Grow_room Tryz.growL none 0 0 0 w (Nat.le_refl _) (by omega) (by omega) (by omega)).mono fun e w' ⟨he, hw⟩ => ⟨he, hw ▸ ⟨rfl, rfl, rfl, Nat.le_refl _, fun b hb => rfl⟩⟩
@[reducible] def cIEs (l : List (Int)) : D := eL 1 eI 0 l
@[reducible] def cIEss (l : List (List (Int))) : D := eL 1 cIEs [] l
theorem zma (L : List (List (Int))) (hLl : L.length ≤ 5) (hrow : ∀ r ∈ L, r.length ≤ 100000) : ACall Tryz.prog 145 [.d (cIEss L)] [] (fun r o => r = .d (cIEs L.flatten)) := by
 refine za Tryz.func145 rfl rfl (Nat.le_of_ble_eq_true rfl) fun C hC hCl hDs hGk => ?_
 refine z8 tabOk Tryz.func145 rfl trivial ?_
 have rows : ∀ i : Nat, i < L.length → (L.getD i []).length ≤ 100000 := fun i hi => by
  rw [show L.getD i [] = L[i] by simp [hi]]
  exact hrow _ (List.getElem_mem hi)
 have hsum : ∀ i : Nat, i < L.length → (L.take (i + 1)).flatten = (L.take i).flatten ++ L.getD i [] := fun i hi => by
  rw [List.take_succ_eq_append_getElem hi, List.flatten_append, show L.getD i [] = L[i] by simp [hi]]
  simp
 have hle : ∀ i : Nat, i ≤ L.length → (L.take i).flatten.length ≤ 100000 * i := by
  intro i
  induction i with
  | zero => simp
  | succ i ih =>
   intro hi
   rw [hsum i (by omega), List.length_append]
   have h1 := rows i (by omega)
   have h2 := ih (by omega)
   omega
 refine zh (α := Nat) (fun i => [(0, .d (cIEss L)), (9, .d (cIEss L)), (10, vI .i64 (L.length : Int)), (11, vI .i64 (i : Int)), (3, vI .i64 (((L.take i).flatten.length : Nat) : Int))]) (fun i => []) (fun i => i ≤ L.length) (fun i => L.length - i) 0 (Nat.zero_le _) ?_ ?_
 ·exact fun h => zg h hC hCl ⟨⟨_, rfl, .refl _⟩, ⟨_, rfl, .refl _⟩, ⟨_, rfl, .of (by rw [List.length_map])⟩, ⟨_, rfl, .refl _⟩, ⟨_, rfl, .of (by simp)⟩, trivial⟩ trivial rfl rfl (Nat.zero_le _)
 rintro i hi ih
 refine z6 tabOk Tryz.func145 rfl trivial (fun h => ?_) (fun h => ?_)
 ·have h : decide ((i : Int) < (L.length : Int)) = true := h
  rw [decide_eq_true_eq] at h
  have h1 := rows i (by omega)
  have h2 := hsum i (by omega)
  have h3 := hle i hi
  have hw : IntKind.i64.wrap ((((L.take i).flatten.length : Nat) : Int) + ((((L.getD i []).map eI).length : Nat) : Int)) = (((L.take (i + 1)).flatten.length : Nat) : Int) := by
   rw [h2, List.length_append, List.length_map, zb (by omega) (by omega)]
   omega
  refine z6 tabOk Tryz.func145 rfl ?nd (fun h4 => ?_) (fun h4 => ?_)
  case nd => exact ⟨⟨by omega, by rw [List.length_map]; omega⟩, trivial⟩
  ·have h4 : decide (IntKind.i64.wrap ((((L.take i).flatten.length : Nat) : Int) + ((((L.getD i []).map eI).length : Nat) : Int)) < 0) = true := h4
   rw [hw, decide_eq_true_eq] at h4
   omega
  refine z8 tabOk Tryz.func145 rfl trivial ?_
  exact zg (ih (i + 1) (by omega) (by omega)) hC hCl ⟨⟨_, rfl, .refl _⟩, ⟨_, rfl, .refl _⟩, ⟨_, rfl, .refl _⟩, ⟨_, rfl, .of (by rw [zb (by omega) (by omega)]; rfl)⟩, ⟨_, rfl, .of (by rw [← hw]; rfl)⟩, trivial⟩ trivial rfl rfl (Nat.zero_le _)
 have h : decide ((i : Int) < (L.length : Int)) = false := h
 rw [decide_eq_false_iff_not] at h
 obtain rfl : i = L.length := by omega
 have hf : (L.take L.length).flatten = L.flatten := by rw [List.take_length]
 have hT := hle L.length (Nat.le_refl _)
 apply letK (p := ASat Tryz.prog 145 Tryz.f145.ntmps C _ [(25, .d (cIEss L)), (26, vI .i64 (L.length : Int)), (27, vI .i64 0), (6, .gs 0)] [some (.grow 3 1 (([] : List (Int)).map eI) (fun i => eI (([] : List (Int)).getD i 0)))] (fun r o => r = .d (cIEs L.flatten)))
 ·intro key
  by_cases hz : (L.take L.length).flatten.length = 0
  ·refine ze tabOk Tryz.func145 rfl trivial zhe ⟨.refl _, .of (by rw [hz]; rfl), trivial⟩ rfl ⟨_, rfl⟩ (by rintro r o rfl; rfl) ?_
   rintro _ o rfl
   refine z8 tabOk Tryz.func145 rfl trivial ?_
   refine z2w (t := 6) (e := 3) (s := 1) (.inl rfl) (fun i => eI (([] : List (Int)).getD i 0)) ?_
   exact zg key hC hCl ⟨⟨_, rfl, .refl _⟩, ⟨_, rfl, .of (by rw [List.length_map])⟩, ⟨_, rfl, .refl _⟩, ⟨_, rfl, .refl _⟩, trivial⟩ ⟨.refl _, trivial⟩ rfl rfl (Nat.zero_le _)
  ·refine zn [] tabOk Tryz.func145 rfl trivial (zj1 (L.take L.length).flatten.length (by omega) (by omega) (fun i => eI (([] : List (Int)).getD i 0))) trivial (.refl _) rfl rfl rfl ⟨_, rfl⟩ ?_
   rintro _ o ⟨rfl, rfl⟩
   refine z8 tabOk Tryz.func145 rfl trivial ?_
   exact zg key hC hCl ⟨⟨_, rfl, .refl _⟩, ⟨_, rfl, .of (by rw [List.length_map])⟩, ⟨_, rfl, .refl _⟩, ⟨_, rfl, .refl _⟩, trivial⟩ ⟨.refl _, trivial⟩ rfl rfl (Nat.zero_le _)
 refine zh (α := Nat) (fun i => [(25, .d (cIEss L)), (26, vI .i64 (L.length : Int)), (27, vI .i64 (i : Int)), (6, .gs 0)]) (fun i => [some (.grow 3 1 ((L.take i).flatten.map eI) (fun j => eI ((L.take i).flatten.getD j 0)))]) (fun i => i ≤ L.length) (fun i => L.length - i) 0 (Nat.zero_le _) ?_ ?_
 ·exact fun h => zg h hC hCl ⟨⟨_, rfl, .refl _⟩, ⟨_, rfl, .refl _⟩, ⟨_, rfl, .refl _⟩, ⟨_, rfl, .refl _⟩, trivial⟩ ⟨.of (by simp), trivial⟩ rfl rfl (Nat.zero_le _)
 rintro i hi ih
 refine z6 tabOk Tryz.func145 rfl trivial (fun h => ?_) (fun h => ?_)
 ·have h : decide ((i : Int) < (L.length : Int)) = true := h
  rw [decide_eq_true_eq] at h
  have h1 := rows i (by omega)
  have h2 := hsum i (by omega)
  have h3 := hle i hi
  refine z8 tabOk Tryz.func145 rfl ?nd ?_
  case nd =>
   refine ⟨?_, ⟨by omega, by rw [List.length_map]; omega⟩, trivial⟩
   rw [List.length_map, List.length_map, Int.toNat_natCast]
   show ((L.take i).flatten.length + (L.getD i []).length) * 8 ≤ _
   omega
  refine zg (ih (i + 1) (by omega) (by omega)) hC hCl ⟨⟨_, rfl, .refl _⟩, ⟨_, rfl, .refl _⟩, ⟨_, rfl, .of (by rw [zb (by omega) (by omega)]; rfl)⟩, ⟨_, rfl, .refl _⟩, trivial⟩ ⟨.grow ?_ (z2r eI 0 _), trivial⟩ rfl rfl (Nat.zero_le _)
  rw [h2, List.map_append]
  rfl
 have h : decide ((i : Int) < (L.length : Int)) = false := h
 rw [decide_eq_false_iff_not] at h
 obtain rfl : i = L.length := by omega
 refine zw 0 rfl ?_
 refine z7 tabOk Tryz.func145 rfl trivial ?_
 rw [hf]
 rfl
theorem zcd (a : Ag) (n k : Nat) (l : Int) (h : AgB a) (hn : varsA a = (n : Int)) (hk : k ≤ 1000) (hl : 0 ≤ l ∧ l ≤ 1000000000000) : ACall Tryz.prog 144 [.d (eAg a), vI .i64 (k : Int), vI .i64 l] [] (fun r o => r = vI .i64 (litF n k l)) := by
 refine za Tryz.func144 rfl rfl (Nat.le_of_ble_eq_true rfl) fun C hC hCl hDs hGk => ?_
 have hv := z1z h
 have hp : 0 ≤ (k : Int) * ((n : Int) + 1) ∧ (k : Int) * ((n : Int) + 1) ≤ 1000 * 3000001 := ⟨Int.mul_nonneg (by omega) (by omega), Int.mul_le_mul (by omega) (by omega) (by omega) (by decide)⟩
 have hq : Int.tdiv l 2 = l / 2 := Int.tdiv_eq_ediv_of_nonneg hl.1
 have hr : Int.tmod l 2 = l % 2 := Int.tmod_eq_emod_of_nonneg hl.1
 unfold litF
 refine ze tabOk Tryz.func144 rfl trivial (z9p a (k : Int) h (by omega)) (.refl _) rfl ⟨_, rfl⟩ (by rintro r o rfl; rfl) ?_
 rintro _ o rfl
 rw [hn]
 generalize (k : Int) * ((n : Int) + 1) = K at *
 have e1 : IntKind.i64.wrap (Int.tdiv l 2) = l / 2 := by rw [hq, zb (by omega) (by omega)]
 have e2 : IntKind.i64.wrap (K + l / 2) = K + l / 2 := zb (by omega) (by omega)
 have e3 : IntKind.i64.wrap (K + l / 2 + 1) = K + l / 2 + 1 := zb (by omega) (by omega)
 have e5 : IntKind.i64.wrap (0 - (K + l / 2 + 1)) = -(K + l / 2 + 1) := by
  rw [Int.zero_sub]
  exact zb (by omega) (by omega)
 refine z6 tabOk Tryz.func144 rfl ⟨by decide, by decide, trivial⟩ (fun hb => ?_) (fun hb => ?_)
 ·have hb : (Int.tmod l 2 == 1) = true := hb
  rw [hr, beq_iff_eq] at hb
  rw [if_pos hb]
  refine z7 tabOk Tryz.func144 rfl trivial ?_
  show vI .i64 (IntKind.i64.wrap (0 - (IntKind.i64.wrap (IntKind.i64.wrap (K + IntKind.i64.wrap (Int.tdiv l 2)) + 1)))) = _
  rw [e1, e2, e3, e5]
 ·have hb : (Int.tmod l 2 == 1) = false := hb
  rw [hr, beq_eq_false_iff_ne] at hb
  rw [if_neg hb]
  refine z7 tabOk Tryz.func144 rfl trivial ?_
  show vI .i64 (IntKind.i64.wrap (IntKind.i64.wrap (K + IntKind.i64.wrap (Int.tdiv l 2)) + 1)) = _
  rw [e1, e2, e3]
@[reducible] def gIc (l : List Int) : AObj := gL 3 1 eI 0 l
theorem zot {α : Type} (pre : List α) (z : α) (i : Nat) (hi : i < pre.length) : (pre.take i ++ List.replicate (pre.length - i) z).set i pre[i] = pre.take (i + 1) ++ List.replicate (pre.length - (i + 1)) z := by
 apply List.ext_getElem?
 intro j
 have hl : (pre.take i).length = i := by simp; omega
 have hl1 : (pre.take (i + 1)).length = i + 1 := by simp; omega
 rw [List.getElem?_set]
 by_cases e : i = j
 ·subst e
  rw [if_pos rfl, if_pos (by simp; omega), List.getElem?_append_left (by omega)]
  simp [hi]
 ·rw [if_neg e]
  rcases Nat.lt_or_ge j i with h | h
  ·rw [List.getElem?_append_left (by omega), List.getElem?_append_left (by omega)]
   simp [List.getElem?_take, h, Nat.lt_succ_of_lt h]
  ·rw [List.getElem?_append_right (by omega), List.getElem?_append_right (by omega), hl, hl1]
   rw [List.getElem?_replicate, List.getElem?_replicate]
   by_cases h2 : j < pre.length
   ·rw [if_pos (by omega), if_pos (by omega)]
   ·rw [if_neg (by omega), if_neg (by omega)]
theorem z29 (a : Ag) (n k : Nat) (l : List Int) (h : AgB a) (hn : varsA a = (n : Int)) (hk : k ≤ 1000) (hl : ∀ x ∈ l, 0 ≤ x ∧ x ≤ 1000000000000) (hll : l.length ≤ 1000) : ACall Tryz.prog 109 [.d (eAg a), vI .i64 (k : Int), .d (eIs l)] [] (fun r o => r = .d (eIs (l.map (litF n k)))) := by
 refine za Tryz.func109 rfl rfl (Nat.le_of_ble_eq_true rfl) fun C hC hCl hDs hGk => ?_
 generalize hO : l.map (litF n k) = out
 have hol : out.length = l.length := by rw [← hO, List.length_map]
 refine z8 tabOk Tryz.func109 rfl ?nd ?_
 case nd =>
  rw [List.length_map]
  exact ⟨⟨by omega, Int.le_refl _, by show (l.length : Int) * 8 ≤ 281474976710656; omega⟩, trivial⟩
 refine zh (α := Nat) (fun i => [(1, vI .i64 (k : Int)), (3, .ptr 0 0), (7, .gs 1), (13, .d (eIs l)), (14, vI .i64 (l.length : Int)), (15, vI .i64 (i : Int))]) (fun i => [some (.cells 27 (AV.d (eAg a)).cells), some (gIc (out.take i ++ List.replicate (out.length - i) 0))]) (fun i => i ≤ l.length) (fun i => l.length - i) 0 (Nat.zero_le _) ?_ ?_
 ·refine fun h => zg h hC hCl ⟨⟨_, rfl, .refl _⟩, ⟨_, rfl, .refl _⟩, ⟨_, rfl, .refl _⟩, ⟨_, rfl, .refl _⟩, ⟨_, rfl, .of (by rw [List.length_map])⟩, ⟨_, rfl, .refl _⟩, trivial⟩ ⟨.refl _, .gL ?_, trivial⟩ rfl rfl (Nat.zero_le _)
  rw [List.length_map, Int.toNat_natCast, List.take_zero, List.nil_append, Nat.sub_zero, hol, List.map_replicate]
  rfl
 rintro i hi ih
 refine z6 tabOk Tryz.func109 rfl trivial (fun hb => ?_) (fun hb => ?_)
 ·have hb : decide ((i : Int) < (l.length : Int)) = true := hb
  rw [decide_eq_true_eq] at hb
  have hlt : i < l.length := by omega
  have hx := hl (l.getD i 0) (by rw [List.getD_eq_getElem?_getD, List.getElem?_eq_getElem hlt]; exact List.getElem_mem _)
  have hset := zot out 0 i (by omega)
  have hoi : out[i]'(by omega) = litF n k (l.getD i 0) := by
   subst hO
   rw [List.getElem_map, List.getD_eq_getElem?_getD, List.getElem?_eq_getElem hlt]
   rfl
  rw [hoi] at hset
  refine ze tabOk Tryz.func109 rfl ?_ (zcd a n k (l.getD i 0) h hn hk hx) (.refl _) rfl ⟨_, rfl⟩ (by rintro r o rfl; rfl) ?_
  ·exact (by simp only [andP, and_true, true_and, Int.toNat_natCast, List.length_map, List.length_append, List.length_cons, List.length_nil, List.length_replicate]; omega)
  rintro _ o rfl
  refine z8 tabOk Tryz.func109 rfl ?_ ?_
  ·exact (by simp only [andP, and_true, true_and, Int.toNat_natCast, List.length_map, List.length_append, List.length_cons, List.length_nil, List.length_replicate, List.length_take, hol]; omega)
  refine zg (ih (i + 1) (by omega) (by omega)) hC hCl ⟨⟨_, rfl, .refl _⟩, ⟨_, rfl, .refl _⟩, ⟨_, rfl, .refl _⟩, ⟨_, rfl, .refl _⟩, ⟨_, rfl, .refl _⟩, ⟨_, rfl, .of (by rw [zb (by omega) (by omega)]; rfl)⟩, trivial⟩ ⟨.refl _, .gL ?_, trivial⟩ rfl rfl (Nat.zero_le _)
  rw [← hset, List.map_set]
  rfl
 ·have hb : decide ((i : Int) < (l.length : Int)) = false := hb
  rw [decide_eq_false_iff_not] at hb
  obtain rfl : i = l.length := by omega
  rw [show out.take l.length ++ List.replicate (out.length - l.length) 0 = out by rw [hol, Nat.sub_self, List.replicate_zero, List.append_nil, List.take_of_length_le (by omega)]]
  refine zw 1 rfl ?_
  exact z7 tabOk Tryz.func109 rfl trivial rfl
@[reducible] def gIcs (l : List (List Int)) : AObj := gL 24 1 eIs [] l
theorem zoc {α β : Type} {f : α → β} {l : List α} : ((l.map f).length : Int) = (l.length : Int) := by rw [List.length_map]
theorem zim (a : Ag) (n : Nat) (more : List Int) (h : AgB a) (hn : varsA a = (n : Int)) (hl : ∀ x ∈ a.con ++ more, 0 ≤ x ∧ x ≤ 1000000000000) (hc : a.con.length ≤ 50000) (hm : more.length ≤ 10) : ACall Tryz.prog 111 [.d (eAg a), .d (eIs more)] [] (fun r o => r = .d (eIss (consF n (a.con ++ more)))) := by
 refine za Tryz.func111 rfl rfl (Nat.le_of_ble_eq_true rfl) fun C hC hCl hDs hGk => ?_
 refine ze tabOk Tryz.func111 rfl trivial (zma [a.con, more] (Nat.le_of_ble_eq_true rfl) (by
  intro r hr
  rcases List.mem_cons.1 hr with rfl | hr
  ·omega
  ·rcases List.mem_cons.1 hr with rfl | hr
   ·omega
   ·cases hr)) ⟨VLe.eL rfl, trivial⟩ rfl ⟨_, rfl⟩ (by rintro r o rfl; rfl) ?_
 rintro _ o rfl
 rw [show [a.con, more].flatten = a.con ++ more by simp]
 have hHl : (a.con ++ more).length ≤ 50010 := by rw [List.length_append]; omega
 generalize a.con ++ more = H at *
 refine z8 tabOk Tryz.func111 rfl trivial ?_
 refine z2w (e := 24) (s := 1) (t := 5) (.inl rfl) (fun i => eIs (([] : List (List Int)).getD i [])) ?_
 refine zh (α := Nat) (fun i => [(2, .ptr 0 0), (5, .gs 1), (12, .d (eIs H)), (13, vI .i64 (H.length : Int)), (14, vI .i64 (i : Int))]) (fun i => [some (.cells 27 (AV.d (eAg a)).cells), some (gIcs ((consF n H).take i))]) (fun i => i ≤ H.length) (fun i => H.length - i) 0 (Nat.zero_le _) ?_ ?_
 ·exact fun h => zg h hC hCl ⟨⟨_, rfl, .refl _⟩, ⟨_, rfl, .refl _⟩, ⟨_, rfl, .refl _⟩, ⟨_, rfl, .of (by rw [List.length_map])⟩, ⟨_, rfl, .refl _⟩, trivial⟩ ⟨.refl _, .gL rfl, trivial⟩ rfl rfl (Nat.zero_le _)
 rintro i hi ih
 have hcl : (consF n H).length = H.length := by unfold consF; rw [List.length_map]
 refine z6 tabOk Tryz.func111 rfl trivial (fun hb => ?_) (fun hb => ?_)
 ·have hb : decide ((i : Int) < (H.length : Int)) = true := hb
  rw [decide_eq_true_eq] at hb
  have hlt : i < H.length := by omega
  have hx := hl (H.getD i 0) (by rw [List.getD_eq_getElem?_getD, List.getElem?_eq_getElem hlt]; exact List.getElem_mem _)
  have hstep : (consF n H).take (i + 1) = (consF n H).take i ++ [[litF n 0 (H.getD i 0)]] := by
   rw [List.take_add_one, List.getElem?_eq_getElem (by omega)]
   unfold consF
   rw [List.getElem_map, List.getD_eq_getElem?_getD, List.getElem?_eq_getElem hlt]
   rfl
  refine ze tabOk Tryz.func111 rfl ?_ (z29 a n 0 [H.getD i 0] h hn (by omega) (by
   intro x hx2
   rw [List.mem_singleton] at hx2
   rw [hx2]
   exact hx) (by simp)) ⟨.refl _, .refl _, VLe.eL rfl, trivial⟩ rfl ⟨_, rfl⟩ (by rintro r o rfl; rfl) ?_
  ·exact (by simp only [andP, and_true, true_and, Int.toNat_natCast, List.length_map, List.length_append, List.length_cons, List.length_nil, List.length_replicate]; omega)
  rintro _ o rfl
  refine z8 tabOk Tryz.func111 rfl ?_ ?_
  ·exact (by simp only [andP, and_true, true_and, Int.toNat_natCast, List.length_map, List.length_append, List.length_cons, List.length_nil, List.length_replicate, List.length_take, hcl]; omega)
  refine zg (ih (i + 1) (by omega) (by omega)) hC hCl ⟨⟨_, rfl, .refl _⟩, ⟨_, rfl, .refl _⟩, ⟨_, rfl, .refl _⟩, ⟨_, rfl, .refl _⟩, ⟨_, rfl, .of (by rw [zb (by omega) (by omega)]; rfl)⟩, trivial⟩ ⟨.refl _, .gL ?_, trivial⟩ rfl rfl (Nat.zero_le _)
  rw [hstep, List.map_append]
  rfl
 ·have hb : decide ((i : Int) < (H.length : Int)) = false := hb
  rw [decide_eq_false_iff_not] at hb
  obtain rfl : i = H.length := by omega
  rw [List.take_of_length_le (by omega)]
  refine zw 1 rfl ?_
  exact z7 tabOk Tryz.func111 rfl trivial rfl
theorem zdn (n : Nat) : ∀ (l m : List P2) (v : Nat), z1g n v (l ++ m) = z1g n v l ++ z1g n (v + l.length) m
 | [], m, v => rfl
 | p :: l, m, v => by
  rw [List.cons_append, z1g, z1g, zdn n l m, List.append_assoc, List.length_cons, show v + 1 + l.length = v + (l.length + 1) by omega]
theorem zc9 {n v : Nat} {l : List P2} {i : Nat} (h : i < l.length) : z1g n v (l.take (i + 1)) = z1g n v (l.take i) ++ z1g n (v + i) [l[i]] := by
 rw [List.take_add_one, List.getElem?_eq_getElem h, Option.toList_some, zdn, List.length_take, Nat.min_eq_left (by omega)]
theorem z5k (n : Nat) : ∀ (l : List P2) (v : Nat), (z1g n v l).length ≤ l.length
 | [], v => Nat.le_refl _
 | p :: l, v => by
  have := z5k n l (v + 1)
  rw [z1g, List.length_append, List.length_cons]
  split
  ·simp; omega
  ·split <;> simp <;> omega
theorem zjy (n k v : Nat) : litF n k (2 * (v : Int) + 1) = -litF n k (2 * (v : Int)) := by
 have h := z5d n k (2 * (v : Int))
 unfold turnL at h
 rw [if_neg (by omega)] at h
 exact h
theorem zio (a : Ag) (n b : Nat) (h : AgB a) (hn : varsA a = (n : Int)) (hb : a.i = (b : Int)) (hl : ∀ p ∈ a.l, 0 ≤ p.2) : ACall Tryz.prog 108 [.d (eAg a)] [] (fun r o => r = .d (eIss (z1g n (b + 1) a.l))) := by
 refine za Tryz.func108 rfl rfl (Nat.le_of_ble_eq_true rfl) fun C hC hCl hDs hGk => ?_
 have hi1 := h.i1
 have hll := h.l
 have eb : ∀ x y : D, True := fun _ _ => trivial
 refine z8 tabOk Tryz.func108 rfl trivial ?_
 refine z2w (e := 24) (s := 1) (t := 3) (.inl rfl) (fun i => eIs (([] : List (List Int)).getD i [])) ?_
 refine zh (α := Nat) (fun i => [(1, .ptr 0 0), (3, .gs 1), (7, .d (eP2s a.l)), (8, vI .i64 (a.l.length : Int)), (9, vI .i64 (i : Int))]) (fun i => [some (.cells 27 (AV.d (eAg a)).cells), some (gIcs (z1g n (b + 1) (a.l.take i)))]) (fun i => i ≤ a.l.length) (fun i => a.l.length - i) 0 (Nat.zero_le _) ?_ ?_
 ·exact fun h => zg h hC hCl ⟨⟨_, rfl, .refl _⟩, ⟨_, rfl, .refl _⟩, ⟨_, rfl, .refl _⟩, ⟨_, rfl, .of (by rw [List.length_map])⟩, ⟨_, rfl, .refl _⟩, trivial⟩ ⟨.refl _, .gL rfl, trivial⟩ rfl rfl (Nat.zero_le _)
 rintro i hi ih
 have hcl : (z1g n (b + 1) (a.l.take i)).length ≤ i := Nat.le_trans (z5k _ _ _) (by rw [List.length_take]; omega)
 refine z6 tabOk Tryz.func108 rfl trivial (fun hb2 => ?_) (fun hb2 => ?_)
 rotate_left
 ·have hb2 : decide ((i : Int) < (a.l.length : Int)) = false := hb2
  rw [decide_eq_false_iff_not] at hb2
  obtain rfl : i = a.l.length := by omega
  rw [List.take_of_length_le (Nat.le_refl _)]
  refine zw 1 rfl ?_
  exact z7 tabOk Tryz.func108 rfl trivial rfl
 have hb2 : decide ((i : Int) < (a.l.length : Int)) = true := hb2
 rw [decide_eq_true_eq] at hb2
 have hlt : i < a.l.length := by omega
 have ih := ih (i + 1) (by omega) (by omega)
 rw [zc9 hlt] at ih
 have hx0 := hl a.l[i] (List.getElem_mem hlt)
 have hgd : a.l.getD i (0, 0) = a.l[i] := by rw [List.getD_eq_getElem?_getD, List.getElem?_eq_getElem hlt]; rfl
 generalize a.l[i] = x at *
 have hfs : z1g n (b + 1 + i) [x] = if x.2 < 2 then [[litF n 0 (2 * ((b + 1 + i : Nat) : Int) + 1 - x.2)]] else [] := by
  rw [z1g, z1g, List.append_nil]
  by_cases h0 : x.2 = 0
  ·rw [if_pos h0, if_pos (by omega), h0, Int.sub_zero, zjy]
  ·rw [if_neg h0]
   by_cases h1 : x.2 = 1
   ·rw [if_pos h1, if_pos (by omega), h1, Int.add_sub_cancel]
   ·rw [if_neg h1, if_neg (by omega)]
 rw [hfs] at ih
 refine z6 tabOk Tryz.func108 rfl (by simp only [andP, and_true, true_and, Int.toNat_natCast, List.length_map, List.length_append, List.length_cons, List.length_nil, List.length_replicate]; omega) (fun h2 => ?_) (fun h2 => ?_)
 ·have h2 : decide ((a.l.getD i (0, 0)).2 < 2) = true := h2
  rw [hgd, decide_eq_true_eq] at h2
  rw [if_pos h2] at ih
  have e1 : IntKind.i64.wrap (a.i + 1) = a.i + 1 := zb (by omega) (by omega)
  have e2 : IntKind.i64.wrap (a.i + 1 + (i : Int)) = a.i + 1 + (i : Int) := zb (by omega) (by omega)
  have e3 : IntKind.i64.wrap (2 * (a.i + 1 + (i : Int))) = 2 * (a.i + 1 + (i : Int)) := zb (by omega) (by omega)
  have e4 : IntKind.i64.wrap (2 * (a.i + 1 + (i : Int)) + 1) = 2 * (a.i + 1 + (i : Int)) + 1 := zb (by omega) (by omega)
  have e5 : IntKind.i64.wrap (2 * (a.i + 1 + (i : Int)) + 1 - x.2) = 2 * ((b + 1 + i : Nat) : Int) + 1 - x.2 := by rw [zb (by omega) (by omega)]; omega
  refine ze tabOk Tryz.func108 rfl trivial (z29 a n 0 [2 * ((b + 1 + i : Nat) : Int) + 1 - x.2] h hn (by omega) (by
   intro y hy
   rw [List.mem_singleton] at hy
   rw [hy]
   omega) (by simp)) ⟨.refl _, .refl _, VLe.eL ?_, trivial⟩ rfl ⟨_, rfl⟩ (by rintro r o rfl; rfl) ?_
  ·show [eI (IntKind.i64.wrap (IntKind.i64.wrap (IntKind.i64.wrap (2 * IntKind.i64.wrap (IntKind.i64.wrap (a.i + 1) + (i : Int))) + 1) - (a.l.getD i (0, 0)).2))] = _
   rw [hgd, e1, e2, e3, e4, e5]
   rfl
  rintro _ o rfl
  refine z8 tabOk Tryz.func108 rfl ?_ ?_
  ·exact (by simp only [andP, and_true, true_and, Int.toNat_natCast, List.length_map, List.length_append, List.length_cons, List.length_nil, List.length_replicate]; omega)
  refine zg ih hC hCl ⟨⟨_, rfl, .refl _⟩, ⟨_, rfl, .refl _⟩, ⟨_, rfl, .refl _⟩, ⟨_, rfl, .refl _⟩, ⟨_, rfl, .of (by rw [zb (by omega) (by omega)]; rfl)⟩, trivial⟩ ⟨.refl _, .gL ?_, trivial⟩ rfl rfl (Nat.zero_le _)
  rw [List.map_append]
  rfl
 ·have h2 : decide ((a.l.getD i (0, 0)).2 < 2) = false := h2
  rw [hgd, decide_eq_false_iff_not] at h2
  rw [if_neg h2, List.append_nil] at ih
  refine z8 tabOk Tryz.func108 rfl trivial ?_
  exact zg ih hC hCl ⟨⟨_, rfl, .refl _⟩, ⟨_, rfl, .refl _⟩, ⟨_, rfl, .refl _⟩, ⟨_, rfl, .refl _⟩, ⟨_, rfl, .of (by rw [zb (by omega) (by omega)]; rfl)⟩, trivial⟩ ⟨.refl _, .refl _, trivial⟩ rfl rfl (Nat.zero_le _)
theorem zgf (n : Nat) : ∀ (l m : List P2) (v : Nat), linkF n v (l ++ m) = linkF n v l ++ linkF n (v + l.length) m
 | [], m, v => rfl
 | p :: l, m, v => by
  rw [List.cons_append, linkF, linkF, zgf n l m, List.length_cons, show v + 1 + l.length = v + (l.length + 1) by omega]
  rfl
theorem zdd {n v : Nat} {l : List P2} {i : Nat} (h : i < l.length) : linkF n v (l.take (i + 1)) = linkF n v (l.take i) ++ linkF n (v + i) [l[i]] := by
 rw [List.take_add_one, List.getElem?_eq_getElem h, Option.toList_some, zgf, List.length_take, Nat.min_eq_left (by omega)]
theorem z6i (n : Nat) : ∀ (l : List P2) (v : Nat), (linkF n v l).length = 2 * l.length
 | [], v => rfl
 | p :: l, v => by
  rw [linkF, List.length_cons, List.length_cons, z6i n l, List.length_cons]
  omega
theorem z36 {n k N : Nat} {l : Int} (hn : n ≤ 3000000) (hk : k ≤ 1000) (hl : 0 ≤ l ∧ l ≤ 1000000000000) : -1000000000000000 ≤ litF n k l ∧ litF n k l ≤ 1000000000000000 := by
 have hp : 0 ≤ (k : Int) * ((n : Int) + 1) ∧ (k : Int) * ((n : Int) + 1) ≤ 1000 * 3000001 := ⟨Int.mul_nonneg (by omega) (by omega), Int.mul_le_mul (by omega) (by omega) (by omega) (by decide)⟩
 unfold litF
 split <;> omega
theorem zly (a : Ag) (n b : Nat) (h : AgB a) (hn : varsA a = (n : Int)) (hb : a.i = (b : Int)) (hl : ∀ p ∈ a.l, 0 ≤ p.1 ∧ p.1 ≤ 1000000000000) : ACall Tryz.prog 110 [.d (eAg a)] [] (fun r o => r = .d (eIss (linkF n (b + 1) a.l))) := by
 refine za Tryz.func110 rfl rfl (Nat.le_of_ble_eq_true rfl) fun C hC hCl hDs hGk => ?_
 have hi1 := h.i1
 have hll := h.l
 have hnb := z1z h
 have hn3 : n ≤ 3000000 := by omega
 refine z8 tabOk Tryz.func110 rfl trivial ?_
 refine z2w (e := 24) (s := 1) (t := 3) (.inl rfl) (fun i => eIs (([] : List (List Int)).getD i [])) ?_
 refine zh (α := Nat) (fun i => [(1, .ptr 0 0), (3, .gs 1), (9, .d (eP2s a.l)), (10, vI .i64 (a.l.length : Int)), (11, vI .i64 (i : Int))]) (fun i => [some (.cells 27 (AV.d (eAg a)).cells), some (gIcs (linkF n (b + 1) (a.l.take i)))]) (fun i => i ≤ a.l.length) (fun i => a.l.length - i) 0 (Nat.zero_le _) ?_ ?_
 ·exact fun h => zg h hC hCl ⟨⟨_, rfl, .refl _⟩, ⟨_, rfl, .refl _⟩, ⟨_, rfl, .refl _⟩, ⟨_, rfl, .of (by rw [List.length_map])⟩, ⟨_, rfl, .refl _⟩, trivial⟩ ⟨.refl _, .gL rfl, trivial⟩ rfl rfl (Nat.zero_le _)
 rintro i hi ih
 have hcl : (linkF n (b + 1) (a.l.take i)).length = 2 * i := by rw [z6i, List.length_take]; omega
 refine z6 tabOk Tryz.func110 rfl trivial (fun hb2 => ?_) (fun hb2 => ?_)
 rotate_left
 ·have hb2 : decide ((i : Int) < (a.l.length : Int)) = false := hb2
  rw [decide_eq_false_iff_not] at hb2
  obtain rfl : i = a.l.length := by omega
  rw [List.take_of_length_le (Nat.le_refl _)]
  refine zw 1 rfl ?_
  exact z7 tabOk Tryz.func110 rfl trivial rfl
 have hb2 : decide ((i : Int) < (a.l.length : Int)) = true := hb2
 rw [decide_eq_true_eq] at hb2
 have hlt : i < a.l.length := by omega
 have ih := ih (i + 1) (by omega) (by omega)
 rw [zdd hlt] at ih
 have hx0 := hl a.l[i] (List.getElem_mem hlt)
 have hgd : a.l.getD i (0, 0) = a.l[i] := by rw [List.getD_eq_getElem?_getD, List.getElem?_eq_getElem hlt]; rfl
 generalize a.l[i] = x at *
 have e1 : IntKind.i64.wrap (a.i + 1) = a.i + 1 := zb (by omega) (by omega)
 have e2 : IntKind.i64.wrap (a.i + 1 + (i : Int)) = a.i + 1 + (i : Int) := zb (by omega) (by omega)
 have e3 : IntKind.i64.wrap (2 * (a.i + 1 + (i : Int))) = 2 * ((b + 1 + i : Nat) : Int) := by rw [zb (by omega) (by omega)]; omega
 have eJ : IntKind.i64.wrap (2 * IntKind.i64.wrap (IntKind.i64.wrap (a.i + 1) + (i : Int))) = 2 * ((b + 1 + i : Nat) : Int) := by rw [e1, e2, e3]
 have b1 := z36 (N := 0) (k := 1) hn3 (by omega) (l := 2 * ((b + 1 + i : Nat) : Int)) (by omega)
 have b2 := z36 (N := 0) (k := 0) hn3 (by omega) hx0
 have hc1 := zcd a n 1 (2 * ((b + 1 + i : Nat) : Int)) h hn (by omega) (by omega)
 have hc2 := zcd a n 0 x.1 h hn (by omega) hx0
 have hlk : linkF n (b + 1 + i) [x] = [[-litF n 1 (2 * ((b + 1 + i : Nat) : Int)), litF n 0 x.1], [litF n 1 (2 * ((b + 1 + i : Nat) : Int)), -litF n 0 x.1]] := rfl
 rw [hlk] at ih
 generalize litF n 1 (2 * ((b + 1 + i : Nat) : Int)) = y1 at *
 generalize litF n 0 x.1 = y2 at *
 have w1 : IntKind.i64.wrap (0 - y1) = -y1 := by rw [Int.zero_sub]; exact zb (by omega) (by omega)
 have w2 : IntKind.i64.wrap (0 - y2) = -y2 := by rw [Int.zero_sub]; exact zb (by omega) (by omega)
 refine zp 12 tabOk Tryz.func110 rfl rfl (by simp only [andP, and_true, true_and, Int.toNat_natCast, List.length_map, List.length_append, List.length_cons, List.length_nil, List.length_replicate]; omega) (by kernel_rfl) ?_
 refine zv tabOk rfl trivial hc1 (zf Tryz.func144 rfl rfl) (by rintro r o rfl; rfl) ⟨.refl _, .refl _, .of (congrArg (vI .i64) eJ), trivial⟩ rfl rfl ⟨_, rfl⟩ ?_
 refine zv tabOk rfl trivial hc2 (zf Tryz.func144 rfl rfl) (by rintro r o rfl; rfl) ⟨.refl _, .refl _, .of (congrArg (fun z : P2 => vI .i64 z.1) hgd), trivial⟩ rfl rfl ⟨_, rfl⟩ ?_
 refine zo tabOk rfl trivial ?_
 refine z8 tabOk Tryz.func110 rfl ?_ ?_
 ·exact (by simp only [andP, and_true, true_and, Int.toNat_natCast, List.length_map, List.length_append, List.length_cons, List.length_nil, List.length_replicate]; omega)
 refine zg ih hC hCl ⟨⟨_, rfl, .refl _⟩, ⟨_, rfl, .refl _⟩, ⟨_, rfl, .refl _⟩, ⟨_, rfl, .refl _⟩, ⟨_, rfl, .of (by rw [zb (by omega) (by omega)]; rfl)⟩, trivial⟩ ⟨.refl _, .gL_c ?_, trivial⟩ rfl rfl (Nat.zero_le _)
 rw [List.map_append]
 rw [← w1, ← w2]
 exact CLes.append (.refl _) ⟨CLe.lit eI 0 [_, _] rfl, CLe.lit eI 0 [_, _] rfl, trivial⟩
end Go.Proofs.YtkemmijjpclckaaGreatDoor
