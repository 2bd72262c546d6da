/- A part of the proof: U18, U21, U22, U23, U24, Ab36, Ab37, Ab40, UR0. -/
import Derived.Test.YtdnpkeahgpbkoaaP4
import Derived.ProofKit
import Derived.OpenShut
import Derived.Test.YtdnpkeahgpbkoaaRows
namespace Go.Proofs.Ytdnpkeahgpbkoaa
open Go Ab
set_option maxRecDepth 100000
set_option linter.unusedVariables false
set_option linter.unusedSimpArgs false

/-- What is told where nothing clashes. -/
def Clo (l : List (List Int)) (a xs : List Int) : Prop := ¬ Cf l a ∧ xs.Pairwise ltI ∧ ∀ x, x ∈ xs ↔ Fo l a x
def closeR (l : List (List Int)) (a : List Int) (r : AV) (_ : List (Option AObj)) : Prop :=
  (r = .tp [.d (.v (.slice none 0 0)), vB true] ∧ Cf l a) ∨ ∃ xs, r = .tp [.d (eIs xs), vB false] ∧ Clo l a xs
theorem close_c {n : Int} {l : List (List Int)} {a : List Int} (h : Okl n l a) (hn : n ≤ 100000) (hb : lits l ≤ 1000000) : ACall Try.prog 12 [vI .i64 n, .d (eIss l), .d (eIs a)] [] (closeR l a) := by
  refine (Close_call n l a ⟨h.n0, hn⟩ h.cl h.asm hb delOk).mono ?_
  rintro r o ⟨s, h1, h2, rfl⟩
  rcases close_is h h1 with ⟨e, hc⟩ | ⟨e, hc⟩
  · exact .inl ⟨by simp [closeEnd, e], hc⟩
  · exact .inr ⟨_, by simp [closeEnd, e], hc⟩
theorem closeR_refs {l : List (List Int)} {a : List Int} : ∀ r o, closeR l a r o → refsB 0 r = true := by
  rintro r o (⟨rfl, _⟩ | ⟨xs, rfl, _⟩) <;> rfl
theorem okl_neg {n : Int} {l : List (List Int)} {c : List Int} (h : Okl n l c) : Okl n l (c.map fun x => -x) :=
  ⟨h.n0, h.cl, fun x hx => by obtain ⟨y, hy, rfl⟩ := List.mem_map.1 hx; exact litOk_neg (h.asm y hy)⟩
def refR (l : List (List Int)) (c : List Int) (r : AV) (_ : List (Option AObj)) : Prop := ∃ b, r = vB b ∧ (b = true ↔ Cf l (c.map fun x => -x))
theorem refutes_c {n : Int} {l : List (List Int)} {c : List Int} (h : Okl n l c) (hn : n ≤ 100000) (hb : lits l ≤ 1000000) (hc : c.length ≤ 1000000) : ACall Try.prog 15 [vI .i64 n, .d (eIss l), .d (eIs c)] [] (refR l c) := by
  refine (Refutes_call n l c ⟨h.n0, hn⟩ h.cl h.asm hb hc).mono ?_
  rintro r o ⟨s, h1, h2, rfl⟩
  exact ⟨_, rfl, close_cf (okl_neg h) h1⟩
theorem lits_le (m : Nat) : ∀ l : List (List Int), (∀ c ∈ l, c.length ≤ m) → lits l ≤ l.length * m
  | [], _ => by simp [lits]
  | c :: r, h => by
    have ih := lits_le m r fun d hd => h d (List.mem_cons_of_mem _ hd)
    have h1 := h c List.mem_cons_self
    simp only [lits, List.map_cons, List.sum_cons, List.length_cons] at ih ⊢
    rw [Nat.add_mul]
    omega
theorem may_ok {n : Int} {l : List (List Int)} {c : List Int} (h : mayP n l c) : Okl n l c ∧ n ≤ 100000 ∧ lits l ≤ 1600 ∧ c.length ≤ 40 := by
  obtain ⟨h0, h1, h2, h3, h4, h5⟩ := h
  refine ⟨⟨h0, fun d hd => (h3 d hd).2, h5⟩, by omega, ?_, h4⟩
  have := lits_le 40 l fun d hd => (h3 d hd).1
  have : l.length * 40 ≤ 40 * 40 := Nat.mul_le_mul_right _ h2
  omega

/-- Where nothing clashes a clause has a literal that is forced, or two that aren't forced the other way round. -/
theorem clo_fine {l : List (List Int)} {a xs : List Int} (h : Clo l a xs) {c : List Int} (hc : c ∈ l) (h1 : ∀ y ∈ c, y ∉ xs) (f : Int) (h2 : ∀ y ∈ c, -y ∉ xs → y = f) : False := by
  by_cases hf : f ∈ c
  · refine h1 f hf ((h.2.2 f).2 (.unit hc hf fun y hy hne => ?_))
    exact (h.2.2 _).1 (Decidable.not_not.1 fun hh => hne (h2 y hy hh))
  · refine h.1 (.inr ⟨c, hc, fun y hy => (h.2.2 _).1 (Decidable.not_not.1 fun hh => hf ?_)⟩)
    rw [← h2 y hy hh]
    exact hy

/-- What counting comes to: how many are open, the one seen last, is one forced. -/
def Cnt (xs : List Int) (d : List Int) (op : Nat) (fi : Int) (is : Bool) : Prop :=
  is = d.any (fun y => xs.contains y) ∧ op ≤ d.length ∧ (2 ≤ op ∨ (op = 1 ∧ ∀ y ∈ d, -y ∉ xs → y = fi) ∨ (op = 0 ∧ fi = 0 ∧ ∀ y ∈ d, -y ∈ xs))

theorem cnt_step {xs d : List Int} {op : Nat} {fi : Int} {is : Bool} (h : Cnt xs d op fi is) (y : Int) (hy : y ≠ 0) :
    (-y ∉ xs ∧ y ≠ fi → Cnt xs (d ++ [y]) (op + 1) y (is || xs.contains y)) ∧ (¬ (-y ∉ xs ∧ y ≠ fi) → Cnt xs (d ++ [y]) op fi (is || xs.contains y)) := by
  obtain ⟨h1, h2, h3⟩ := h
  have ha : (is || xs.contains y) = (d ++ [y]).any (fun y => xs.contains y) := by rw [h1]; simp
  constructor
  · rintro ⟨e1, e2⟩
    refine ⟨ha, by simp; omega, ?_⟩
    rcases h3 with h3 | ⟨h3, h4⟩ | ⟨h3, h4, h5⟩
    · exact .inl (by omega)
    · exact .inl (by omega)
    · refine .inr (.inl ⟨by omega, fun z hz hn => ?_⟩)
      rcases List.mem_append.1 hz with hz | hz
      · exact absurd (h5 z hz) hn
      · exact List.mem_singleton.1 hz
  · intro e
    refine ⟨ha, by simp; omega, ?_⟩
    rcases h3 with h3 | ⟨h3, h4⟩ | ⟨h3, h4, h5⟩
    · exact .inl h3
    · refine .inr (.inl ⟨h3, fun z hz hn => ?_⟩)
      rcases List.mem_append.1 hz with hz | hz
      · exact h4 z hz hn
      · rw [List.mem_singleton.1 hz] at hn ⊢
        exact Decidable.not_not.1 fun hh => e ⟨hn, hh⟩
    · refine .inr (.inr ⟨h3, h4, fun z hz => ?_⟩)
      rcases List.mem_append.1 hz with hz | hz
      · exact h5 z hz
      · rw [List.mem_singleton.1 hz]
        exact Decidable.not_not.1 fun hh => e ⟨hh, by rw [h4]; exact hy⟩
theorem cnt_end {l : List (List Int)} {a xs : List Int} (h : Clo l a xs) {c : List Int} (hc : c ∈ l) {op : Nat} {fi : Int} {is : Bool} (hn : Cnt xs c op fi is) : is = true ∨ 2 ≤ op := by
  obtain ⟨h1, _, h3⟩ := hn
  cases is with
  | true => exact .inl rfl
  | false =>
    right
    have hno : ∀ y ∈ c, y ∉ xs := by
      intro y hy hm
      have : c.any (fun y => xs.contains y) = true := List.any_eq_true.2 ⟨y, hy, by simpa using hm⟩
      rw [← h1] at this
      cases this
    rcases h3 with h3 | ⟨h3, h4⟩ | ⟨h3, h4, h5⟩
    · exact h3
    · exact (clo_fine h hc hno fi h4).elim
    · exact (clo_fine h hc hno 0 fun y hy hn => absurd (h5 y hy) hn).elim
end Go.Proofs.Ytdnpkeahgpbkoaa
namespace Go.Proofs.Ytdnpkeahgpbkoaa
open Go Ab
set_option maxRecDepth 100000
set_option linter.unusedVariables false
set_option linter.unusedSimpArgs false

/-! ### What 'left' tells of a clause -/
theorem leftW_spec (xs : List Int) : ∀ (c : List Int) (only : Int), (∀ y ∈ c, y ≠ 0) → (only ≠ 0 → only ∉ xs ∧ -only ∉ xs) →
    (leftW xs only c = (0, 0) ∧ only = 0 ∧ (∀ y ∈ c, y ∉ xs ∧ -y ∈ xs)) ∨
    (∃ x, leftW xs only c = (x, 1) ∧ x ≠ 0 ∧ x ∉ xs ∧ -x ∉ xs ∧ (x = only ∨ x ∈ c) ∧ (only ≠ 0 → x = only) ∧ ∀ y ∈ c, y ≠ x → -y ∈ xs) ∨
    (leftW xs only c = (0, 2) ∧ ((∃ y ∈ c, y ∈ xs) ∨ ∃ y z, (y = only ∧ only ≠ 0 ∨ y ∈ c) ∧ z ∈ c ∧ y ≠ z ∧ -y ∉ xs ∧ -z ∉ xs))
  | [], only, _, ho => by
    by_cases h : only = 0
    · exact .inl ⟨by simp [leftW, h], h, by simp⟩
    · exact .inr (.inl ⟨only, by simp [leftW, h], h, (ho h).1, (ho h).2, .inl rfl, fun _ => rfl, by simp⟩)
  | y :: r, only, h0, ho => by
    have h0r : ∀ z ∈ r, z ≠ 0 := fun z hz => h0 z (List.mem_cons_of_mem _ hz)
    have hy0 := h0 y List.mem_cons_self
    by_cases h1 : y ∈ xs
    · exact .inr (.inr ⟨by simp [leftW, h1], .inl ⟨y, List.mem_cons_self, h1⟩⟩)
    by_cases h2 : -y ∈ xs ∨ y = only
    · have e : leftW xs only (y :: r) = leftW xs only r := by rw [leftW, if_neg h1, if_pos h2]
      rw [e]
      rcases leftW_spec xs r only h0r ho with ⟨a1, a2, a3⟩ | ⟨x, a1, a2, a3, a4, a5, a6, a7⟩ | ⟨a1, a2⟩
      · refine .inl ⟨a1, a2, fun z hz => ?_⟩
        rcases List.mem_cons.1 hz with rfl | hz
        · exact ⟨h1, h2.resolve_right (fun e => hy0 (e.trans a2))⟩
        · exact a3 z hz
      · refine .inr (.inl ⟨x, a1, a2, a3, a4, a5.imp id (List.mem_cons_of_mem _), a6, fun z hz hne => ?_⟩)
        rcases List.mem_cons.1 hz with rfl | hz
        · refine h2.resolve_right fun e => ?_
          by_cases h : only = 0
          · exact hy0 (e.trans h)
          · exact hne (e.trans (a6 h).symm)
        · exact a7 z hz hne
      · refine .inr (.inr ⟨a1, ?_⟩)
        rcases a2 with ⟨z, hz, hx⟩ | ⟨z, w, hz, hw, hne⟩
        · exact .inl ⟨z, List.mem_cons_of_mem _ hz, hx⟩
        · exact .inr ⟨z, w, hz.imp id (List.mem_cons_of_mem _), List.mem_cons_of_mem _ hw, hne⟩
    · have h3 : -y ∉ xs := fun h => h2 (.inl h)
      have h4 : y ≠ only := fun h => h2 (.inr h)
      by_cases h5 : only ≠ 0
      · refine .inr (.inr ⟨by rw [leftW, if_neg h1, if_neg h2, if_pos h5], .inr ⟨only, y, .inl ⟨rfl, h5⟩, List.mem_cons_self, fun e => h4 e.symm, (ho h5).2, h3⟩⟩)
      · have h5 : only = 0 := Decidable.not_not.1 h5
        have e : leftW xs only (y :: r) = leftW xs y r := by rw [leftW, if_neg h1, if_neg h2, if_neg (by simp [h5])]
        rw [e]
        rcases leftW_spec xs r y h0r (fun _ => ⟨h1, h3⟩) with ⟨a1, a2, a3⟩ | ⟨x, a1, a2, a3, a4, a5, a6, a7⟩ | ⟨a1, a2⟩
        · exact absurd a2 hy0
        · have hx : x = y := a6 hy0
          refine .inr (.inl ⟨x, a1, a2, a3, a4, .inr (by rw [hx]; exact List.mem_cons_self), fun h => absurd h5 h, fun z hz hne => ?_⟩)
          rcases List.mem_cons.1 hz with rfl | hz
          · exact absurd hx.symm hne
          · exact a7 z hz hne
        · refine .inr (.inr ⟨a1, ?_⟩)
          rcases a2 with ⟨z, hz, hx⟩ | ⟨z, w, hz, hw, hne⟩
          · exact .inl ⟨z, List.mem_cons_of_mem _ hz, hx⟩
          · refine .inr ⟨z, w, .inr ?_, List.mem_cons_of_mem _ hw, hne⟩
            rcases hz with ⟨rfl, _⟩ | hz
            · exact List.mem_cons_self
            · exact List.mem_cons_of_mem _ hz

theorem left_cases (xs c : List Int) (h0 : ∀ y ∈ c, y ≠ 0) :
    (leftW xs 0 c = (0, 0) ∧ ∀ y ∈ c, -y ∈ xs) ∨
    (∃ x, leftW xs 0 c = (x, 1) ∧ x ≠ 0 ∧ x ∉ xs ∧ -x ∉ xs ∧ x ∈ c ∧ ∀ y ∈ c, y ≠ x → -y ∈ xs) ∨
    (leftW xs 0 c = (0, 2) ∧ ((∃ y ∈ c, y ∈ xs) ∨ ∃ y z, y ∈ c ∧ z ∈ c ∧ y ≠ z ∧ -y ∉ xs ∧ -z ∉ xs)) := by
  rcases leftW_spec xs c 0 h0 (fun h => absurd rfl h) with ⟨a1, a2, a3⟩ | ⟨x, a1, a2, a3, a4, a5, a6, a7⟩ | ⟨a1, a2⟩
  · exact .inl ⟨a1, fun y hy => (a3 y hy).2⟩
  · exact .inr (.inl ⟨x, a1, a2, a3, a4, a5.resolve_left a2, a7⟩)
  · refine .inr (.inr ⟨a1, a2.imp id ?_⟩)
    rintro ⟨y, z, hy, hz, h⟩
    exact ⟨y, z, hy.resolve_left (fun e => e.2 rfl), hz, h⟩

/-! ### The document's Close, turn by turn -/
/-- What stands: all that is assumed, all of it forced, no variable both ways. -/
structure Rf (l : List (List Int)) (a xs : List Int) : Prop where
  asm : ∀ x ∈ a, x ∈ xs
  fo : ∀ x ∈ xs, Fo l a x
  con : ∀ x ∈ xs, -x ∉ xs
theorem rf_done {n : Int} {l : List (List Int)} {a xs : List Int} (hok : Okl n l a) (h : Rf l a xs) (hl : ∀ c ∈ l, leftW xs 0 c = (0, 2)) : ¬ Cf l a ∧ ∀ x, x ∈ xs ↔ Fo l a x := by
  have key : ∀ x, Fo l a x → x ∈ xs := by
    intro x hf
    induction hf with
    | mem hx => exact h.asm _ hx
    | unit hc hx _ ih =>
      rename_i c x hr
      rcases left_cases xs c (fun y hy => (hok.cl c hc y hy).1) with ⟨e, _⟩ | ⟨_, e, _⟩ | ⟨_, e⟩
      · rw [hl c hc] at e; simp at e
      · rw [hl c hc] at e; simp at e
      · rcases e with ⟨y, hy, hm⟩ | ⟨y, z, hy, hz, hne, h1, h2⟩
        · by_cases e : y = x
          · rw [← e]; exact hm
          · exact absurd (ih y hy e) (h.con y hm)
        · by_cases e : y = x
          · exact absurd (ih z hz fun e2 => hne (e.trans e2.symm)) h2
          · exact absurd (ih y hy e) h1
  refine ⟨?_, fun x => ⟨h.fo x, key x⟩⟩
  rintro (⟨x, h1, h2⟩ | ⟨c, hc, hall⟩)
  · exact h.con x (key x h1) (key _ h2)
  · rcases left_cases xs c (fun y hy => (hok.cl c hc y hy).1) with ⟨e, _⟩ | ⟨_, e, _⟩ | ⟨_, e⟩
    · rw [hl c hc] at e; simp at e
    · rw [hl c hc] at e; simp at e
    · rcases e with ⟨y, hy, hm⟩ | ⟨y, z, hy, hz, hne, h1, h2⟩
      · exact h.con y hm (key _ (hall y hy))
      · exact h1 (key _ (hall y hy))
theorem rf_clash {l : List (List Int)} {a xs c : List Int} (h : ∀ x ∈ xs, Fo l a x) (hc : c ∈ l) (hall : ∀ y ∈ c, -y ∈ xs) : Cf l a := .inr ⟨c, hc, fun y hy => h _ (hall y hy)⟩
theorem rf_more {l : List (List Int)} {a xs c : List Int} {x : Int} (h : Rf l a xs) (hx0 : x ≠ 0) (hc : c ∈ l) (hx : x ∈ c) (h1 : x ∉ xs) (h2 : -x ∉ xs) (hall : ∀ y ∈ c, y ≠ x → -y ∈ xs) : Rf l a (sortU (xs ++ [x])) := by
  have hm : ∀ y, y ∈ sortU (xs ++ [x]) ↔ y ∈ xs ∨ y = x := fun y => by rw [sortU_mem]; simp
  refine ⟨fun y hy => (hm y).2 (.inl (h.asm y hy)), fun y hy => ?_, fun y hy hn => ?_⟩
  · rcases (hm y).1 hy with hy | rfl
    · exact h.fo y hy
    · exact .unit hc hx fun z hz hne => h.fo _ (hall z hz hne)
  · rcases (hm y).1 hy with hy | rfl
    · rcases (hm _).1 hn with hn | hn
      · exact h.con y hy hn
      · exact h2 (by rw [← hn, Int.neg_neg]; exact hy)
    · rcases (hm _).1 hn with hn | hn
      · exact h2 hn
      · omega

/-! ### How many there may be -/
theorem incr_len : ∀ (l : List Nat) (m n : Nat), l.Pairwise (· < ·) → (∀ x ∈ l, m ≤ x ∧ x ≤ n) → l.length ≤ n + 1 - m
  | [], _, _, _, _ => Nat.zero_le _
  | x :: r, m, n, hp, hb => by
    rw [List.pairwise_cons] at hp
    have hx := hb x List.mem_cons_self
    have := incr_len r (x + 1) n hp.2 fun y hy => ⟨hp.1 y hy, (hb y (List.mem_cons_of_mem _ hy)).2⟩
    simp only [List.length_cons]
    omega
theorem pw_len {n : Int} {xs : List Int} (hp : xs.Pairwise ltI) (hl : ∀ x ∈ xs, litOk n x) (hcon : ∀ x ∈ xs, -x ∉ xs) : xs.length ≤ n.toNat + 1 := by
  have h1 : xs.Pairwise (fun x y => va x < va y) := by
    refine List.Pairwise.imp_of_mem ?_ hp
    intro x y hx hy h
    have hne : y ≠ -x := fun e => hcon x hx (e ▸ hy)
    unfold ltI at h
    unfold va
    omega
  have h2 := incr_len (xs.map va) 0 n.toNat (by rw [List.pairwise_map]; exact h1) (by
    intro v hv
    obtain ⟨x, hx, rfl⟩ := List.mem_map.1 hv
    have := hl x hx
    unfold litOk at this
    unfold va
    omega)
  rw [List.length_map] at h2
  omega
theorem sort_len {xs : List Int} {x : Int} (hp : xs.Pairwise ltI) (hx : x ∉ xs) : xs.length < (sortU (xs ++ [x])).length := by
  have hnd : (x :: xs).Nodup := by
    rw [List.nodup_cons]
    exact ⟨hx, hp.imp fun h e => by subst e; exact ltI_irr _ h⟩
  have hsub : ∀ (a b : List Int), a.Nodup → (∀ y ∈ a, y ∈ b) → a.length ≤ b.length := by
    intro a
    induction a with
    | nil => intro b _ _; exact Nat.zero_le _
    | cons y r ih =>
      intro b hn hm
      rw [List.nodup_cons] at hn
      have hy := hm y List.mem_cons_self
      have := ih (b.erase y) hn.2 fun z hz => (List.mem_erase_of_ne (by rintro rfl; exact hn.1 hz)).2 (hm z (List.mem_cons_of_mem _ hz))
      rw [List.length_erase_of_mem hy] at this
      have := List.length_pos_of_mem hy
      simp only [List.length_cons]
      omega
  have := hsub (x :: xs) (sortU (xs ++ [x])) hnd fun y hy => by
    rw [sortU_mem]
    rcases List.mem_cons.1 hy with rfl | hy
    · simp
    · simp [hy]
  simp only [List.length_cons] at this
  omega
end Go.Proofs.Ytdnpkeahgpbkoaa
namespace Go.Proofs.Ytdnpkeahgpbkoaa
open Go Ab
set_option maxRecDepth 100000
set_option linter.unusedVariables false
set_option linter.unusedSimpArgs false

/-! ### The document's Sort: a literal is let in at its place -/
def insK (xs : List Int) (x : Int) (k : Nat) : List Int := xs.take k ++ xs.getD k x :: xs.drop k
theorem insK_len (xs : List Int) (x : Int) : insK xs x xs.length = xs ++ [x] := by simp [insK]
theorem insK_size (xs : List Int) (x : Int) (k : Nat) (hk : k ≤ xs.length) : (insK xs x k).length = xs.length + 1 := by simp [insK]; omega
theorem insK_get (xs : List Int) (x : Int) (k : Nat) (hk : k < xs.length) : (insK xs x (k + 1)).getD k 0 = xs[k] := by
  have : k < (xs.take (k + 1)).length := by simp; omega
  rw [insK, List.getD_eq_getElem?_getD, List.getElem?_append_left this]
  simp [List.getElem?_take, hk]
theorem insK_set (xs : List Int) (x : Int) (k : Nat) (hk : k < xs.length) : (insK xs x (k + 1)).set (k + 1) xs[k] = insK xs x k := by
  have h1 : (xs.take (k + 1)).length = k + 1 := by simp; omega
  have h2 : xs.take (k + 1) = xs.take k ++ [xs[k]] := by rw [List.take_add_one]; simp [hk]
  rw [insK, List.set_append_right _ _ (by omega), h1, Nat.sub_self, List.set_cons_zero, insK, h2, List.append_assoc, List.drop_eq_getElem_cons hk]
  simp [hk]
theorem insK_fin (xs : List Int) (x : Int) (k : Nat) (hk : k ≤ xs.length) : (insK xs x k).set k x = xs.take k ++ x :: xs.drop k := by
  have h1 : (xs.take k).length = k := by simp; omega
  rw [insK, List.set_append_right _ _ (by omega), h1, Nat.sub_self, List.set_cons_zero]
theorem ins_pw {xs : List Int} {x : Int} {k : Nat} (hp : xs.Pairwise ltI) (hk : k ≤ xs.length) (h1 : ∀ y ∈ xs.drop k, ltI x y) (h2 : ∀ y ∈ xs.take k, ltI y x) : (xs.take k ++ x :: xs.drop k).Pairwise ltI := by
  rw [List.pairwise_append, List.pairwise_cons]
  refine ⟨hp.sublist (List.take_sublist _ _), ⟨h1, hp.sublist (List.drop_sublist _ _)⟩, fun a ha b hb => ?_⟩
  rcases List.mem_cons.1 hb with rfl | hb
  · exact h2 a ha
  · exact ltI_trans (h2 a ha) (h1 b hb)
theorem ins_mem (xs : List Int) (x : Int) (k : Nat) (y : Int) : y ∈ xs.take k ++ x :: xs.drop k ↔ y ∈ xs ∨ y = x := by
  have : y ∈ xs ↔ y ∈ xs.take k ∨ y ∈ xs.drop k := by
    conv => lhs; rw [← List.take_append_drop k xs, List.mem_append]
  rw [List.mem_append, List.mem_cons, this]
  constructor
  · rintro (h | h | h)
    · exact .inl (.inl h)
    · exact .inr h
    · exact .inl (.inr h)
  · rintro ((h | h) | h)
    · exact .inl h
    · exact .inr (.inr h)
    · exact .inr (.inl h)

theorem RSort_call (c : List Int) (hc : ∀ y ∈ c, -1000000 ≤ y ∧ y ≤ 1000000) (hl : c.length ≤ 1000000) : ACall Try.prog 18 [.d (eIs c)] [] (fun r o => r = .d (eIs (sortU c))) := by
  refine acall_enter Try.func18 rfl rfl (Nat.le_of_ble_eq_true rfl) fun C hC hCl => ?_
  refine sat_stop tabOk Try.func18 rfl trivial ?_
  refine sat_own (e := 3) (s := 1) (t := 3) (.inl rfl) (fun i => eI (([] : List Int).getD i 0)) ?_
  refine sat_while (α := Nat × List Int) (fun s => [(0, .d (eIs c)), (3, .gs 0), (4, vI .i64 s.1)]) (fun s => [some (gIs s.2)]) (fun s => s.1 ≤ c.length ∧ s.2.Pairwise ltI ∧ s.2.length ≤ s.1 ∧ ∀ y, y ∈ s.2 ↔ y ∈ c.take s.1) (fun s => c.length - s.1) (0, []) ⟨Nat.zero_le _, .nil, Nat.zero_le _, by simp⟩ ?_ ?_
  · exact fun h => sat_le h hC hCl ⟨⟨_, rfl, .refl _⟩, ⟨_, rfl, .refl _⟩, ⟨_, rfl, .refl _⟩, trivial⟩ ⟨.refl _, trivial⟩ rfl rfl (Nat.zero_le _)
  rintro ⟨i, xs⟩ ⟨hi, hp, hxl, hm⟩ ih
  simp only at hi hp hm hxl ⊢
  refine sat_branch tabOk Try.func18 rfl trivial (fun hb => ?_) (fun hb => ?_) <;> simp only [decide_eq_true_eq, decide_eq_false_iff_not, List.length_map] at hb
  · have hlt : i < c.length := by omega
    obtain ⟨b1, b2⟩ := hc _ (List.getElem_mem hlt)
    have hget : c.getD i 0 = c[i] := by simp [hlt]
    have htk : c.take (i + 1) = c.take i ++ [c[i]] := by rw [List.take_add_one]; simp [hlt]
    generalize hx : c[i] = x at *
    have e1 : IntKind.i64.wrap (0 - x) = -x := by rw [wrap_id (by omega) (by omega), Int.zero_sub]
    refine sat_callL tabOk Try.func18 rfl ?_ (In_call xs x) ⟨.inr ⟨0, 3, 1, _, _, _, rfl, rfl, rfl, map_rd eI 0 xs⟩, .inl (.of (by show vI .i64 (c.getD i 0) = _; rw [hget])), trivial⟩ rfl ⟨_, rfl⟩ (by rintro r o rfl; rfl) ?_
    · simp only [Int.toNat_natCast, List.length_map]; exact ⟨⟨by omega, by omega⟩, trivial⟩
    rintro r o rfl
    refine sat_branch tabOk Try.func18 rfl trivial (fun h1 => ?_) (fun h1 => ?_)
    · have h1 : x ∈ xs := by simpa using h1
      refine sat_stop tabOk Try.func18 rfl trivial ?_
      refine sat_le (ih (i + 1, xs) ⟨by simp; omega, hp, by simp; omega, fun y => ?_⟩ (by simp; omega)) hC hCl ⟨⟨_, rfl, .refl _⟩, ⟨_, rfl, .refl _⟩, ⟨_, rfl, .of (by rw [wrap_id (by omega) (by omega)]; rfl)⟩, trivial⟩ ⟨.refl _, trivial⟩ rfl rfl (Nat.zero_le _)
      simp only
      rw [htk, List.mem_append, List.mem_singleton, hm]
      constructor
      · exact .inl
      · rintro (h | rfl)
        · exact h
        · exact (hm _).1 h1
    have h1 : x ∉ xs := by simpa using h1
    refine sat_stop tabOk Try.func18 rfl ?_ ?_
    · simp only [andP, List.length_map, List.length_cons, List.length_nil]
      exact ⟨by show (xs.length + (0 + 1)) * 8 ≤ _; omega, trivial⟩
    refine sat_while (α := Nat) (fun k => [(0, .d (eIs c)), (3, .gs 0), (4, vI .i64 i), (5, vI .i64 x), (7, vI .i64 k)]) (fun k => [some (gIs (insK xs x k))]) (fun k => k ≤ xs.length ∧ ∀ y ∈ xs.drop k, ltI x y) (fun k => k) xs.length ⟨Nat.le_refl _, by simp⟩ ?_ ?_
    · refine fun h => sat_le h hC hCl ⟨⟨_, rfl, .refl _⟩, ⟨_, rfl, .refl _⟩, ⟨_, rfl, .refl _⟩, ⟨_, rfl, .of ?_⟩, ⟨_, rfl, .of ?_⟩, trivial⟩ ⟨.gL ?_, trivial⟩ rfl rfl (Nat.zero_le _)
      · rw [← hget]; rfl
      · show AV.drop 0 (vI .i64 ((xs.map eI).length)) = _; rw [List.length_map]; rfl
      · rw [insK_len, List.map_append, ← hget]; rfl
    rintro k ⟨hk, hd⟩ ihk
    have hsz := insK_size xs x k hk
    have done : (∀ y ∈ xs.take k, ltI y x) → ASat Try.prog 18 Try.f18.ntmps C _ [(0, .d (eIs c)), (3, .gs 0), (4, vI .i64 ((i + 1 : Nat) : Int))] [some (gIs (xs.take k ++ x :: xs.drop k))] (fun r o => r = .d (eIs (sortU c))) := fun h2 => ih (i + 1, xs.take k ++ x :: xs.drop k) ⟨by simp; omega, ins_pw hp hk hd h2, by simp; omega, fun y => by
      simp only
      rw [ins_mem, htk, List.mem_append, List.mem_singleton, hm]⟩ (by simp; omega)
    refine sat_drawQ tabOk Try.func18 rfl rfl trivial (by kernel_rfl) ?_
    refine qs_branch tabOk rfl trivial (fun h2 => ?_) (fun h2 => ?_)
    · have h2 : 0 < k := by simpa using h2
      obtain ⟨j, rfl⟩ : ∃ j, k = j + 1 := ⟨k - 1, by omega⟩
      have hlj : j < xs.length := by omega
      have w1 : IntKind.i64.wrap (((j + 1 : Nat) : Int) - 1) = (j : Int) := by rw [wrap_id (by omega) (by omega)]; omega
      have hg := insK_get xs x j hlj
      have hyc : xs[j] ∈ c := List.mem_of_mem_take ((hm _).1 (List.getElem_mem hlj))
      obtain ⟨y1, y2⟩ := hc _ hyc
      have hyx : x ≠ xs[j] := fun e => h1 (e ▸ List.getElem_mem hlj)
      have w2 : IntKind.i64.wrap (0 - xs[j]) = -xs[j] := by rw [wrap_id (by omega) (by omega), Int.zero_sub]
      have htj : xs.take (j + 1) = xs.take j ++ [xs[j]] := by rw [List.take_add_one]; simp [hlj]
      have hdj : xs.drop j = xs[j] :: xs.drop (j + 1) := List.drop_eq_getElem_cons hlj
      have hset := insK_set xs x j hlj
      have hpj : ∀ y ∈ xs.take j, ltI y xs[j] := by
        intro y hy
        obtain ⟨q, hq, rfl⟩ := List.mem_take_iff_getElem.1 hy
        exact (List.pairwise_iff_getElem.1 hp) q j (by omega) hlj (by omega)
      have hfix : ¬ ltI x xs[j] → ∀ y ∈ xs.take (j + 1), ltI y x := by
        intro hn y hy
        have hlt2 := lt_of_le_ne hn (fun e => hyx e.symm)
        rw [htj] at hy
        rcases List.mem_append.1 hy with hy | hy
        · exact ltI_trans (hpj y hy) hlt2
        · rw [List.mem_singleton.1 hy]; exact hlt2
      generalize hyy : xs[j] = y at *
      have again : ltI x y → ASat Try.prog 18 Try.f18.ntmps C _ _ _ _ := fun hlt2 => ihk j ⟨by omega, fun z hz => by
        rw [hdj] at hz
        rcases List.mem_cons.1 hz with rfl | hz
        · exact hlt2
        · exact hd z hz⟩ (by omega)
      refine qs_branch tabOk rfl ?_ (fun h3 => ?_) (fun h3 => ?_)
      · exact (by simp only [andP, and_true, true_and, Int.toNat_natCast, List.length_map, List.length_append, List.length_cons, List.length_nil, List.length_replicate, w1, hsz]; omega)
      · simp only [w1, Int.toNat_natCast, hg, e1, w2, decide_eq_true_eq] at h3
        refine qs_done tabOk rfl trivial ?_
        refine sat_branch tabOk Try.func18 rfl trivial (fun _ => ?_) (fun h => by cases h)
        refine sat_stop tabOk Try.func18 rfl ?_ ?_
        · exact (by simp only [andP, and_true, true_and, Int.toNat_natCast, List.length_map, List.length_append, List.length_cons, List.length_nil, List.length_replicate, w1, hsz]; omega)
        refine sat_le (again (by unfold ltI; omega)) hC hCl ⟨⟨_, rfl, .refl _⟩, ⟨_, rfl, .refl _⟩, ⟨_, rfl, .refl _⟩, ⟨_, rfl, .refl _⟩, ⟨_, rfl, .of ?_⟩, trivial⟩ ⟨.gL ?_, trivial⟩ rfl rfl (Nat.zero_le _)
        · rw [w1]
        · rw [← hset, List.map_set, ← hg, w1]; rfl
      · simp only [w1, Int.toNat_natCast, hg, e1, w2, decide_eq_false_iff_not] at h3
        refine qs_branch tabOk rfl ?_ (fun h4 => ?_) (fun h4 => ?_)
        · exact (by simp only [andP, and_true, true_and, Int.toNat_natCast, List.length_map, List.length_append, List.length_cons, List.length_nil, List.length_replicate, w1, hsz]; omega)
        · simp only [w1, Int.toNat_natCast, hg, e1, w2, beq_iff_eq] at h4
          refine qs_done tabOk rfl trivial ?_
          refine sat_branch tabOk Try.func18 rfl trivial (fun h5 => ?_) (fun h5 => ?_)
          · have h5 : x < 0 := by simpa using h5
            refine sat_stop tabOk Try.func18 rfl ?_ ?_
            · exact (by simp only [andP, and_true, true_and, Int.toNat_natCast, List.length_map, List.length_append, List.length_cons, List.length_nil, List.length_replicate, w1, hsz]; omega)
            refine sat_le (again (by unfold ltI; omega)) hC hCl ⟨⟨_, rfl, .refl _⟩, ⟨_, rfl, .refl _⟩, ⟨_, rfl, .refl _⟩, ⟨_, rfl, .refl _⟩, ⟨_, rfl, .of ?_⟩, trivial⟩ ⟨.gL ?_, trivial⟩ rfl rfl (Nat.zero_le _)
            · rw [w1]
            · rw [← hset, List.map_set, ← hg, w1]; rfl
          · have h5 : ¬ x < 0 := by simpa using h5
            refine sat_stop tabOk Try.func18 rfl ?_ ?_
            · exact (by simp only [andP, and_true, true_and, Int.toNat_natCast, List.length_map, List.length_append, List.length_cons, List.length_nil, List.length_replicate, hsz]; omega)
            refine sat_le (done (hfix (by unfold ltI; omega))) hC hCl ⟨⟨_, rfl, .refl _⟩, ⟨_, rfl, .refl _⟩, ⟨_, rfl, .of (by rw [wrap_id (by omega) (by omega)]; rfl)⟩, trivial⟩ ⟨.gL ?_, trivial⟩ rfl rfl (Nat.zero_le _)
            rw [← insK_fin xs x (j + 1) hk, List.map_set]
            rfl
        · simp only [w1, Int.toNat_natCast, hg, e1, w2, beq_eq_false_iff_ne] at h4
          refine qs_done tabOk rfl trivial ?_
          refine sat_branch tabOk Try.func18 rfl trivial (fun h => by cases h) (fun _ => ?_)
          refine sat_stop tabOk Try.func18 rfl ?_ ?_
          · exact (by simp only [andP, and_true, true_and, Int.toNat_natCast, List.length_map, List.length_append, List.length_cons, List.length_nil, List.length_replicate, hsz]; omega)
          refine sat_le (done (hfix (by unfold ltI; omega))) hC hCl ⟨⟨_, rfl, .refl _⟩, ⟨_, rfl, .refl _⟩, ⟨_, rfl, .of (by rw [wrap_id (by omega) (by omega)]; rfl)⟩, trivial⟩ ⟨.gL ?_, trivial⟩ rfl rfl (Nat.zero_le _)
          rw [← insK_fin xs x (j + 1) hk, List.map_set]
          rfl
    · have h2 : k = 0 := by
        have : ¬ 0 < k := by simpa using h2
        omega
      subst h2
      refine qs_done tabOk rfl trivial ?_
      refine sat_branch tabOk Try.func18 rfl trivial (fun h => by cases h) (fun _ => ?_)
      refine sat_stop tabOk Try.func18 rfl ?_ ?_
      · exact (by simp only [andP, and_true, true_and, Int.toNat_natCast, List.length_map, List.length_append, List.length_cons, List.length_nil, List.length_replicate, hsz]; omega)
      refine sat_le (done (by simp)) hC hCl ⟨⟨_, rfl, .refl _⟩, ⟨_, rfl, .refl _⟩, ⟨_, rfl, .of (by rw [wrap_id (by omega) (by omega)]; rfl)⟩, trivial⟩ ⟨.gL ?_, trivial⟩ rfl rfl (Nat.zero_le _)
      rw [← insK_fin xs x 0 hk, List.map_set]
      rfl
  · obtain rfl : i = c.length := by omega
    rw [List.take_length] at hm
    refine sat_freeze 0 rfl ?_
    refine sat_ret tabOk Try.func18 rfl trivial ?_
    rw [sortU_eq hp hm]
    rfl
end Go.Proofs.Ytdnpkeahgpbkoaa
namespace Go.Proofs.Ytdnpkeahgpbkoaa
open Go Ab
set_option maxRecDepth 100000
set_option linter.unusedVariables false
set_option linter.unusedSimpArgs false

theorem litOk_b {n x : Int} (h : litOk n x) (hn : n ≤ 100000) : -1000000 ≤ x ∧ x ≤ 1000000 := by obtain ⟨_, h1, h2⟩ := h; omega
/-- A clause that is left one literal. -/
def One (l : List (List Int)) (xs : List Int) (x : Int) : Prop := x ≠ 0 ∧ ∃ c ∈ l, x ∈ c ∧ x ∉ xs ∧ -x ∉ xs ∧ ∀ y ∈ c, y ≠ x → -y ∈ xs

theorem RClose_call {n : Int} {l : List (List Int)} {a : List Int} (hok : Okl n l a) (hn : n ≤ 100000) (hll : l.length ≤ 1000000) (ha : a.length ≤ 1000000) : ACall Try.prog 13 [vI .i64 n, .d (eIss l), .d (eIs a)] [] (closeR l a) := by
  refine acall_enter Try.func13 rfl rfl (Nat.le_of_ble_eq_true rfl) fun C hC hCl => ?_
  have hn0 := hok.n0
  refine sat_call tabOk Try.func13 rfl trivial (RSort_call a (fun y hy => litOk_b (hok.asm y hy) hn) ha) (.refl _) rfl ⟨_, rfl⟩ (by rintro r o rfl; rfl) ?_
  rintro r o rfl
  have hm0 : ∀ x, x ∈ sortU a ↔ x ∈ a := sortU_mem a
  have hp0 := sortU_pw a
  have hfo0 : ∀ x ∈ sortU a, Fo l a x := fun x hx => .mem ((hm0 x).1 hx)
  have hlit0 : ∀ x ∈ sortU a, litOk n x := fun x hx => hok.asm x ((hm0 x).1 hx)
  have hln := sortU_len a
  generalize hs0 : sortU a = s0 at *
  refine sat_stop tabOk Try.func13 rfl trivial ?_
  refine sat_while (α := Nat) (fun i => [(0, vI .i64 n), (1, .d (eIss l)), (8, .d (eIs s0)), (9, vI .i64 i)]) (fun _ => []) (fun i => i ≤ s0.length ∧ ∀ x ∈ s0.take i, -x ∉ s0) (fun i => s0.length - i) 0 ⟨Nat.zero_le _, by simp⟩ ?_ ?_
  · exact fun h => sat_le h hC hCl ⟨⟨_, rfl, .refl _⟩, ⟨_, rfl, .refl _⟩, ⟨_, rfl, .refl _⟩, ⟨_, rfl, .refl _⟩, trivial⟩ trivial rfl rfl (Nat.zero_le _)
  rintro i ⟨hi, hd⟩ ih
  refine sat_branch tabOk Try.func13 rfl trivial (fun hb => ?_) (fun hb => ?_) <;> simp only [decide_eq_true_eq, decide_eq_false_iff_not, List.length_map] at hb
  · have hlt : i < s0.length := by omega
    have hget : s0.getD i 0 = s0[i] := by simp [hlt]
    have htk : s0.take (i + 1) = s0.take i ++ [s0[i]] := by rw [List.take_add_one]; simp [hlt]
    have hx0 := List.getElem_mem hlt
    generalize hx : s0[i] = x at *
    obtain ⟨b1, b2⟩ := litOk_b (hlit0 x hx0) hn
    have e1 : IntKind.i64.wrap (0 - x) = -x := by rw [wrap_id (by omega) (by omega), Int.zero_sub]
    refine sat_call tabOk Try.func13 rfl ?_ (In_call s0 (-x)) ⟨.refl _, .of (by show vI .i64 (IntKind.i64.wrap (0 - s0.getD i 0)) = _; rw [hget, e1]), trivial⟩ rfl ⟨_, rfl⟩ (by rintro r o rfl; rfl) ?_
    · simp only [Int.toNat_natCast, List.length_map]; exact ⟨⟨by omega, by omega⟩, trivial⟩
    rintro r o rfl
    refine sat_branch tabOk Try.func13 rfl trivial (fun h1 => ?_) (fun h1 => ?_)
    · have h1 : -x ∈ s0 := by simpa using h1
      refine sat_ret tabOk Try.func13 rfl trivial (.inl ⟨rfl, .inl ⟨x, hfo0 x hx0, hfo0 _ h1⟩⟩)
    have h1 : -x ∉ s0 := by simpa using h1
    refine sat_stop tabOk Try.func13 rfl trivial ?_
    refine sat_le (ih (i + 1) ⟨by omega, fun y hy => ?_⟩ (by omega)) hC hCl ⟨⟨_, rfl, .refl _⟩, ⟨_, rfl, .refl _⟩, ⟨_, rfl, .refl _⟩, ⟨_, rfl, .of (by rw [wrap_id (by omega) (by omega)]; rfl)⟩, trivial⟩ trivial rfl rfl (Nat.zero_le _)
    rw [htk] at hy
    rcases List.mem_append.1 hy with hy | hy
    · exact hd y hy
    · rw [List.mem_singleton.1 hy]; exact h1
  obtain rfl : i = s0.length := by omega
  rw [List.take_length] at hd
  clear ih
  have hrf0 : Rf l a s0 := ⟨fun x hx => (hm0 x).2 hx, hfo0, hd⟩
  refine sat_stop tabOk Try.func13 rfl trivial ?_
  refine sat_while (α := List Int) (fun xs => [(0, vI .i64 n), (1, .d (eIss l)), (8, .d (eIs xs))]) (fun _ => []) (fun xs => Rf l a xs ∧ xs.Pairwise ltI ∧ ∀ x ∈ xs, litOk n x) (fun xs => n.toNat + 1 - xs.length) s0 ⟨hrf0, hp0, hlit0⟩ ?_ ?_
  · exact fun h => sat_le h hC hCl ⟨⟨_, rfl, .refl _⟩, ⟨_, rfl, .refl _⟩, ⟨_, rfl, .refl _⟩, trivial⟩ trivial rfl rfl (Nat.zero_le _)
  rintro xs ⟨hrf, hp, hlit⟩ ih
  have hxl := pw_len hp hlit hrf.con
  refine sat_stop tabOk Try.func13 rfl trivial ?_
  refine sat_while (α := Nat × Int) (fun s => [(0, vI .i64 n), (1, .d (eIss l)), (8, .d (eIs xs)), (11, vI .i64 s.2), (12, vI .i64 s.1)]) (fun _ => []) (fun s => s.1 ≤ l.length ∧ (s.2 = 0 → ∀ c ∈ l.take s.1, leftW xs 0 c = (0, 2)) ∧ (s.2 ≠ 0 → One l xs s.2)) (fun s => l.length - s.1) (0, 0) ⟨Nat.zero_le _, by simp, by simp⟩ ?_ ?_
  · exact fun h => sat_le h hC hCl ⟨⟨_, rfl, .refl _⟩, ⟨_, rfl, .refl _⟩, ⟨_, rfl, .refl _⟩, ⟨_, rfl, .refl _⟩, ⟨_, rfl, .refl _⟩, trivial⟩ trivial rfl rfl (Nat.zero_le _)
  rintro ⟨i, more⟩ ⟨hi, hz, hone⟩ ihi
  simp only at hi hz hone ⊢
  refine sat_branch tabOk Try.func13 rfl trivial (fun hb => ?_) (fun hb => ?_) <;> simp only [decide_eq_true_eq, decide_eq_false_iff_not, List.length_map] at hb
  · have hlt : i < l.length := by omega
    have hget : l.getD i [] = l[i] := by simp [hlt]
    have htk : l.take (i + 1) = l.take i ++ [l[i]] := by rw [List.take_add_one]; simp [hlt]
    have hcl := List.getElem_mem hlt
    generalize hcc : l[i] = c at *
    refine sat_call tabOk Try.func13 rfl ?_ (left_call xs c (fun y hy => litOk_b (hok.cl c hcl y hy) hn)) ⟨.refl _, .of (by show AV.d (eIs (l.getD i [])) = _; rw [hget]), trivial⟩ rfl ⟨_, rfl⟩ (by rintro r o rfl; rfl) ?_
    · simp only [Int.toNat_natCast, List.length_map]; exact ⟨⟨by omega, by omega⟩, trivial⟩
    rintro r o rfl
    rcases left_cases xs c (fun y hy => (hok.cl c hcl y hy).1) with ⟨e, h2⟩ | ⟨x, e, h1, h2, h3, h4, h5⟩ | ⟨e, h2⟩
    · rw [e]
      refine sat_branch tabOk Try.func13 rfl trivial (fun _ => ?_) (fun h => by cases h)
      refine sat_ret tabOk Try.func13 rfl trivial (.inl ⟨rfl, rf_clash hrf.fo hcl h2⟩)
    · rw [e]
      refine sat_branch tabOk Try.func13 rfl trivial (fun h => by cases h) (fun _ => ?_)
      refine sat_branch tabOk Try.func13 rfl trivial (fun _ => ?_) (fun h => by cases h)
      refine sat_stop tabOk Try.func13 rfl trivial ?_
      exact sat_le (ihi (i + 1, x) ⟨by simp; omega, fun h => absurd h h1, fun _ => ⟨h1, c, hcl, h4, h2, h3, h5⟩⟩ (by simp; omega)) hC hCl ⟨⟨_, rfl, .refl _⟩, ⟨_, rfl, .refl _⟩, ⟨_, rfl, .refl _⟩, ⟨_, rfl, .refl _⟩, ⟨_, rfl, .of (by rw [wrap_id (by omega) (by omega)]; rfl)⟩, trivial⟩ trivial rfl rfl (Nat.zero_le _)
    · rw [e]
      refine sat_branch tabOk Try.func13 rfl trivial (fun h => by cases h) (fun _ => ?_)
      refine sat_branch tabOk Try.func13 rfl trivial (fun h => by cases h) (fun _ => ?_)
      refine sat_stop tabOk Try.func13 rfl trivial ?_
      refine sat_le (ihi (i + 1, more) ⟨by simp; omega, fun h d hd => ?_, hone⟩ (by simp; omega)) hC hCl ⟨⟨_, rfl, .refl _⟩, ⟨_, rfl, .refl _⟩, ⟨_, rfl, .refl _⟩, ⟨_, rfl, .refl _⟩, ⟨_, rfl, .of (by rw [wrap_id (by omega) (by omega)]; rfl)⟩, trivial⟩ trivial rfl rfl (Nat.zero_le _)
      simp only at hd
      rw [htk] at hd
      rcases List.mem_append.1 hd with hd | hd
      · exact hz h d hd
      · rw [List.mem_singleton.1 hd]; exact e
  obtain rfl : i = l.length := by omega
  rw [List.take_length] at hz
  refine sat_branch tabOk Try.func13 rfl trivial (fun hb => ?_) (fun hb => ?_)
  · have hb : more = 0 := by simpa using hb
    obtain ⟨h1, h2⟩ := rf_done hok hrf (hz hb)
    exact sat_ret tabOk Try.func13 rfl trivial (.inr ⟨xs, rfl, h1, hp, h2⟩)
  have hb : more ≠ 0 := by simpa using hb
  obtain ⟨h1, c, hcl, h2, h3, h4, h5⟩ := hone hb
  refine sat_steps 9 tabOk Try.func13 rfl ?_ ?_
  · exact (by simp only [andP, and_true, true_and, Int.toNat_natCast, List.length_map, List.length_append, List.length_cons, List.length_nil, List.length_replicate]; omega)
  refine sat_freeze 0 rfl ?_
  refine sat_call tabOk Try.func13 rfl trivial (RSort_call (xs ++ [more]) (fun y hy => ?_) (by simp; omega)) ⟨.eL (by rw [List.map_append]; rfl), trivial⟩ rfl ⟨_, rfl⟩ (by rintro r o rfl; rfl) ?_
  · rcases List.mem_append.1 hy with hy | hy
    · exact litOk_b (hlit y hy) hn
    · rw [List.mem_singleton.1 hy]; exact litOk_b (hok.cl c hcl _ h2) hn
  rintro r o rfl
  refine sat_stop tabOk Try.func13 rfl trivial ?_
  have hlit2 : ∀ x ∈ sortU (xs ++ [more]), litOk n x := by
    intro x hx
    rw [sortU_mem] at hx
    rcases List.mem_append.1 hx with hx | hx
    · exact hlit x hx
    · rw [List.mem_singleton.1 hx]; exact hok.cl c hcl _ h2
  have hrf2 := rf_more hrf h1 hcl h2 h3 h4 h5
  have hl2 := pw_len (sortU_pw _) hlit2 hrf2.con
  have hl3 := sort_len hp h3
  exact sat_le (ih (sortU (xs ++ [more])) ⟨hrf2, sortU_pw _, hlit2⟩ (by omega)) hC hCl ⟨⟨_, rfl, .refl _⟩, ⟨_, rfl, .refl _⟩, ⟨_, rfl, .refl _⟩, trivial⟩ trivial rfl rfl (Nat.zero_le _)

theorem RRefutes_call {n : Int} {l : List (List Int)} {c : List Int} (hok : Okl n l c) (hn : n ≤ 100000) (hll : l.length ≤ 1000000) (hc : c.length ≤ 1000000) : ACall Try.prog 16 [vI .i64 n, .d (eIss l), .d (eIs c)] [] (refR l c) := by
  refine acall_enter Try.func16 rfl rfl (Nat.le_of_ble_eq_true rfl) fun C hC hCl => ?_
  refine sat_stop tabOk Try.func16 rfl trivial ?_
  refine sat_own (e := 3) (s := 1) (t := 7) (.inl rfl) (fun i => eI (([] : List Int).getD i 0)) ?_
  refine sat_while (α := Nat) (fun i => [(0, vI .i64 n), (1, .d (eIss l)), (2, .d (eIs c)), (7, .gs 0), (8, vI .i64 i)]) (fun i => [some (gIs ((c.take i).map fun x => -x))]) (fun i => i ≤ c.length) (fun i => c.length - i) 0 (Nat.zero_le _) ?_ ?_
  · exact fun h => sat_le h hC hCl ⟨⟨_, rfl, .refl _⟩, ⟨_, rfl, .refl _⟩, ⟨_, rfl, .refl _⟩, ⟨_, rfl, .refl _⟩, ⟨_, rfl, .refl _⟩, trivial⟩ ⟨.gL (by simp), trivial⟩ rfl rfl (Nat.zero_le _)
  rintro i hi ih
  refine sat_branch tabOk Try.func16 rfl trivial (fun hb => ?_) (fun hb => ?_) <;> simp only [decide_eq_true_eq, decide_eq_false_iff_not, List.length_map] at hb
  · have hlt : i < c.length := by omega
    have hget : c.getD i 0 = c[i] := by simp [hlt]
    have htk : c.take (i + 1) = c.take i ++ [c[i]] := by rw [List.take_add_one]; simp [hlt]
    have hxb := litOk_b (hok.asm _ (List.getElem_mem hlt)) hn
    generalize hx : c[i] = x at *
    have e1 : IntKind.i64.wrap (0 - x) = -x := by rw [wrap_id (by omega) (by omega), Int.zero_sub]
    refine sat_stop tabOk Try.func16 rfl ?_ ?_
    · exact (by simp only [andP, and_true, true_and, Int.toNat_natCast, List.length_map, List.length_append, List.length_cons, List.length_nil, List.length_replicate, List.length_take]; omega)
    refine sat_le (ih (i + 1) (by omega) (by omega)) hC hCl ⟨⟨_, rfl, .refl _⟩, ⟨_, rfl, .refl _⟩, ⟨_, rfl, .refl _⟩, ⟨_, rfl, .refl _⟩, ⟨_, rfl, .of (by rw [wrap_id (by omega) (by omega)]; rfl)⟩, trivial⟩ ⟨.gL ?_, trivial⟩ rfl rfl (Nat.zero_le _)
    rw [htk, List.map_append, List.map_append, List.map_cons, ← e1, ← hget]
    rfl
  obtain rfl : i = c.length := by omega
  refine sat_freeze 0 rfl ?_
  rw [List.take_length]
  refine sat_call tabOk Try.func16 rfl trivial (RClose_call (okl_neg hok) hn hll (by simpa using hc)) (.refl _) rfl ⟨_, rfl⟩ closeR_refs ?_
  rintro r o (⟨rfl, h⟩ | ⟨xs, rfl, h⟩)
  · exact sat_ret tabOk Try.func16 rfl trivial ⟨true, rfl, fun _ => h, fun _ => rfl⟩
  · exact sat_ret tabOk Try.func16 rfl trivial ⟨false, rfl, fun h => (by cases h), fun h2 => absurd h2 h.1⟩
end Go.Proofs.Ytdnpkeahgpbkoaa
namespace Go.Proofs.Ytdnpkeahgpbkoaa
open Go Ab
set_option maxRecDepth 100000
set_option linter.unusedVariables false
set_option linter.unusedSimpArgs false

/-- What both tell is the same. -/
theorem closeR_same {l : List (List Int)} {a xs ys : List Int} (h : Clo l a xs) (k : Clo l a ys) : xs = ys :=
  pw_unique h.2.1 k.2.1 fun x => by rw [h.2.2, k.2.2]
theorem refR_same {l : List (List Int)} {c : List Int} {b d : Bool} (h : b = true ↔ Cf l (c.map fun x => -x)) (k : d = true ↔ Cf l (c.map fun x => -x)) : b = d := by
  cases b <;> cases d <;> simp_all
theorem refR_refs {l : List (List Int)} {c : List Int} : ∀ r o, refR l c r o → refsB 0 r = true := by rintro r o ⟨b, rfl, _⟩; rfl

theorem UnitTells_law (n : Int) (l : List (List Int)) (c : List Int) (hll : l.length ≤ maxLen) (hlc : ∀ c ∈ l, c.length ≤ maxLen) (hcm : c.length ≤ maxLen) : ACall Try.prog 3 [vI .i64 n, .d (eIss l), .d (eIs c)] [] (fun r _ => r = vB true) := by
  refine acall_enter Try.func3 rfl rfl (Nat.le_of_ble_eq_true rfl) fun C hC hCl => ?_
  refine sat_call tabOk Try.func3 rfl trivial shown_call trivial rfl ⟨_, rfl⟩ (by rintro r o rfl; rfl) ?_
  rintro r o rfl
  refine sat_call tabOk Try.func3 rfl trivial (may_call n l c hll hlc hcm) (.refl _) rfl ⟨_, rfl⟩ (by rintro r o ⟨b, rfl, _⟩; rfl) ?_
  rintro r o ⟨b, rfl, hmay⟩
  refine sat_branch tabOk Try.func3 rfl trivial (fun h => ?_) (fun h => ?_)
  · exact sat_ret tabOk Try.func3 rfl trivial rfl
  have hb : b = true := by simpa using h
  have hm := hmay hb
  obtain ⟨hok, hn1, hlt0, hc40⟩ := may_ok hm
  have hl40 : l.length ≤ 40 := hm.2.2.1
  have hcb : ∀ x ∈ c, -1000000 ≤ x ∧ x ≤ 1000000 := fun x hx => litOk_b (hok.asm x hx) hn1
  refine sat_call tabOk Try.func3 rfl trivial (close_c hok hn1 (by omega)) (.refl _) rfl ⟨_, rfl⟩ closeR_refs ?_
  rintro r o (⟨rfl, hcf⟩ | ⟨xs, rfl, hx⟩)
  all_goals refine sat_call tabOk Try.func3 rfl trivial (RClose_call hok hn1 (by omega) (by omega)) (.refl _) rfl ⟨_, rfl⟩ closeR_refs ?_
  all_goals rintro r o (⟨rfl, hcf2⟩ | ⟨ys, rfl, hy⟩)
  · refine sat_branch tabOk Try.func3 rfl trivial (fun _ => ?_) (fun h => by cases h)
    refine sat_call tabOk Try.func3 rfl trivial (Ints_call [] []) ⟨.nil, .nil, trivial⟩ rfl ⟨_, rfl⟩ (by rintro r o rfl; rfl) ?_
    rintro r o rfl
    refine sat_branch tabOk Try.func3 rfl trivial (fun _ => ?_) (fun h => by simp at h)
    refine sat_branch tabOk Try.func3 rfl trivial (fun _ => ?_) (fun h => by cases h)
    refine sat_call tabOk Try.func3 rfl trivial (refutes_c hok hn1 (by omega) (by omega)) (.refl _) rfl ⟨_, rfl⟩ refR_refs ?_
    rintro r o ⟨b1, rfl, hb1⟩
    refine sat_call tabOk Try.func3 rfl trivial (RRefutes_call hok hn1 (by omega) (by omega)) (.refl _) rfl ⟨_, rfl⟩ refR_refs ?_
    rintro r o ⟨b2, rfl, hb2⟩
    obtain rfl := refR_same hb1 hb2
    refine sat_branch tabOk Try.func3 rfl trivial (fun _ => ?_) (fun h => by simp at h)
    refine sat_call tabOk Try.func3 rfl trivial (Sort_call c hcb (by omega)) (.refl _) rfl ⟨_, rfl⟩ (by rintro r o rfl; rfl) ?_
    rintro r o rfl
    refine sat_call tabOk Try.func3 rfl trivial (RSort_call c hcb (by omega)) (.refl _) rfl ⟨_, rfl⟩ (by rintro r o rfl; rfl) ?_
    rintro r o rfl
    refine sat_call tabOk Try.func3 rfl trivial (Ints_call _ _) (.refl _) rfl ⟨_, rfl⟩ (by rintro r o rfl; rfl) ?_
    rintro r o rfl
    refine sat_ret tabOk Try.func3 rfl trivial ?_
    show vB _ = vB true
    simp
  · exact absurd hcf hy.1
  · exact absurd hcf2 hx.1
  · obtain rfl := closeR_same hx hy
    refine sat_branch tabOk Try.func3 rfl trivial (fun _ => ?_) (fun h => by cases h)
    refine sat_call tabOk Try.func3 rfl trivial (Ints_call xs xs) (.refl _) rfl ⟨_, rfl⟩ (by rintro r o rfl; rfl) ?_
    rintro r o rfl
    refine sat_branch tabOk Try.func3 rfl trivial (fun _ => ?_) (fun h => by simp at h)
    refine sat_branch tabOk Try.func3 rfl trivial (fun _ => ?_) (fun h => by cases h)
    refine sat_call tabOk Try.func3 rfl trivial (refutes_c hok hn1 (by omega) (by omega)) (.refl _) rfl ⟨_, rfl⟩ refR_refs ?_
    rintro r o ⟨b1, rfl, hb1⟩
    refine sat_call tabOk Try.func3 rfl trivial (RRefutes_call hok hn1 (by omega) (by omega)) (.refl _) rfl ⟨_, rfl⟩ refR_refs ?_
    rintro r o ⟨b2, rfl, hb2⟩
    obtain rfl := refR_same hb1 hb2
    refine sat_branch tabOk Try.func3 rfl trivial (fun _ => ?_) (fun h => by simp at h)
    refine sat_call tabOk Try.func3 rfl trivial (Sort_call c hcb (by omega)) (.refl _) rfl ⟨_, rfl⟩ (by rintro r o rfl; rfl) ?_
    rintro r o rfl
    refine sat_call tabOk Try.func3 rfl trivial (RSort_call c hcb (by omega)) (.refl _) rfl ⟨_, rfl⟩ (by rintro r o rfl; rfl) ?_
    rintro r o rfl
    refine sat_call tabOk Try.func3 rfl trivial (Ints_call _ _) (.refl _) rfl ⟨_, rfl⟩ (by rintro r o rfl; rfl) ?_
    rintro r o rfl
    refine sat_ret tabOk Try.func3 rfl trivial ?_
    show vB _ = vB true
    simp
end Go.Proofs.Ytdnpkeahgpbkoaa
set_option linter.unusedSimpArgs false
set_option linter.unusedVariables false
namespace Ab
open Go

/-- Whatever lies at a type's place and is read, is data of a shape. -/
structure Reads (P : Program) (t : TypeId) {α : Type} (enc : α → D) (Q : α → Prop) : Prop where
  len : ∀ a, (enc a).cells.length = P.cellsOf t
  rd : ∀ {H : Type} (eH : TypeId × Value → H) (w : World) (fuel : Nat) (cs : List Value) (x : DataW H × List MemPlace) (ok : Nat → Prop), (∀ b, ok b) → DataW.trod eH P w 0 (fun _ => true) true fuel t cs = some x → ∃ a, Q a ∧ RelL w ok (enc a).cells cs

theorem reads_int {P : Program} {t : TypeId} {k : IntKind} (ht : P.underlying t = some (.int k)) (hs : P.cellsOf t = 1) : Reads P t (fun n : Int => D.v (.int k n)) (fun n => (Lit.int k n).wf = true) where
  len a := by rw [hs]; rfl
  rd eH w fuel cs x ok hok h := by
    obtain ⟨n, rfl, _, hw⟩ := DataW.trod_int ht h
    exact ⟨n, hw, .cons (.v rfl) rfl .nil⟩
theorem reads_bool {P : Program} {t : TypeId} (ht : P.underlying t = some .bool) (hs : P.cellsOf t = 1) : Reads P t (fun b : Bool => D.v (.bool b)) (fun _ => True) where
  len a := by rw [hs]; rfl
  rd eH w fuel cs x ok hok h := by
    cases fuel with
    | zero => simp [DataW.trod] at h
    | succ n =>
      unfold DataW.trod at h
      rw [ht] at h
      split at h <;> simp_all
      rename_i b
      cases b
      · exact .inl (.cons (.v rfl) rfl .nil)
      · exact .inr (.cons (.v rfl) rfl .nil)
theorem reads_string {P : Program} {t : TypeId} (ht : P.underlying t = some .string) (hs : P.cellsOf t = 1) : Reads P t (fun b : ByteArray => D.v (.string b)) (fun b => b.size ≤ maxLen) where
  len a := by rw [hs]; rfl
  rd eH w fuel cs x ok hok h := by
    cases fuel with
    | zero => simp [DataW.trod] at h
    | succ n =>
      unfold DataW.trod at h
      rw [ht] at h
      split at h <;> simp_all
      rename_i b
      exact ⟨b, h.1, .cons (.v rfl) rfl .nil⟩

theorem add_add (a : Addr) (m n : Nat) : (a.add m).add n = a.add (m + n) := by
  unfold Addr.add
  by_cases h1 : m = 0
  · subst h1; simp
  · by_cases h2 : n = 0
    · subst h2; simp [h1]
    · simp [h1, h2, Nat.add_assoc]
theorem rows_read {P : Program} {e : TypeId} {α : Type} {enc : α → D} {Q : α → Prop} (R : Reads P e enc Q) {H : Type} (eH : TypeId × Value → H) (w : World) (n : Nat) (ok : Nat → Prop) (hok : ∀ b, ok b) {a : Addr} {elems : List (DataW H × List MemPlace)}
    (hel : ∀ i, i < elems.length → (w.cells? 0 (a.add (i * P.cellsOf e)) (P.cellsOf e)).bind (DataW.trod eH P w 0 (fun _ => true) true n e) = elems[i]?) :
    ∀ k, k ≤ elems.length → ∃ (l : List α) (us : List Value), l.length = k ∧ (∀ x ∈ l, Q x) ∧ RelE w ok (P.cellsOf e) (l.map enc) us ∧ ∀ i, i < us.length → w.cell? (a.add i) = us[i]?
  | 0, _ => ⟨[], [], rfl, by simp, .nil, by simp⟩
  | k + 1, hk => by
    obtain ⟨l, us, h1, h2, h3, h4⟩ := rows_read R eH w n ok hok hel k (by omega)
    have hk' := hel k (by omega)
    rw [List.getElem?_eq_getElem (by omega : k < elems.length)] at hk'
    obtain ⟨vs, e1, e2⟩ := Option.bind_eq_some_iff.1 hk'
    obtain ⟨x, q1, q2⟩ := R.rd eH w n vs _ ok hok e2
    obtain ⟨_, e3, e4⟩ := World.cells?_some e1
    have hul : us.length = k * P.cellsOf e := by rw [h3.length, List.length_map, h1]
    refine ⟨l ++ [x], us ++ vs, by simp [h1], ?_, ?_, ?_⟩
    · intro y hy
      rcases List.mem_append.1 hy with hy | hy
      · exact h2 y hy
      · rw [List.mem_singleton.1 hy]; exact q1
    · rw [List.map_append]
      refine h3.append ?_
      have := RelE.cons (s := P.cellsOf e) q2 e3 (RelE.nil (w := w) (ok := ok))
      simpa using this
    · intro i hi
      rcases Nat.lt_or_ge i us.length with hlt | hge
      · rw [List.getElem?_append_left hlt]
        exact h4 i hlt
      · rw [List.getElem?_append_right hge]
        have hlt : i - us.length < P.cellsOf e := by simp at hi; omega
        have := e4 (i - us.length) hlt
        rw [← this, add_add, show k * P.cellsOf e + (i - us.length) = i by omega]

theorem reads_slice {P : Program} {t e : TypeId} {s : Nat} {α : Type} {enc : α → D} {Q : α → Prop} (d0 : α) (ht : P.underlying t = some (.slice e)) (hs : P.cellsOf t = 1) (he : P.cellsOf e = s) (h0 : 0 < s) (R : Reads P e enc Q) : Reads P t (eL s enc d0) (fun l => (∀ a ∈ l, Q a) ∧ l.length ≤ maxLen) where
  len a := by rw [hs]; rfl
  rd eH w fuel cs x ok hok h := by
    rcases DataW.trod_slice ht h with ⟨rfl, rfl⟩ | ⟨a, len, cap, elems, rest, n, rfl, rfl, rfl, _, hl, hm, hlen, hel, _, _⟩
    · exact ⟨[], ⟨by simp, Nat.zero_le _⟩, .cons (.nil (Nat.zero_le _)) rfl .nil⟩
    · obtain ⟨l, us, h1, h2, h3, h4⟩ := rows_read R eH w n ok hok (a := a) (elems := elems) (by rw [hlen]; exact hel) len (by omega)
      refine ⟨l, ⟨h2, by omega⟩, .cons ?_ rfl .nil⟩
      rw [he] at h3
      by_cases hz : len = 0
      · subst hz
        have : l = [] := List.length_eq_zero_iff.1 h1
        subst this
        exact .nil hm
      · have hul : 0 < us.length := by
          rw [h3.length, List.length_map, h1]
          exact Nat.mul_pos (by omega) h0
        have hspot : a.spot = none := by
          have := h4 0 hul
          rw [List.getElem?_eq_getElem hul, show a.add 0 = a from rfl] at this
          unfold World.cell? at this
          split at this
          · split at this
            · cases this
            · rename_i hns
              simpa using hns
          · cases this
        obtain ⟨b, o, sp⟩ := a
        simp only at hspot
        subst hspot
        have := RelD.sl (s := s) (b := b) (o := o) (c := cap) (rd := fun i => enc (l.getD i d0)) h3 (fun i hi => ⟨hok b, by rw [← addr_add]; exact h4 i hi⟩) (by simp; omega) hm (map_rd enc d0 l)
        rwa [List.length_map, h1] at this

theorem fld_at {H : Type} {eH : TypeId × Value → H} {P : Program} {w : World} {n : Nat} {fs : Array Field} {cs : List Value} {xs : List (DataW H × List MemPlace)} (hf : ∀ (i : Nat) (f : Field), fs[i]? = some f → DataW.trod eH P w 0 (fun _ => true) true n f.type ((cs.drop f.offset).take (P.cellsOf f.type)) = xs[i]?)
    (hl : xs.length = fs.size) (i : Nat) (hi : i < fs.size) : ∃ x, DataW.trod eH P w 0 (fun _ => true) true n fs[i].type ((cs.drop fs[i].offset).take (P.cellsOf fs[i].type)) = some x := by
  have := hf i fs[i] (Array.getElem?_eq_getElem hi)
  rw [List.getElem?_eq_getElem (by omega : i < xs.length)] at this
  exact ⟨_, this⟩

/-- From the row's reading to the argument. -/
theorem Reads.arg {P : Program} {t : TypeId} {α : Type} {enc : α → D} {Q : α → Prop} (R : Reads P t enc Q) {H : Type} {eH : TypeId × Value → H} {W : World} {v : Value} {d : DataW H} {p : List MemPlace} (h : DataW.Trod eH P W 0 (fun _ => true) true t v d p) (hna : ∀ cs, v ≠ .agg cs) (ok : Nat → Prop) (hok : ∀ b, ok b) :
    ∃ a, Q a ∧ RelL W ok (enc a).cells [v] := by
  obtain ⟨fuel, hf⟩ := h
  have : v.cells.toList = [v] := by
    cases v <;> first | rfl | exact absurd rfl (hna _)
  rw [this] at hf
  exact R.rd eH W fuel [v] _ ok hok hf
end Ab
set_option linter.unusedSimpArgs false
set_option linter.unusedVariables false
namespace Ab
open Go

theorem law_calls {P : Program} {f : FuncId} {fn : Func} {c : Code} (h1 : P.funcs[f]? = some fn) (h2 : fn.body = some c) (h3 : (fn.name == "runtime.NumGoroutine") = false) {as : List AV} (h : ACall P f as [] (fun r _ => r = vB true)) {W : World} {vs : List Value} (hv : RelVs W (okOf (fun _ => False) [] []) [] as vs) :
    Calls P f vs.toArray W fun e w' => e = .returned (.bool true) ∧ Go.RowKit.Below W.heap.size W w' := by
  have hm : Mem (fun _ => False) [] [] W := ⟨rfl, fun i o h => by simp [nth] at h, fun i j o o' h h' b _ h1 => by simp [nth] at h1, fun i o h b h1 => by simp [nth] at h1, fun b h => h.elim⟩
  rcases h _ [] W vs hm hv with ⟨_, h⟩ | ⟨v, w', h, _⟩
  · refine Calls.mono h ?_
    rintro e w' ⟨v, r, o, π', rfl, rfl, _, hrel, hh⟩
    refine ⟨?_, hh.os, hh.tape, hh.output.1, hh.size, fun k hk => hh.heap k hk (fun i o k h1 => by simp [nth] at h1)⟩
    cases hrel with | d hrel => cases hrel; rfl
  · rw [callFunc_run h1 h2 h3] at h
    cases h

theorem relV_of {w : World} {ok : Nat → Prop} {π : List Value} {d : D} {v : Value} (hc : d.cells = [d]) (h : RelL w ok d.cells [v]) : RelV w ok π (.d d) v := by
  rw [hc] at h
  cases h with
  | cons h _ _ => exact .d h
theorem ok_all (b : Nat) : okOf (fun _ => False) [] [] b := ⟨fun h => h, fun i o h h1 => by simp [nth] at h1⟩
theorem wf_i64 {n : Int} (h : (Lit.int .i64 n).wf = true) : -9223372036854775808 ≤ n ∧ n ≤ 9223372036854775807 := by
  simp only [Lit.wf, IntKind.min, IntKind.max, IntKind.signed, IntKind.bits] at h
  simp at h
  omega
end Ab
set_option linter.unusedSimpArgs false
set_option linter.unusedVariables false
namespace Ab
open Go

/-- Fields, one behind the other from a place on. -/
structure ReadsF (P : Program) (fs : List Field) (o tot : Nat) {α : Type} (enc : α → List D) (Q : α → Prop) : Prop where
  len : ∀ a, (enc a).length = tot
  rd : ∀ {H : Type} (eH : TypeId × Value → H) (w : World) (fuel : Nat) (cs : List Value) (ok : Nat → Prop), (∀ b, ok b) → (∀ f ∈ fs, ∃ x, DataW.trod eH P w 0 (fun _ => true) true fuel f.type ((cs.drop f.offset).take (P.cellsOf f.type)) = some x) → ∃ a, Q a ∧ RelL w ok (enc a) ((cs.drop o).take tot)

theorem readsF_nil {P : Program} {o : Nat} : ReadsF P [] o 0 (fun _ : Unit => []) (fun _ => True) where
  len _ := rfl
  rd eH w fuel cs ok hok h := ⟨(), trivial, by simpa using .nil⟩
theorem readsF_cons {P : Program} {f : Field} {fs : List Field} {o tot s : Nat} {α β : Type} {eA : α → D} {QA : α → Prop} {eB : β → List D} {QB : β → Prop} (ho : f.offset = o) (hs : P.cellsOf f.type = s) (hA : Reads P f.type eA QA) (hB : ReadsF P fs (o + s) tot eB QB) :
    ReadsF P (f :: fs) o (s + tot) (fun p : α × β => (eA p.1).cells ++ eB p.2) (fun p => QA p.1 ∧ QB p.2) where
  len p := by rw [List.length_append, hA.len, hB.len, hs]
  rd eH w fuel cs ok hok h := by
    obtain ⟨x, hx⟩ := h f List.mem_cons_self
    obtain ⟨a, qa, ra⟩ := hA.rd eH w fuel _ x ok hok hx
    obtain ⟨b, qb, rb⟩ := hB.rd eH w fuel cs ok hok fun g hg => h g (List.mem_cons_of_mem _ hg)
    refine ⟨(a, b), ⟨qa, qb⟩, ?_⟩
    subst ho hs
    have e : (cs.drop f.offset).take (P.cellsOf f.type + tot) = (cs.drop f.offset).take (P.cellsOf f.type) ++ (cs.drop (f.offset + P.cellsOf f.type)).take tot := by
      rw [List.take_add, List.drop_drop]
    rw [e]
    exact ra.append rb
theorem reads_struct {P : Program} {t : TypeId} {fs : Array Field} {tot : Nat} {α : Type} {enc : α → List D} {Q : α → Prop} (ht : P.underlying t = some (.struct fs)) (hs : P.cellsOf t = tot) (h : ReadsF P fs.toList 0 tot enc Q) : Reads P t (fun a => .ag (enc a)) Q where
  len a := by rw [hs]; exact h.len a
  rd eH w fuel cs x ok hok hx := by
    obtain ⟨xs, n, rfl, rfl, hl, hlen, hf⟩ := DataW.trod_struct ht hx
    obtain ⟨a, qa, ra⟩ := h.rd eH w n cs ok hok (fun f hf' => by
      obtain ⟨i, hi, rfl⟩ := List.mem_iff_getElem.1 hf'
      have hi' : i < fs.size := by simpa using hi
      obtain ⟨x, hx⟩ := fld_at (fun i f hif => hf i f hif) hlen i hi'
      exact ⟨x, by simpa using hx⟩)
    refine ⟨a, qa, ?_⟩
    rw [List.drop_zero, List.take_of_length_le (by omega)] at ra
    exact ra
theorem arr_read {P : Program} {e : TypeId} {s : Nat} {α : Type} {enc : α → D} {Q : α → Prop} (he : P.cellsOf e = s) (R : Reads P e enc Q) {H : Type} (eH : TypeId × Value → H) (w : World) (m : Nat) (ok : Nat → Prop) (hok : ∀ b, ok b) {cs : List Value} {n : Nat} (hx : ∀ i, i < n → ∃ x, DataW.trod eH P w 0 (fun _ => true) true m e ((cs.drop (i * P.cellsOf e)).take (P.cellsOf e)) = some x) :
    ∀ k, k ≤ n → ∃ l : List α, l.length = k ∧ (∀ a ∈ l, Q a) ∧ RelL w ok (l.flatMap fun a => (enc a).cells) (cs.take (k * s))
  | 0, _ => ⟨[], rfl, by simp, by simpa using .nil⟩
  | k + 1, hk => by
    obtain ⟨l, h1, h2, h3⟩ := arr_read he R eH w m ok hok hx k (by omega)
    obtain ⟨x, hx⟩ := hx k (by omega)
    obtain ⟨a, qa, ra⟩ := R.rd eH w m _ x ok hok hx
    refine ⟨l ++ [a], by simp [h1], ?_, ?_⟩
    · intro b hb
      rcases List.mem_append.1 hb with hb | hb
      · exact h2 b hb
      · rw [List.mem_singleton.1 hb]; exact qa
    · rw [List.flatMap_append, Nat.add_mul, Nat.one_mul, List.take_add]
      rw [he] at ra
      refine h3.append ?_
      simpa using ra

theorem reads_arr {P : Program} {t e : TypeId} {n s : Nat} {α : Type} {enc : α → D} {Q : α → Prop} (ht : P.underlying t = some (.array n e)) (he : P.cellsOf e = s) (hs : P.cellsOf t = n * s) (d0 : D) (R : Reads P e enc Q) :
    ∀ {H : Type} (eH : TypeId × Value → H) (w : World) (fuel : Nat) (cs : List Value) (x : DataW H × List MemPlace) (ok : Nat → Prop), (∀ b, ok b) → DataW.trod eH P w 0 (fun _ => true) true fuel t cs = some x → ∃ l : List α, l.length = n ∧ (∀ a ∈ l, Q a) ∧ RelL w ok (l.flatMap fun a => (enc a).cells) cs := by
  intro H eH w fuel cs x ok hok hx
  obtain ⟨xs, m, rfl, rfl, hl, hlen, hf⟩ := DataW.trod_array ht hx
  obtain ⟨l, h1, h2, h3⟩ := arr_read he R eH w m ok hok (cs := cs) (n := n) (fun i hi => by
    have := hf i hi
    rw [List.getElem?_eq_getElem (by omega : i < xs.length)] at this
    exact ⟨_, this⟩) n (Nat.le_refl _)
  refine ⟨l, h1, h2, ?_⟩
  rw [List.take_of_length_le (by omega)] at h3
  exact h3
/-- Arrays of three. -/
theorem reads_arr3 {P : Program} {t e : TypeId} {s : Nat} {α : Type} {enc : α → D} {Q : α → Prop} (ht : P.underlying t = some (.array 3 e)) (he : P.cellsOf e = s) (hs : P.cellsOf t = 3 * s) (R : Reads P e enc Q) :
    Reads P t (fun p : α × α × α => .ag ((enc p.1).cells ++ (enc p.2.1).cells ++ (enc p.2.2).cells)) (fun p => Q p.1 ∧ Q p.2.1 ∧ Q p.2.2) where
  len p := by
    show ((enc p.1).cells ++ (enc p.2.1).cells ++ (enc p.2.2).cells).length = _
    rw [List.length_append, List.length_append, R.len, R.len, R.len, hs, he]
    omega
  rd eH w fuel cs x ok hok hx := by
    obtain ⟨l, h1, h2, h3⟩ := reads_arr ht he hs (.v .nilIface) R eH w fuel cs x ok hok hx
    match l, h1 with
    | [a, b, c], _ =>
      refine ⟨(a, b, c), ⟨h2 a (by simp), h2 b (by simp), h2 c (by simp)⟩, ?_⟩
      show RelL w ok ((enc a).cells ++ (enc b).cells ++ (enc c).cells) cs
      simpa [List.flatMap_cons, List.append_assoc] using h3

/-- From the row's reading to an argument that is a struct. -/
theorem Reads.argS {P : Program} {t : TypeId} {α : Type} {enc : α → D} {Q : α → Prop} (R : Reads P t enc Q) {H : Type} {eH : TypeId × Value → H} {W : World} {cs : Array Value} {d : DataW H} {p : List MemPlace} (h : DataW.Trod eH P W 0 (fun _ => true) true t (.agg cs) d p) (ok : Nat → Prop) (hok : ∀ b, ok b) :
    ∃ a, Q a ∧ RelL W ok (enc a).cells cs.toList := by
  obtain ⟨fuel, hf⟩ := h
  exact R.rd eH W fuel cs.toList _ ok hok hf
theorem relV_ofS {w : World} {ok : Nat → Prop} {π : List Value} {ds : List D} {cs : Array Value} (h : RelL w ok ds cs.toList) : RelV w ok π (.d (.ag ds)) (.agg cs) := by
  have := RelV.d (π := π) (RelD.ag h)
  simpa using this
/-- What follows is shown once for all ways that come there. -/
theorem letK {p q : Prop} (h : p → q) (k : p) : q := h k
end Ab
namespace Go.Proofs.Ytdnpkeahgpbkoaa
open Go Ab Go.ChangeShapes Go.WideShapes Go.ChangeAt Go.RowKit
set_option linter.unusedVariables false
theorem own : ownKnob Try.prog.godebug = none := by kernel_rfl
theorem laidOut : laidOutB Try.prog = true := by kernel_rfl
theorem rdI : Reads Try.prog 3 eI (fun n => (Lit.int .i64 n).wf = true) := reads_int Try.underlying3 (by kernel_rfl)
theorem rdB : Reads Try.prog 4 (fun b => D.v (.bool b)) (fun _ => True) := reads_bool Try.underlying4 (by kernel_rfl)
def QIs (l : List Int) : Prop := (∀ a ∈ l, (Lit.int .i64 a).wf = true) ∧ l.length ≤ maxLen
def QIss (l : List (List Int)) : Prop := (∀ a ∈ l, QIs a) ∧ l.length ≤ maxLen
theorem rdIs : Reads Try.prog 23 (eL 1 eI 0) QIs := reads_slice 0 Try.underlying23 (by kernel_rfl) (by kernel_rfl) (by decide) rdI
theorem rdIss : Reads Try.prog 22 (eL 1 (eL 1 eI 0) []) QIss := reads_slice [] Try.underlying22 (by kernel_rfl) (by kernel_rfl) (by decide) rdIs
end Go.Proofs.Ytdnpkeahgpbkoaa
