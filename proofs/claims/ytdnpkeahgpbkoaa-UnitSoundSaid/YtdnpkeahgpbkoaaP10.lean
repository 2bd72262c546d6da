/- A part of the proof: Ab40, U26. -/
import Derived.Test.YtdnpkeahgpbkoaaP9
import Derived.OpenShut
set_option linter.unusedVariables false
set_option linter.unusedSimpArgs false
set_option linter.unusedSimpArgs false
set_option linter.unusedVariables false
namespace Ab
open Go

/-- Fields, one behind the other from a place on. -/
structure ReadsF (P : Program) (fs : List Field) (o tot : Nat) {α : Type} (enc : α → List D) (Q : α → Prop) : Prop where
  len : ∀ a, (enc a).length = tot
  rd : ∀ {H : Type} (eH : TypeId × Value → H) (w : World) (fuel : Nat) (cs : List Value) (ok : Nat → Prop), (∀ b, ok b) → (∀ f ∈ fs, ∃ x, DataW.trod eH P w 0 (fun _ => true) true fuel f.type ((cs.drop f.offset).take (P.cellsOf f.type)) = some x) → ∃ a, Q a ∧ RelL w ok (enc a) ((cs.drop o).take tot)

theorem readsF_nil {P : Program} {o : Nat} : ReadsF P [] o 0 (fun _ : Unit => []) (fun _ => True) where
  len _ := rfl
  rd eH w fuel cs ok hok h := ⟨(), trivial, by simpa using .nil⟩
theorem readsF_cons {P : Program} {f : Field} {fs : List Field} {o tot s : Nat} {α β : Type} {eA : α → D} {QA : α → Prop} {eB : β → List D} {QB : β → Prop} (ho : f.offset = o) (hs : P.cellsOf f.type = s) (hA : Reads P f.type eA QA) (hB : ReadsF P fs (o + s) tot eB QB) :
    ReadsF P (f :: fs) o (s + tot) (fun p : α × β => (eA p.1).cells ++ eB p.2) (fun p => QA p.1 ∧ QB p.2) where
  len p := by rw [List.length_append, hA.len, hB.len, hs]
  rd eH w fuel cs ok hok h := by
    obtain ⟨x, hx⟩ := h f List.mem_cons_self
    obtain ⟨a, qa, ra⟩ := hA.rd eH w fuel _ x ok hok hx
    obtain ⟨b, qb, rb⟩ := hB.rd eH w fuel cs ok hok fun g hg => h g (List.mem_cons_of_mem _ hg)
    refine ⟨(a, b), ⟨qa, qb⟩, ?_⟩
    subst ho hs
    have e : (cs.drop f.offset).take (P.cellsOf f.type + tot) = (cs.drop f.offset).take (P.cellsOf f.type) ++ (cs.drop (f.offset + P.cellsOf f.type)).take tot := by
      rw [List.take_add, List.drop_drop]
    rw [e]
    exact ra.append rb
theorem reads_struct {P : Program} {t : TypeId} {fs : Array Field} {tot : Nat} {α : Type} {enc : α → List D} {Q : α → Prop} (ht : P.underlying t = some (.struct fs)) (hs : P.cellsOf t = tot) (h : ReadsF P fs.toList 0 tot enc Q) : Reads P t (fun a => .ag (enc a)) Q where
  len a := by rw [hs]; exact h.len a
  rd eH w fuel cs x ok hok hx := by
    obtain ⟨xs, n, rfl, rfl, hl, hlen, hf⟩ := DataW.trod_struct ht hx
    obtain ⟨a, qa, ra⟩ := h.rd eH w n cs ok hok (fun f hf' => by
      obtain ⟨i, hi, rfl⟩ := List.mem_iff_getElem.1 hf'
      have hi' : i < fs.size := by simpa using hi
      obtain ⟨x, hx⟩ := fld_at (fun i f hif => hf i f hif) hlen i hi'
      exact ⟨x, by simpa using hx⟩)
    refine ⟨a, qa, ?_⟩
    rw [List.drop_zero, List.take_of_length_le (by omega)] at ra
    exact ra
theorem arr_read {P : Program} {e : TypeId} {s : Nat} {α : Type} {enc : α → D} {Q : α → Prop} (he : P.cellsOf e = s) (R : Reads P e enc Q) {H : Type} (eH : TypeId × Value → H) (w : World) (m : Nat) (ok : Nat → Prop) (hok : ∀ b, ok b) {cs : List Value} {n : Nat} (hx : ∀ i, i < n → ∃ x, DataW.trod eH P w 0 (fun _ => true) true m e ((cs.drop (i * P.cellsOf e)).take (P.cellsOf e)) = some x) :
    ∀ k, k ≤ n → ∃ l : List α, l.length = k ∧ (∀ a ∈ l, Q a) ∧ RelL w ok (l.flatMap fun a => (enc a).cells) (cs.take (k * s))
  | 0, _ => ⟨[], rfl, by simp, by simpa using .nil⟩
  | k + 1, hk => by
    obtain ⟨l, h1, h2, h3⟩ := arr_read he R eH w m ok hok hx k (by omega)
    obtain ⟨x, hx⟩ := hx k (by omega)
    obtain ⟨a, qa, ra⟩ := R.rd eH w m _ x ok hok hx
    refine ⟨l ++ [a], by simp [h1], ?_, ?_⟩
    · intro b hb
      rcases List.mem_append.1 hb with hb | hb
      · exact h2 b hb
      · rw [List.mem_singleton.1 hb]; exact qa
    · rw [List.flatMap_append, Nat.add_mul, Nat.one_mul, List.take_add]
      rw [he] at ra
      refine h3.append ?_
      simpa using ra

theorem reads_arr {P : Program} {t e : TypeId} {n s : Nat} {α : Type} {enc : α → D} {Q : α → Prop} (ht : P.underlying t = some (.array n e)) (he : P.cellsOf e = s) (hs : P.cellsOf t = n * s) (d0 : D) (R : Reads P e enc Q) :
    ∀ {H : Type} (eH : TypeId × Value → H) (w : World) (fuel : Nat) (cs : List Value) (x : DataW H × List MemPlace) (ok : Nat → Prop), (∀ b, ok b) → DataW.trod eH P w 0 (fun _ => true) true fuel t cs = some x → ∃ l : List α, l.length = n ∧ (∀ a ∈ l, Q a) ∧ RelL w ok (l.flatMap fun a => (enc a).cells) cs := by
  intro H eH w fuel cs x ok hok hx
  obtain ⟨xs, m, rfl, rfl, hl, hlen, hf⟩ := DataW.trod_array ht hx
  obtain ⟨l, h1, h2, h3⟩ := arr_read he R eH w m ok hok (cs := cs) (n := n) (fun i hi => by
    have := hf i hi
    rw [List.getElem?_eq_getElem (by omega : i < xs.length)] at this
    exact ⟨_, this⟩) n (Nat.le_refl _)
  refine ⟨l, h1, h2, ?_⟩
  rw [List.take_of_length_le (by omega)] at h3
  exact h3
/-- Arrays of three. -/
theorem reads_arr3 {P : Program} {t e : TypeId} {s : Nat} {α : Type} {enc : α → D} {Q : α → Prop} (ht : P.underlying t = some (.array 3 e)) (he : P.cellsOf e = s) (hs : P.cellsOf t = 3 * s) (R : Reads P e enc Q) :
    Reads P t (fun p : α × α × α => .ag ((enc p.1).cells ++ (enc p.2.1).cells ++ (enc p.2.2).cells)) (fun p => Q p.1 ∧ Q p.2.1 ∧ Q p.2.2) where
  len p := by
    show ((enc p.1).cells ++ (enc p.2.1).cells ++ (enc p.2.2).cells).length = _
    rw [List.length_append, List.length_append, R.len, R.len, R.len, hs, he]
    omega
  rd eH w fuel cs x ok hok hx := by
    obtain ⟨l, h1, h2, h3⟩ := reads_arr ht he hs (.v .nilIface) R eH w fuel cs x ok hok hx
    match l, h1 with
    | [a, b, c], _ =>
      refine ⟨(a, b, c), ⟨h2 a (by simp), h2 b (by simp), h2 c (by simp)⟩, ?_⟩
      show RelL w ok ((enc a).cells ++ (enc b).cells ++ (enc c).cells) cs
      simpa [List.flatMap_cons, List.append_assoc] using h3

/-- From the row's reading to an argument that is a struct. -/
theorem Reads.argS {P : Program} {t : TypeId} {α : Type} {enc : α → D} {Q : α → Prop} (R : Reads P t enc Q) {H : Type} {eH : TypeId × Value → H} {W : World} {cs : Array Value} {d : DataW H} {p : List MemPlace} (h : DataW.Trod eH P W 0 (fun _ => true) true t (.agg cs) d p) (ok : Nat → Prop) (hok : ∀ b, ok b) :
    ∃ a, Q a ∧ RelL W ok (enc a).cells cs.toList := by
  obtain ⟨fuel, hf⟩ := h
  exact R.rd eH W fuel cs.toList _ ok hok hf
theorem relV_ofS {w : World} {ok : Nat → Prop} {π : List Value} {ds : List D} {cs : Array Value} (h : RelL w ok ds cs.toList) : RelV w ok π (.d (.ag ds)) (.agg cs) := by
  have := RelV.d (π := π) (RelD.ag h)
  simpa using this
/-- What follows is shown once for all ways that come there. -/
theorem letK {p q : Prop} (h : p → q) (k : p) : q := h k
end Ab
namespace Go.Proofs.Ytdnpkeahgpbkoaa
open Go Ab
set_option maxRecDepth 100000
set_option linter.unusedVariables false
set_option linter.unusedSimpArgs false

theorem UnitSound_law (n : Int) (l : List (List Int)) (c : List Int) (m : List Bool) (hll : l.length ≤ maxLen) (hlc : ∀ c ∈ l, c.length ≤ maxLen) (hcm : c.length ≤ maxLen) : ACall Try.prog 4 [.d (.ag [eI n, eIss l, eIs c, eBs m])] [] (fun r _ => r = vB true) := by
  refine acall_enter Try.func4 rfl rfl (Nat.le_of_ble_eq_true rfl) fun C hC hCl => ?_
  refine sat_call tabOk Try.func4 rfl trivial shown_call trivial rfl ⟨_, rfl⟩ (by rintro r o rfl; rfl) ?_
  rintro r o rfl
  refine sat_call tabOk Try.func4 rfl trivial (may_call n l c hll hlc hcm) (.refl _) rfl ⟨_, rfl⟩ (by rintro r o ⟨b, rfl, _⟩; rfl) ?_
  rintro r o ⟨b, rfl, hmay⟩
  refine sat_branch tabOk Try.func4 rfl trivial (fun h => ?_) (fun h => ?_)
  · refine sat_branch tabOk Try.func4 rfl trivial (fun _ => ?_) (fun h => by cases h)
    exact sat_ret tabOk Try.func4 rfl trivial rfl
  have hb : b = true := by simpa using h
  have hm := hmay hb
  obtain ⟨hok, hn1, hlt0, hc40⟩ := may_ok hm
  have hl40 : l.length ≤ 40 := hm.2.2.1
  refine sat_branch tabOk Try.func4 rfl trivial (fun h => ?_) (fun h => ?_)
  · exact sat_ret tabOk Try.func4 rfl trivial rfl
  have hmn : (m.length : Int) = n := by simpa using h
  refine sat_call tabOk Try.func4 rfl trivial (Holds_call n l m hll) (.refl _) rfl ⟨_, rfl⟩ boolR_refs ?_
  rintro r o ⟨hd, rfl, hhd⟩
  have href : ∀ {b : Bool}, (b = true ↔ Cf l (c.map fun x => -x)) → b = true → hd = true → clT c m := fun h1 h2 h3 => ref_sound (hhd.1 h3) hok.asm hmn (h1.1 h2)
  apply letK (p := ASat Try.prog 4 Try.f4.ntmps C _ [(3, vI .i64 n), (4, .d (eIss l)), (5, .d (eIs c)), (6, .d (eBs m)), (7, vB true), (8, vB hd), (9, vI .i64 (0 : Nat))] [] (fun r _ => r = vB true))
  · intro K
    refine sat_branch tabOk Try.func4 rfl trivial (fun h1 => ?_) (fun h1 => ?_)
    · have h1 : hd = true := by simpa using h1
      refine sat_call tabOk Try.func4 rfl trivial (refutes_c hok hn1 (by omega) (by omega)) (.refl _) rfl ⟨_, rfl⟩ refR_refs ?_
      rintro r o ⟨b1, rfl, hb1⟩
      refine sat_branch tabOk Try.func4 rfl trivial (fun h2 => ?_) (fun h2 => ?_)
      · have h2 : b1 = true := by simpa using h2
        refine sat_call tabOk Try.func4 rfl trivial (Clause_call c m) (.refl _) rfl ⟨_, rfl⟩ boolR_refs ?_
        rintro r o ⟨b2, rfl, hb2⟩
        have h3 : b2 = true := hb2.2 (href hb1 h2 h1)
        subst h3
        refine sat_branch tabOk Try.func4 rfl trivial (fun h => by cases h) (fun _ => ?_)
        refine sat_stop tabOk Try.func4 rfl trivial ?_
        subst h1
        exact sat_le K hC hCl ⟨⟨_, rfl, .refl _⟩, ⟨_, rfl, .refl _⟩, ⟨_, rfl, .refl _⟩, ⟨_, rfl, .refl _⟩, ⟨_, rfl, .refl _⟩, ⟨_, rfl, .refl _⟩, ⟨_, rfl, .refl _⟩, trivial⟩ trivial rfl rfl (Nat.zero_le _)
      · refine sat_branch tabOk Try.func4 rfl trivial (fun h => by cases h) (fun _ => ?_)
        refine sat_stop tabOk Try.func4 rfl trivial ?_
        subst h1
        exact sat_le K hC hCl ⟨⟨_, rfl, .refl _⟩, ⟨_, rfl, .refl _⟩, ⟨_, rfl, .refl _⟩, ⟨_, rfl, .refl _⟩, ⟨_, rfl, .refl _⟩, ⟨_, rfl, .refl _⟩, ⟨_, rfl, .refl _⟩, trivial⟩ trivial rfl rfl (Nat.zero_le _)
    · refine sat_branch tabOk Try.func4 rfl trivial (fun h => by cases h) (fun _ => ?_)
      refine sat_branch tabOk Try.func4 rfl trivial (fun h => by cases h) (fun _ => ?_)
      refine sat_stop tabOk Try.func4 rfl trivial ?_
      exact sat_le K hC hCl ⟨⟨_, rfl, .refl _⟩, ⟨_, rfl, .refl _⟩, ⟨_, rfl, .refl _⟩, ⟨_, rfl, .refl _⟩, ⟨_, rfl, .refl _⟩, ⟨_, rfl, .refl _⟩, ⟨_, rfl, .refl _⟩, trivial⟩ trivial rfl rfl (Nat.zero_le _)
  · refine sat_while (α := Nat) (fun i => [(3, vI .i64 n), (4, .d (eIss l)), (5, .d (eIs c)), (6, .d (eBs m)), (7, vB true), (8, vB hd), (9, vI .i64 i)]) (fun _ => []) (fun i => i ≤ c.length ∧ ∀ x ∈ c.take i, litT m x) (fun i => c.length - i) 0 ⟨Nat.zero_le _, by simp⟩ ?_ ?_
    · exact fun h => h
    rintro i ⟨hi, hd1⟩ ih
    refine sat_branch tabOk Try.func4 rfl trivial (fun hb => ?_) (fun hb => ?_) <;> simp only [decide_eq_true_eq, decide_eq_false_iff_not, List.length_map] at hb
    · have hlt : i < c.length := by omega
      have hget : c.getD i 0 = c[i] := by simp [hlt]
      have htk : c.take (i + 1) = c.take i ++ [c[i]] := by rw [List.take_add_one]; simp [hlt]
      generalize hx : c[i] = x at *
      refine sat_call tabOk Try.func4 rfl ?_ (Clause_call [x] m) ⟨.eL (by show [eI (c.getD i 0)] = _; rw [hget]; rfl), .refl _, trivial⟩ rfl ⟨_, rfl⟩ boolR_refs ?_
      · exact (by simp only [andP, and_true, true_and, Int.toNat_natCast, List.length_map, List.length_append, List.length_cons, List.length_nil, List.length_replicate]; omega)
      rintro r o ⟨b1, rfl, hb1⟩
      refine sat_branch tabOk Try.func4 rfl trivial (fun h1 => ?_) (fun h1 => ?_)
      · exact sat_ret tabOk Try.func4 rfl trivial rfl
      have h1 : b1 = true := by simpa using h1
      refine sat_stop tabOk Try.func4 rfl trivial ?_
      refine sat_le (ih (i + 1) ⟨by omega, fun y hy => ?_⟩ (by omega)) hC hCl ⟨⟨_, rfl, .refl _⟩, ⟨_, rfl, .refl _⟩, ⟨_, rfl, .refl _⟩, ⟨_, rfl, .refl _⟩, ⟨_, rfl, .refl _⟩, ⟨_, rfl, .refl _⟩, ⟨_, rfl, .of (by rw [wrap_id (by omega) (by omega)]; rfl)⟩, trivial⟩ trivial rfl rfl (Nat.zero_le _)
      rw [htk] at hy
      rcases List.mem_append.1 hy with hy | hy
      · exact hd1 y hy
      · obtain ⟨z, hz, ht⟩ := hb1.1 h1
        rw [List.mem_singleton.1 hy, ← List.mem_singleton.1 hz]
        exact ht
    obtain rfl : i = c.length := by omega
    rw [List.take_length] at hd1
    clear ih
    refine sat_call tabOk Try.func4 rfl trivial (close_c hok hn1 (by omega)) (.refl _) rfl ⟨_, rfl⟩ closeR_refs ?_
    rintro r o hr
    have hno : hd = true → ¬ Cf l c := fun h => cf_sound (hhd.1 h) hd1
    apply letK (p := ∀ xs : List Int, (hd = true → ∀ x ∈ xs, litT m x) → ASat Try.prog 4 Try.f4.ntmps C _ [(6, .d (eBs m)), (7, vB true), (8, vB hd), (10, .d (eIs xs)), (12, vI .i64 (0 : Nat))] [] (fun r _ => r = vB true))
    · intro K
      rcases hr with ⟨rfl, hcf⟩ | ⟨xs, rfl, hx⟩
      · have h1 : hd = false := by
          cases hd with
          | true => exact absurd hcf (hno rfl)
          | false => rfl
        subst h1
        refine sat_branch tabOk Try.func4 rfl trivial (fun h => by cases h) (fun _ => ?_)
        refine sat_branch tabOk Try.func4 rfl trivial (fun h => by cases h) (fun _ => ?_)
        refine sat_stop tabOk Try.func4 rfl trivial ?_
        exact sat_le (K [] (by simp)) hC hCl ⟨⟨_, rfl, .refl _⟩, ⟨_, rfl, .refl _⟩, ⟨_, rfl, .refl _⟩, ⟨_, rfl, .nil⟩, ⟨_, rfl, .refl _⟩, trivial⟩ trivial rfl rfl (Nat.zero_le _)
      · have hx2 : hd = true → ∀ x ∈ xs, litT m x := fun h x hm => fo_sound (hhd.1 h) hd1 ((hx.2.2 x).1 hm)
        cases hd with
        | true =>
          refine sat_branch tabOk Try.func4 rfl trivial (fun _ => ?_) (fun h => by cases h)
          refine sat_branch tabOk Try.func4 rfl trivial (fun h => by cases h) (fun _ => ?_)
          refine sat_stop tabOk Try.func4 rfl trivial ?_
          exact sat_le (K xs hx2) hC hCl ⟨⟨_, rfl, .refl _⟩, ⟨_, rfl, .refl _⟩, ⟨_, rfl, .refl _⟩, ⟨_, rfl, .refl _⟩, ⟨_, rfl, .refl _⟩, trivial⟩ trivial rfl rfl (Nat.zero_le _)
        | false =>
          refine sat_branch tabOk Try.func4 rfl trivial (fun h => by cases h) (fun _ => ?_)
          refine sat_branch tabOk Try.func4 rfl trivial (fun h => by cases h) (fun _ => ?_)
          refine sat_stop tabOk Try.func4 rfl trivial ?_
          exact sat_le (K xs hx2) hC hCl ⟨⟨_, rfl, .refl _⟩, ⟨_, rfl, .refl _⟩, ⟨_, rfl, .refl _⟩, ⟨_, rfl, .refl _⟩, ⟨_, rfl, .refl _⟩, trivial⟩ trivial rfl rfl (Nat.zero_le _)
    intro xs hxs
    refine sat_len (t := 10) rfl fun hlx => ?_
    rw [List.length_map] at hlx
    refine sat_while (α := Nat) (fun i => [(6, .d (eBs m)), (7, vB true), (8, vB hd), (10, .d (eIs xs)), (12, vI .i64 i)]) (fun _ => []) (fun i => i ≤ xs.length) (fun i => xs.length - i) 0 (Nat.zero_le _) ?_ ?_
    · exact fun h => h
    rintro i hi ih
    refine sat_branch tabOk Try.func4 rfl trivial (fun hb => ?_) (fun hb => ?_) <;> simp only [decide_eq_true_eq, decide_eq_false_iff_not, List.length_map] at hb
    · have hlt : i < xs.length := by omega
      have hget : xs.getD i 0 = xs[i] := by simp [hlt]
      have hmem := List.getElem_mem hlt
      generalize hx : xs[i] = x at *
      refine sat_branch tabOk Try.func4 rfl trivial (fun h1 => ?_) (fun h1 => ?_)
      · refine sat_call tabOk Try.func4 rfl ?_ (Clause_call [x] m) ⟨.eL (by show [eI (xs.getD i 0)] = _; rw [hget]; rfl), .refl _, trivial⟩ rfl ⟨_, rfl⟩ boolR_refs ?_
        · exact (by simp only [andP, and_true, true_and, Int.toNat_natCast, List.length_map, List.length_append, List.length_cons, List.length_nil, List.length_replicate]; omega)
        rintro r o ⟨b1, rfl, hb1⟩
        have h2 : b1 = true := hb1.2 ⟨x, by simp, hxs h1 x hmem⟩
        subst h2
        refine sat_branch tabOk Try.func4 rfl trivial (fun h => by cases h) (fun _ => ?_)
        refine sat_stop tabOk Try.func4 rfl trivial ?_
        exact sat_le (ih (i + 1) (by omega) (by omega)) hC hCl ⟨⟨_, rfl, .refl _⟩, ⟨_, rfl, .refl _⟩, ⟨_, rfl, .refl _⟩, ⟨_, rfl, .refl _⟩, ⟨_, rfl, .of (by rw [wrap_id (by omega) (by omega)]; rfl)⟩, trivial⟩ trivial rfl rfl (Nat.zero_le _)
      · exact sat_ret tabOk Try.func4 rfl trivial rfl
    · refine sat_branch tabOk Try.func4 rfl trivial (fun h => by cases h) (fun _ => ?_)
      exact sat_ret tabOk Try.func4 rfl trivial rfl
end Go.Proofs.Ytdnpkeahgpbkoaa
