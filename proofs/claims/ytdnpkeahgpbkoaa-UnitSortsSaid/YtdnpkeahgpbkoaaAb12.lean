/- Structs that are built; the pure step of an operation. -/
import Derived.Test.YtdnpkeahgpbkoaaAb11
namespace Ab
open Go

def placesOf (P : Program) (gs : List Field) : List (Nat × Nat) := gs.map fun g => (g.offset, ((P.info? g.type).map (·.size)).getD 0)

theorem flds_info {P : Program} : ∀ {fs : List Fld} {gs : List Field} (_ : fldsOk P fs gs = true), ∀ g ∈ gs, ∃ i, P.info? g.type = some i
  | [], [], _, g, h => by simp at h
  | [], _ :: _, h, _, _ => by simp [fldsOk] at h
  | _ :: _, [], h, _, _ => by simp [fldsOk] at h
  | f :: fs, g :: gs, h, x, hx => by
    simp only [fldsOk, Bool.and_eq_true] at h
    rcases List.mem_cons.1 hx with rfl | hx
    · have h2 := h.1.1.1.2
      split at h2
      · rename_i i hi; exact ⟨i, hi⟩
      · cases h2
    · exact flds_info h.2 x hx

theorem run_placesOf {P : Program} (w : World) : ∀ {gs : List Field} (_ : ∀ g ∈ gs, ∃ i, P.info? g.type = some i), (gs.mapM fun f => (Prod.mk f.offset <$> Go.sizeOf f.type : Sem (Nat × Nat))).run P w = .ok (placesOf P gs) w
  | [], _ => by simp [placesOf]
  | g :: gs, h => by
    obtain ⟨i, hi⟩ := h g (by simp)
    have ih := run_placesOf w (gs := gs) (fun x hx => h x (by simp [hx]))
    simp [List.mapM_cons, run_sizeOf hi, ih, placesOf, hi]

theorem zeros_rel {w : World} {ok : Nat → Prop} {π : List Value} : ∀ (l : List Value), (∀ v ∈ l, flat v = true) → RelVs w ok π (l.map fun v => .d (.v v)) l
  | [], _ => .nil
  | v :: l, h => .cons (.d (.v (h v (by simp)))) (zeros_rel l fun u hu => h u (by simp [hu]))

theorem vseq_flat : ∀ {a b : List Value}, vseq a b = true → ∀ v ∈ a, flat v = true
  | [], _, _, v, hv => by simp at hv
  | a :: r, [], h, _, _ => by simp [vseq] at h
  | a :: r, b :: s, h, v, hv => by
    simp only [vseq, Bool.and_eq_true] at h
    rcases List.mem_cons.1 hv with rfl | hv
    · have := h.1
      unfold veq at this
      split at this <;> first | rfl | cases this
    · exact vseq_flat h.2 v hv

theorem RowOk.zero {P : Program} {t : TypeId} {r : TRow} (h : RowOk P t r) : ∃ z, (∀ w, (zeroValue t).run P w = .ok z w) ∧ z.cells.toList = r.zero ∧ (∀ v ∈ r.zero, flat v = true) ∧ (r.isAgg = true → z = .agg r.zero.toArray) ∧ (r.isAgg = false → r.zero = [z]) := by
  obtain ⟨i, d, hi, hd, _, _, hz, _⟩ := h.ex
  unfold zeroOk at hz
  split at hz
  · rename_i cs he
    simp only [Bool.and_eq_true] at hz
    have := vseq_eq hz.2
    refine ⟨.agg cs, fun w => by simp [zeroValue, run_typeInfo w hi, Result.andThen, he], by simp [Value.cells, this], vseq_flat hz.2, fun _ => by rw [this], fun h => by rw [hz.1] at h; cases h⟩
  · rename_i v hne he
    simp only [Bool.and_eq_true, Bool.not_eq_true'] at hz
    have e := vseq_eq hz.2
    have hf := vseq_flat hz.2
    refine ⟨v, fun w => by simp [zeroValue, run_typeInfo w hi, Result.andThen, he], ?_, hf, (fun h => by rw [hz.1] at h; cases h), fun _ => e⟩
    rw [e]
    have : flat v = true := hf v (by rw [e]; simp)
    cases v <;> first | rfl | (simp [flat] at this)
  · cases hz

theorem pBuild_ok {P : Program} {T : Tab} (hT : TabOk P T) {w : World} {ok : Nat → Prop} {π : List Value} {t : TypeId} {parts : List (Nat × AV)} {ps : List (Nat × Value)} (hp : RelPs w ok π parts ps) :
    PRok P w ok π (pBuild T t parts) (Instr.build t ps.toArray) := by
  unfold pBuild
  split
  · trivial
  · rename_i r hr
    split
    · rename_i fs hk
      obtain ⟨gs, hgs, hfo⟩ := struct_fields hT hr hk
      split
      · rename_i hsol
        split
        · rename_i cs hcs
          obtain ⟨z, hz1, hz2, hz3, hz4, _⟩ := (tab_row hT hr).zero
          have hagg : r.isAgg = true := by simp [TRow.isAgg, hk]
          have hzz := hz4 hagg
          subst hzz
          have hinfo := flds_info hfo
          have hpl : ∀ (n : Nat) (g : Field) (i : TypeInfo), gs.toList[n]? = some g → P.info? g.type = some i → (placesOf P gs.toList)[n]? = some (g.offset, i.size) := by
            intro n g i h1 h2
            simp only [placesOf, List.getElem?_map, h1, Option.map_some, h2, Option.getD_some]
          obtain ⟨ws', e1, e2, e3⟩ := bFill_rel hfo hpl hsol hp (zeros_rel r.zero hz3) hz3 hcs
          refine ⟨_, mkAg_rel e2 e3, fun w' _ => ?_⟩
          have hplaces := run_placesOf (P := P) w' hinfo
          have e1' : Instr.fill (fun x => (placesOf P gs.toList)[x]?) r.zero.toArray ps = some ws'.toArray := e1
          simp [Instr.build, hz1, run_underlying hgs, Array.mapM_eq_mapM_toList, hplaces, Value.cells, e1']
        · trivial
      · trivial
    · trivial

end Ab
