/- More rules: loops by hand, results that say less, cells that own a slice, lists as data. -/
import Derived.Test.YtdnpkeahgpbkoaaAb29
set_option linter.unusedSimpArgs false
set_option linter.unusedVariables false
namespace Ab
open Go

section
variable {P : Program} {T : Tab} {f : FuncId} {fn : Func} {n : Nat} {C : Cx} {R R1 : AV → List (Option AObj) → Prop} {todo todo' : List Item} {env env' : Env} {objs objs' : List (Option AObj)} {nd : Prop}

theorem sat_loop1 {b : Code} {k : List Item} (h : ASat P f n C (.code b :: .inLoop b :: k) env objs R) : ASat P f n C (.code (.loop b) :: k) env objs R :=
  fun π w tmps hn hm hh he => .loop (h π w tmps hn hm hh he)
theorem sat_in1 {b : Code} {k : List Item} (h : ASat P f n C (.code b :: .inLoop b :: k) env objs R) : ASat P f n C (.inLoop b :: k) env objs R :=
  fun π w tmps hn hm hh he => .inLoop (h π w tmps hn hm hh he)

theorem Sat.mono' {tmps : Array Value} {w : World} {Q Q' : Ending → World → Prop} (h : Sat P f todo tmps w Q) (hq : ∀ e w', Q e w' → Q' e w') : Sat P f todo tmps w Q' := by
  intro cs
  obtain ⟨e, w', fr, h1, h2⟩ := h cs
  exact ⟨e, w', fr, hq _ _ h1, h2⟩

/-- What ends so, ends as is told less of. -/
def Less (m : Nat) (R : AV → List (Option AObj) → Prop) (r : AV) (o : List (Option AObj)) : Prop := ∃ r2 o2, R r2 o2 ∧ VLe r r2 ∧ subO o2 o ∧ refsB o2.length r2 = true ∧ refsO o2.length o2 = true ∧ m ≤ o2.length

theorem mem_le {X : Nat → Prop} {π : List Value} {w : World} (hm : Mem X π objs w) (hO : subO objs' objs) (hro : refsO objs'.length objs' = true) :
    Mem X (π.take objs'.length) objs' w ∧ (∀ a b v, VLe a b → refsB objs'.length b = true → RelV w (okOf X π objs) π a v → RelV w (okOf X (π.take objs'.length) objs') (π.take objs'.length) b v) ∧
      (∀ {π0 : List Value} {objs0 : List (Option AObj)} {w0 : World}, Hist π0 objs0 w0 π objs w → π0.length ≤ objs'.length → Hist π0 objs0 w0 (π.take objs'.length) objs' w) := by
  have hlen := subO_len hO
  have hml := hm.len
  have hold : ∀ {i : Nat} {o : AObj} {h : Value}, nth objs' i = some (some o) → nth (π.take objs'.length) i = some h → ∃ o', nth objs i = some (some o') ∧ OLe o' o ∧ nth π i = some h := by
    intro i o h h1 h2
    obtain ⟨o', h3, h4⟩ := subO_nth hO h1
    exact ⟨o', h3, h4, (nth_of_take h2).2⟩
  have hk : Keeps w (okOf X π objs) w (okOf X (π.take objs'.length) objs') := by
    intro b o u h1 h2
    refine ⟨⟨h1.1, fun i ob h h3 h4 => ?_⟩, h2⟩
    obtain ⟨o', h5, _, h6⟩ := hold h3 h4
    exact h1.2 i o' h h5 h6
  have hp : ∀ j h, j < objs'.length → nth π j = some h → nth (π.take objs'.length) j = some h := fun j h hj h1 => nth_take hj h1
  refine ⟨⟨by rw [List.length_take]; omega, ?_, ?_, ?_, hm.inX⟩, fun a b v hab hr h => (hab _ _ _ _ h).cut hk hp hr, fun {π0 objs0 w0} hh hle => ⟨hh.os, hh.tape, hh.output, hh.size, hh.heap, ?_, ?_⟩⟩
  · intro i o ho
    obtain ⟨o', h3, h4⟩ := subO_nth hO ho
    obtain ⟨h, h5, h6⟩ := hm.obj i o' h3
    exact ⟨h, hp i h (nth_lt ho) h5, (h4 _ _ _ _ h6).cut hk hp (refsO_nth hro ho) (fun _ _ => rfl)⟩
  · intro i j o o' h h' b hne h1 h2 h3 h4
    obtain ⟨o1, a1, _, a2⟩ := hold h1 h3
    obtain ⟨o2, b1, _, b2⟩ := hold h2 h4
    exact hm.dist i j o1 o2 h h' b hne a1 b1 a2 b2
  · intro i o h b h1 h2
    obtain ⟨o1, a1, _, a2⟩ := hold h1 h2
    exact hm.ext i o1 h b a1 a2
  · intro i o h b h1 h2
    obtain ⟨o1, a1, _, a2⟩ := hold h1 h2
    exact hh.own i o1 h b a1 a2
  · intro i h h1 h2
    have := nth_lt h1
    exact nth_take (by omega) (hh.hand i h h1 h2)

theorem asat_post (hCl : C.π.length = C.objs.length) (h : ASat P f n C todo env objs R1) (hR : ∀ r o, R1 r o → Less C.objs.length R r o) : ASat P f n C todo env objs R := by
  intro π w tmps hs hm hh he
  refine (h π w tmps hs hm hh he).mono' ?_
  rintro e w' ⟨v, r, o, π', rfl, h1, h2, h3, h4⟩
  obtain ⟨r2, o2, g1, g2, g3, g4, g5, g6⟩ := hR r o h1
  obtain ⟨m1, m2, m3⟩ := mem_le h2 g3 g5
  exact ⟨v, r2, o2, _, rfl, g1, m1, m2 _ _ _ g2 g4 h3, m3 h4 (by omega)⟩

theorem sat_retL {r r2 : AV} {o2 : List (Option AObj)} {o0 : List (Option AObj)} (hT : TabOk P T) (hf : P.funcs[f]? = some fn) (h : srun T n fn.results.toList 2000 True todo env objs = .ret nd r objs') (hn : nd)
    (hC : C.objs = o0) (hCl : C.π.length = C.objs.length) (hr : VLe r r2) (hO : subO o2 objs') (hb : refsB o2.length r2 = true) (hro : refsO o2.length o2 = true) (hl : o0.length ≤ o2.length) (hR : R r2 o2) : ASat P f n C todo env objs R :=
  asat_post hCl (sat_ret (R := fun r' o' => r' = r ∧ o' = objs') hT hf h hn ⟨rfl, rfl⟩) (by rintro _ _ ⟨rfl, rfl⟩; exact ⟨r2, o2, hR, hr, hO, hb, hro, by rw [hC]; exact hl⟩)

/-- A call's end told in fewer words. -/
theorem ACall.less {as : List AV} (h : ACall P f as objs R1) (hR : ∀ r o, R1 r o → Less objs.length R r o) : ACall P f as objs R := by
  intro X π w vs m hv
  refine (h X π w vs m hv).mono ?_
  rintro e w' ⟨v, r, o, π', rfl, h1, h2, h3, h4⟩
  obtain ⟨r2, o2, g1, g2, g3, g4, g5, g6⟩ := hR r o h1
  obtain ⟨m1, m2, m3⟩ := mem_le h2 g3 g5
  exact ⟨v, r2, o2, _, rfl, g1, m1, m2 _ _ _ g2 g4 h3, m3 h4 (by have := m.len; simp only at this ⊢; omega)⟩

/-! ### A cell that holds nil owns a slice that grows -/
theorem nth_setNth_self {α : Type} {l : List α} {i : Nat} {x : α} (h : nth l i = some x) : setNth l i x = l := by
  rw [setNth_eq]
  rw [nth_eq] at h
  exact List.ext_getElem? fun j => by
    rw [List.getElem?_set]
    split
    · rename_i e
      subst e
      split
      · exact h.symm
      · rename_i hlt
        have := (List.getElem?_eq_some_iff.1 h).1
        omega
    · rfl

theorem sat_ownCell (i k : Nat) {e e' : TypeId} {cs : List AV} {s : Nat} (rd : Nat → D) (ho : nth objs i = some (some (.cells e cs))) (hc : nth cs k = some (.d (.v (.slice none 0 0))))
    (kk : ASat P f n C todo env (setNth objs i (some (.cells e (setNth cs k (.gs objs.length)))) ++ [some (.grow e' s [] rd)]) R) : ASat P f n C todo env objs R := by
  intro π w tmps hn hm hh he
  have htr : Tr C.X π objs w none (π ++ [.slice none 0 0]) (objs ++ [some (.grow e' s [] rd)]) w := tr_newW hm rfl rfl ⟨rfl, Nat.le_refl _⟩ (Nat.le_refl _) (fun _ _ => rfl) _ _ (by intro b e; cases e) .gnil
  have hm1 := htr.mem
  have ho1 : nth (objs ++ [some (.grow e' s [] rd)]) i = some (some (.cells e cs)) := nth_append_left ho
  have hset : setNth objs i (some (.cells e (setNth cs k (.gs objs.length)))) ++ [some (.grow e' s [] rd)] = setNth (objs ++ [some (.grow e' s [] rd)]) i (some (.cells e (setNth cs k (.gs objs.length)))) := by
    rw [setNth_eq objs, setNth_eq (objs ++ _), List.set_append_left _ _ (nth_lt ho)]
  rw [hset] at kk
  obtain ⟨h, h5, h6⟩ := hm1.obj i _ ho1
  cases h6 with
  | cells hb hcs hf =>
    rename_i b vs
    obtain ⟨v, hv1, hv2⟩ := hcs.get hc
    have hv3 : v = .slice none 0 0 := by cases hv2 with | d h => cases h; rfl
    subst hv3
    have htr2 := tr_set (o' := .cells e (setNth cs k (.gs objs.length))) hm1 ho1 h5 (b := b) rfl rfl rfl ⟨rfl, Nat.le_refl _⟩ rfl (fun _ _ => rfl) ?_
    · exact kk _ w tmps hn htr2.mem (hist_tr (hist_tr hh htr) htr2) (env_tr (env_tr he htr) htr2)
    · have hrel := hcs.set k (x := .gs objs.length) (v := .slice none 0 0) (.gs (nth_new hm.len _))
      have hvs : vs.set k (.slice none 0 0) = vs := by
        have := nth_setNth_self (l := vs) (i := k) (x := .slice none 0 0) (by rw [nth_eq]; exact hv1)
        rwa [setNth_eq] at this
      rw [hvs] at hrel
      refine .cells hb (hrel.mono (fun c off u h1 h2 => ⟨(okOf_set ho1 c).2 h1, h2⟩) (fun _ _ h => h)) hf
end

/-! ### Lists as data -/
theorem map_rd {α : Type} (e : α → D) (d : α) (l : List α) : ∀ i, i < (l.map e).length → (l.map e)[i]? = some (e (l.getD i d)) := by
  intro i hi
  rw [List.length_map] at hi
  simp [List.getElem?_map, List.getD_eq_getElem?_getD, hi]
def eI (n : Int) : D := .v (.int .i64 n)
def eL {α : Type} (s : Nat) (e : α → D) (d : α) (l : List α) : D := .sl s (l.map e) (fun i => e (l.getD i d))
@[reducible] def eIs (l : List Int) : D := eL 1 eI 0 l
def gL {α : Type} (t : TypeId) (s : Nat) (e : α → D) (d : α) (l : List α) : AObj := .grow t s (l.map e) (fun i => e (l.getD i d))
theorem OLe.gL {α : Type} {t : TypeId} {s : Nat} {e : α → D} {d : α} {l : List α} {xs : List D} {rd : Nat → D} (h : xs = l.map e) : OLe (.grow t s xs rd) (Ab.gL t s e d l) := .grow h (map_rd e d l)
theorem VLe.eL {α : Type} {s : Nat} {e : α → D} {d : α} {l : List α} {xs : List D} {rd : Nat → D} (h : xs = l.map e) : VLe (.d (.sl s xs rd)) (.d (Ab.eL s e d l)) := .sl h (map_rd e d l)

end Ab
