/- Rules for proofs: where a run stops; loops; states that say less; slices that are owned, or no longer. -/
import Derived.Test.YtdnpkeahgpbkoaaAb25
set_option linter.unusedSimpArgs false
set_option linter.unusedVariables false
namespace Ab
open Go

section
variable {P : Program} {T : Tab} {f : FuncId} {fn : Func} {n : Nat} {C : Cx} {R : AV → List (Option AObj) → Prop} {todo todo' : List Item} {env env' : Env} {objs objs' : List (Option AObj)} {nd : Prop}

theorem sat_branch {t : Tmp} {b : Bool} (hT : TabOk P T) (hf : P.funcs[f]? = some fn) (h : srun T n fn.results.toList 2000 True todo env objs = .branch nd t b todo' env' objs') (hn : nd)
    (k1 : b = true → ASat P f n C todo' ((t, .lit true) :: env') objs' R) (k2 : b = false → ASat P f n C todo' ((t, .lit false) :: env') objs' R) : ASat P f n C todo env objs R :=
  (run_sound hT hf 2000 True todo env objs (by rw [h]; exact ⟨hn, k1, k2⟩)).2
theorem sat_stop (hT : TabOk P T) (hf : P.funcs[f]? = some fn) (h : srun T n fn.results.toList 2000 True todo env objs = .loop nd todo' env' objs') (hn : nd) (k : ASat P f n C todo' env' objs' R) : ASat P f n C todo env objs R :=
  (run_sound hT hf 2000 True todo env objs (by rw [h]; exact ⟨hn, k⟩)).2
theorem sat_goto (hT : TabOk P T) (hf : P.funcs[f]? = some fn) (h : srun T n fn.results.toList 2000 True todo env objs = .goto nd todo' env' objs') (hn : nd) (k : ASat P f n C todo' env' objs' R) : ASat P f n C todo env objs R :=
  (run_sound hT hf 2000 True todo env objs (by rw [h]; exact ⟨hn, k⟩)).2
theorem sat_ret {r : AV} (hT : TabOk P T) (hf : P.funcs[f]? = some fn) (h : srun T n fn.results.toList 2000 True todo env objs = .ret nd r objs') (hn : nd) (hR : R r objs') : ASat P f n C todo env objs R :=
  (run_sound hT hf 2000 True todo env objs (by rw [h]; exact ⟨hn, hR⟩)).2

/-! ### A state that says less -/
mutual
def refsB (m : Nat) : AV → Bool
  | .d _ => true
  | .ro _ => true
  | .dead => true
  | .lit _ => true
  | .und => true
  | .orc _ => true
  | .e0 _ => true
  | .ptr i _ => Nat.blt i m
  | .gs i => Nat.blt i m
  | .ge i _ _ _ => Nat.blt i m
  | .mp i => Nat.blt i m
  | .ag cs => refsBs m cs
  | .tp cs => refsBs m cs
  | .fn _ cs => refsBs m cs
  | .ifc _ x => refsB m x
def refsBs (m : Nat) : List AV → Bool
  | [] => true
  | x :: r => match refsB m x with | true => refsBs m r | false => false
end
def refsE (m : Nat) : Env → Bool
  | [] => true
  | (_, x) :: r => match refsB m x with | true => refsE m r | false => false
def refsM (m : Nat) : List (Value × AV) → Bool
  | [] => true
  | (_, x) :: r => match refsB m x with | true => refsM m r | false => false
def refsO1 (m : Nat) : AObj → Bool
  | .cells _ cs => refsBs m cs
  | .grow _ _ _ _ => true
  | .builder _ => true
  | .hold a _ => refsB m a
  | .map es => refsM m es
def refsO (m : Nat) : List (Option AObj) → Bool
  | [] => true
  | none :: r => refsO m r
  | some o :: r => match refsO1 m o with | true => refsO m r | false => false

mutual
theorem RelV.cut {w w' : World} {ok ok' : Nat → Prop} {π π' : List Value} {m : Nat} (hk : Keeps w ok w' ok') (hp : ∀ j h, j < m → nth π j = some h → nth π' j = some h) {a : AV} {v : Value} (hr : refsB m a = true) : RelV w ok π a v → RelV w' ok' π' a v
  | .d h => .d (h.mono hk)
  | .ro h hm => .ro (h.mono hk) (keeps_run hk hm)
  | .ptr h => .ptr (hp _ _ (by simpa [refsB, Nat.blt_eq] using hr) h)
  | .gs h => .gs (hp _ _ (by simpa [refsB, Nat.blt_eq] using hr) h)
  | .ge h => .ge (hp _ _ (by simpa [refsB, Nat.blt_eq] using hr) h)
  | .mp h => .mp (hp _ _ (by simpa [refsB, Nat.blt_eq] using hr) h)
  | .e0 => .e0
  | .lit => .lit
  | .und => .und
  | .orc => .orc
  | .ag h hf => .ag (h.cut hk hp (by simpa [refsB] using hr)) hf
  | .tp h => .tp (h.cut hk hp (by simpa [refsB] using hr))
  | .fn h => .fn (h.cut hk hp (by simpa [refsB] using hr))
  | .ifc h => .ifc (h.cut hk hp (by simpa [refsB] using hr))
  | .dead => .dead
theorem RelVs.cut {w w' : World} {ok ok' : Nat → Prop} {π π' : List Value} {m : Nat} (hk : Keeps w ok w' ok') (hp : ∀ j h, j < m → nth π j = some h → nth π' j = some h) {a : List AV} {v : List Value} (hr : refsBs m a = true) : RelVs w ok π a v → RelVs w' ok' π' a v
  | .nil => .nil
  | .cons (x := x) h t => by
    simp only [refsBs] at hr
    split at hr
    · rename_i hx; exact .cons (h.cut hk hp hx) (t.cut hk hp hr)
    · cases hr
end
theorem RelEs.cut {w w' : World} {ok ok' : Nat → Prop} {π π' : List Value} {m : Nat} (hk : Keeps w ok w' ok') (hp : ∀ j h, j < m → nth π j = some h → nth π' j = some h) : ∀ {a : List (Value × AV)} {v : List MapEntry}, refsM m a = true → RelEs w ok π a v → RelEs w' ok' π' a v
  | _, _, _, .nil => .nil
  | _, _, hr, .cons h t => by
    simp only [refsM] at hr
    split at hr
    · rename_i hx; exact .cons (h.cut hk hp hx) (t.cut hk hp hr)
    · cases hr
theorem RelO.cut {w w' : World} {ok ok' : Nat → Prop} {π π' : List Value} {m : Nat} (hk : Keeps w ok w' ok') (hp : ∀ j h, j < m → nth π j = some h → nth π' j = some h) {o : AObj} {h : Value} (hr : refsO1 m o = true) (hh : ∀ b, blk h = some b → w'.heap[b]? = w.heap[b]?) : RelO w ok π o h → RelO w' ok' π' o h
  | .cells hb h hf => .cells ((hh _ rfl).trans hb) (h.cut hk hp hr) hf
  | .gnil => .gnil
  | .grow hb hz h hu hc hm ho hr => .grow ((hh _ rfl).trans hb) hz (h.mono hk) hu hc hm ho hr
  | .map hb h => .map ((hh _ rfl).trans hb) (h.cut hk hp hr)
  | .hold h => .hold (h.cut hk hp hr)

theorem refsE_look {m : Nat} : ∀ {env : Env} {t : Nat} {a : AV}, refsE m env = true → look env t = some a → refsB m a = true
  | [], _, _, _, h => by simp [look] at h
  | (k, x) :: r, t, a, hr, h => by
    simp only [refsE] at hr
    split at hr
    · rename_i hx
      simp only [look] at h
      split at h
      · cases h; exact hx
      · exact refsE_look hr h
    · cases hr
theorem refsO_nth {m : Nat} : ∀ {objs : List (Option AObj)} {i : Nat} {o : AObj}, refsO m objs = true → nth objs i = some (some o) → refsO1 m o = true
  | [], _, _, _, h => by simp [nth] at h
  | none :: r, 0, o, _, h => by simp [nth] at h
  | none :: r, i + 1, o, hr, h => refsO_nth (objs := r) hr h
  | some x :: r, 0, o, hr, h => by
    simp only [nth, Option.some.injEq] at h
    subst h
    simp only [refsO] at hr
    split at hr
    · assumption
    · cases hr
  | some x :: r, i + 1, o, hr, h => by
    simp only [refsO] at hr
    split at hr
    · exact refsO_nth (objs := r) hr h
    · cases hr

/-- Whatever is so told is told rightly the other way, too. -/
def VLe (a b : AV) : Prop := ∀ w ok π v, RelV w ok π a v → RelV w ok π b v
theorem VLe.refl (a : AV) : VLe a a := fun _ _ _ _ h => h
theorem VLe.of {a b : AV} (h : a = b) : VLe a b := h ▸ VLe.refl a
theorem VLe.trans {a b c : AV} (h : VLe a b) (k : VLe b c) : VLe a c := fun w ok π v x => k w ok π v (h w ok π v x)
def OLe (a b : AObj) : Prop := ∀ w ok π h, RelO w ok π a h → RelO w ok π b h
theorem OLe.refl (a : AObj) : OLe a a := fun _ _ _ _ h => h
theorem OLe.of {a b : AObj} (h : a = b) : OLe a b := h ▸ OLe.refl a

theorem OLe.grow {e : TypeId} {s : Nat} {xs ys : List D} {rd rd' : Nat → D} (h : xs = ys) (hr : ∀ i, i < ys.length → ys[i]? = some (rd' i)) : OLe (.grow e s xs rd) (.grow e s ys rd') := by
  subst h
  intro w ok π h hh
  cases hh with
  | gnil => exact .gnil
  | grow a b c d e f g h => exact .grow a b c d e f g hr
theorem OLe.cells {e : TypeId} {cs ds : List AV} (h : cs = ds) : OLe (.cells e cs) (.cells e ds) := h ▸ OLe.refl _
theorem VLe.sl {s : Nat} {xs ys : List D} {rd rd' : Nat → D} (h : xs = ys) (hr : ∀ i, i < ys.length → ys[i]? = some (rd' i)) : VLe (.d (.sl s xs rd)) (.d (.sl s ys rd')) := by
  subst h
  intro w ok π v hv
  cases hv with
  | d hv => cases hv with
    | nil hb => exact .d (.nil hb)
    | sl a b c d e => exact .d (.sl a b c d hr)
theorem VLe.nil {s : Nat} {rd : Nat → D} : VLe (.d (.v (.slice none 0 0))) (.d (.sl s [] rd)) := by
  intro w ok π v hv
  cases hv with
  | d hv => cases hv; exact .d (.nil (Nat.zero_le _))
theorem VLe.e0 {s s' : Nat} {rd : Nat → D} : VLe (.e0 s') (.d (.sl s [] rd)) := by
  intro w ok π v hv
  cases hv
  exact .d (.nil (Nat.zero_le _))
theorem VLe.lit {b : Bool} : VLe (.lit b) (.d (.v (.bool b))) := by
  intro w ok π v hv
  cases hv
  exact .d (.v rfl)

def subE : Env → Env → Prop
  | [], _ => True
  | (t, a) :: r, env => (∃ b, look env t = some b ∧ VLe b a) ∧ subE r env
def subO : List (Option AObj) → List (Option AObj) → Prop
  | [], _ => True
  | none :: r, _ :: s => subO r s
  | some o :: r, some o' :: s => OLe o' o ∧ subO r s
  | _, _ => False

theorem subE_look {env : Env} : ∀ {env' : Env} {t : Nat} {a : AV}, subE env' env → look env' t = some a → ∃ b, look env t = some b ∧ VLe b a
  | [], _, _, _, h => by simp [look] at h
  | (k, x) :: r, t, a, hs, h => by
    simp only [look] at h
    split at h
    · rename_i e
      have e' : k = t := by simpa using e
      cases h
      subst e'
      exact hs.1
    · exact subE_look hs.2 h
theorem subO_nth : ∀ {objs' objs : List (Option AObj)} {i : Nat} {o : AObj}, subO objs' objs → nth objs' i = some (some o) → ∃ o', nth objs i = some (some o') ∧ OLe o' o
  | [], _, _, _, _, h => by simp [nth] at h
  | none :: r, x :: s, 0, o, _, h => by simp [nth] at h
  | none :: r, x :: s, i + 1, o, hs, h => subO_nth (objs' := r) (objs := s) hs h
  | some x :: r, some y :: s, 0, o, hs, h => by
    simp only [nth, Option.some.injEq] at h
    subst h
    exact ⟨y, rfl, hs.1⟩
  | some x :: r, some y :: s, i + 1, o, hs, h => subO_nth (objs' := r) (objs := s) hs.2 h
  | none :: r, [], _, _, hs, _ => hs.elim
  | some x :: r, [], _, _, hs, _ => hs.elim
  | some x :: r, none :: s, _, _, hs, _ => hs.elim
theorem subO_len : ∀ {objs' objs : List (Option AObj)}, subO objs' objs → objs'.length ≤ objs.length
  | [], _, _ => Nat.zero_le _
  | none :: r, x :: s, h => Nat.succ_le_succ (subO_len (objs' := r) (objs := s) h)
  | some x :: r, some y :: s, h => Nat.succ_le_succ (subO_len (objs' := r) (objs := s) h.2)
  | none :: r, [], h => h.elim
  | some x :: r, [], h => h.elim
  | some x :: r, none :: s, h => h.elim

theorem nth_take {α : Type} {l : List α} {m j : Nat} {x : α} (hj : j < m) (h : nth l j = some x) : nth (l.take m) j = some x := by
  rw [nth_eq] at h ⊢
  rw [List.getElem?_take, if_pos hj]
  exact h
theorem nth_of_take {α : Type} {l : List α} {m j : Nat} {x : α} (h : nth (l.take m) j = some x) : j < m ∧ nth l j = some x := by
  rw [nth_eq] at h
  rw [List.getElem?_take] at h
  split at h
  · rename_i hj; exact ⟨hj, by rw [nth_eq]; exact h⟩
  · cases h

/-- Less is told of the state: what follows is to be shown of what is told. -/
theorem asat_le (hE : subE env' env) (hO : subO objs' objs) (hr : refsE objs'.length env' = true) (hro : refsO objs'.length objs' = true) (hC : C.objs.length ≤ objs'.length) (hCl : C.π.length = C.objs.length)
    (k : ASat P f n C todo env' objs' R) : ASat P f n C todo env objs R := by
  intro π w tmps hn hm hh he
  have hlen := subO_len hO
  have hml := hm.len
  have hold : ∀ {i : Nat} {o : AObj} {h : Value}, nth objs' i = some (some o) → nth (π.take objs'.length) i = some h → ∃ o', nth objs i = some (some o') ∧ OLe o' o ∧ nth π i = some h := by
    intro i o h h1 h2
    obtain ⟨o', h3, h4⟩ := subO_nth hO h1
    exact ⟨o', h3, h4, (nth_of_take h2).2⟩
  have hk : Keeps w (okOf C.X π objs) w (okOf C.X (π.take objs'.length) objs') := by
    intro b o u h1 h2
    refine ⟨⟨h1.1, fun i ob h h3 h4 => ?_⟩, h2⟩
    obtain ⟨o', h5, _, h6⟩ := hold h3 h4
    exact h1.2 i o' h h5 h6
  have hp : ∀ j h, j < objs'.length → nth π j = some h → nth (π.take objs'.length) j = some h := fun j h hj h1 => nth_take hj h1
  refine k (π.take objs'.length) w tmps hn ⟨by rw [List.length_take]; omega, ?_, ?_, ?_, hm.inX⟩ ⟨hh.os, hh.tape, hh.output, hh.size, hh.heap, ?_, ?_⟩ ?_
  · intro i o ho
    obtain ⟨o', h3, h4⟩ := subO_nth hO ho
    obtain ⟨h, h5, h6⟩ := hm.obj i o' h3
    exact ⟨h, hp i h (nth_lt ho) h5, (h4 _ _ _ _ h6).cut hk hp (refsO_nth hro ho) (fun _ _ => rfl)⟩
  · intro i j o o' h h' b hne h1 h2 h3 h4
    obtain ⟨o1, a1, _, a2⟩ := hold h1 h3
    obtain ⟨o2, b1, _, b2⟩ := hold h2 h4
    exact hm.dist i j o1 o2 h h' b hne a1 b1 a2 b2
  · intro i o h b h1 h2
    obtain ⟨o1, a1, _, a2⟩ := hold h1 h2
    exact hm.ext i o1 h b a1 a2
  · intro i o h b h1 h2
    obtain ⟨o1, a1, _, a2⟩ := hold h1 h2
    exact hh.own i o1 h b a1 a2
  · intro i h h1 h2
    have := nth_lt h1
    exact nth_take (by omega) (hh.hand i h h1 h2)
  · intro t a ht
    obtain ⟨b, h1, h2⟩ := subE_look hE ht
    exact (h2 _ _ _ _ (he t b h1)).cut hk hp (refsE_look hr ht)

theorem sat_le {o0 : List (Option AObj)} (k : ASat P f n C todo env' objs' R) (hC : C.objs = o0) (hCl : C.π.length = C.objs.length) (hE : subE env' env) (hO : subO objs' objs) (hr : refsE objs'.length env' = true) (hro : refsO objs'.length objs' = true) (hl : o0.length ≤ objs'.length) :
    ASat P f n C todo env objs R := asat_le hE hO hr hro (by rw [hC]; exact hl) hCl k

/-- A slice's length is a number. -/
theorem sat_len {t s : Nat} {xs : List D} {rd : Nat → D} (hl : look env t = some (.d (.sl s xs rd))) (k : xs.length ≤ 9223372036854775807 → ASat P f n C todo env objs R) : ASat P f n C todo env objs R := by
  intro π w tmps hn hm hh he
  have hv := he t _ hl
  have : xs.length ≤ 9223372036854775807 := by
    have hml : maxLen = 9223372036854775807 := rfl
    revert hv
    generalize tmps.getD t undef = v
    intro hv
    cases hv with
    | d h => cases h with
      | nil _ => simp
      | sl a b c d e => omega
  exact k this π w tmps hn hm hh he
theorem sat_lenG {i s : Nat} {e : TypeId} {xs : List D} {rd : Nat → D} (hl : nth objs i = some (some (.grow e s xs rd))) (k : xs.length ≤ 9223372036854775807 → ASat P f n C todo env objs R) : ASat P f n C todo env objs R := by
  intro π w tmps hn hm hh he
  obtain ⟨h, _, hr⟩ := hm.obj i _ hl
  have : xs.length ≤ 9223372036854775807 := by
    have hml : maxLen = 9223372036854775807 := rfl
    cases hr with
    | gnil => simp
    | grow a b c d e f g h => omega
  exact k this π w tmps hn hm hh he
/-- A temporary told in other words. -/
theorem sat_view {t : Nat} {a b : AV} (hl : look env t = some a) (hv : VLe a b) (k : ASat P f n C todo ((t, b) :: env) objs R) : ASat P f n C todo env objs R := by
  intro π w tmps hn hm hh he
  refine k π w tmps hn hm hh fun u c hu => ?_
  simp only [look] at hu
  split at hu
  · rename_i e
    have e' : t = u := by simpa using e
    cases hu
    subst e'
    exact hv _ _ _ _ (he t a hl)
  · exact he u c hu

/-! ### Loops -/
theorem wrap_id {n : Int} (h0 : -9223372036854775808 ≤ n) (h1 : n ≤ 9223372036854775807) : IntKind.i64.wrap n = n := by
  simp only [IntKind.wrap, IntKind.bits, IntKind.signed, show (2 : Int) ^ 64 = 18446744073709551616 from rfl, show (2 : Int) ^ (64 - 1) = 9223372036854775808 from rfl, Bool.true_and, decide_eq_true_eq]
  split <;> omega

theorem sat_while {α : Type} {b : Code} {k : List Item} (I : α → Env) (O : α → List (Option AObj)) (Inv : α → Prop) (μ : α → Nat) (a0 : α) (h0 : Inv a0) (hle : ASat P f n C (.code (.loop b) :: k) (I a0) (O a0) R → ASat P f n C (.code (.loop b) :: k) env objs R)
    (body : ∀ a, Inv a → (∀ a', Inv a' → μ a' < μ a → ASat P f n C (.inLoop b :: k) (I a') (O a') R) → ASat P f n C (.code b :: .inLoop b :: k) (I a) (O a) R) : ASat P f n C (.code (.loop b) :: k) env objs R := by
  have key : ∀ m a, μ a < m → Inv a → ASat P f n C (.code b :: .inLoop b :: k) (I a) (O a) R := by
    intro m
    induction m with
    | zero => intro a h; omega
    | succ m ih =>
      intro a h hi
      refine body a hi fun a' hi' ha' => ?_
      have := ih a' (by omega) hi'
      exact fun π w tmps hn hm hh he => .inLoop (this π w tmps hn hm hh he)
  exact hle (fun π w tmps hn hm hh he => .loop (key (μ a0 + 1) a0 (by omega) h0 π w tmps hn hm hh he))
theorem sat_for {α : Type} {b : Code} {k : List Item} (I : α → Env) (O : α → List (Option AObj)) (μ : α → Nat) (a0 : α) (hle : ASat P f n C (.code (.loop b) :: k) (I a0) (O a0) R → ASat P f n C (.code (.loop b) :: k) env objs R)
    (body : ∀ a, (∀ a', μ a' < μ a → ASat P f n C (.inLoop b :: k) (I a') (O a') R) → ASat P f n C (.code b :: .inLoop b :: k) (I a) (O a) R) : ASat P f n C (.code (.loop b) :: k) env objs R := by
  have key : ∀ m a, μ a < m → ASat P f n C (.code b :: .inLoop b :: k) (I a) (O a) R := by
    intro m
    induction m with
    | zero => intro a h; omega
    | succ m ih =>
      intro a h
      refine body a fun a' ha' => ?_
      have := ih a' (by omega)
      exact fun π w tmps hn hm hh he => .inLoop (this π w tmps hn hm hh he)
  exact hle (fun π w tmps hn hm hh he => .loop (key (μ a0 + 1) a0 (by omega) π w tmps hn hm hh he))
end

end Ab
