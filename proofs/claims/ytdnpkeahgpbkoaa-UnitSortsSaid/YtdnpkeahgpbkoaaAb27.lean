/- Rules: regions that draw their order; calls on data; slices that are owned, or no longer. -/
import Derived.Test.YtdnpkeahgpbkoaaAb26
set_option linter.unusedSimpArgs false
set_option linter.unusedVariables false
namespace Ab
open Go

section
variable {P : Program} {T : Tab} {f : FuncId} {fn : Func} {n : Nat} {C : Cx} {R : AV → List (Option AObj) → Prop} {todo todo' : List Item} {env env' : Env} {objs objs' : List (Option AObj)} {nd : Prop}

/-! ### A region that draws its order, and only reads -/
structure Later (w w' : World) : Prop where
  os : w'.os = w.os
  tape : w'.tape = w.tape
  output : (w'.output = w.output ∧ w.drawn ≤ w'.drawn)
  size : w.heap.size ≤ w'.heap.size
  ext : Ext w w'
theorem Later.refl (w : World) : Later w w := ⟨rfl, rfl, ⟨rfl, Nat.le_refl _⟩, Nat.le_refl _, Ext.refl w⟩
theorem Later.tr {X : Nat → Prop} {π : List Value} {w w' : World} (m : Mem X π objs w) (l : Later w w') : Tr X π objs w none π objs w' := tr_plain m l.os l.tape l.output l.size l.ext

theorem qrun_quiet (hT : TabOk P T) {X : Nat → Prop} {π : List Value} {w : World} (m : Mem X π objs w) {ops : Array Oper} : ∀ (l : List Oper) (nd : Prop) (env : Env) (tmps : Array Value) (nd2 : Prop) (env2 : Env), qrun T n ops l nd env objs = some (nd2, env2) → nd2 →
    tmps.size = n → EnvRel w (okOf X π objs) π env tmps → ∀ {Q : Act → Prop}, (∀ t, t.size = n → EnvRel w (okOf X π objs) π env2 t → Q ⟨t, []⟩) → nd ∧ wpQuiet P ops (Later w) Q l ⟨tmps, []⟩
  | [], nd, env, tmps, nd2, env2, h, hn2, hn, he, Q, hQ => by
    simp only [qrun, Option.some.injEq, Prod.mk.injEq] at h
    obtain ⟨rfl, rfl⟩ := h
    exact ⟨hn2, hQ tmps hn he⟩
  | o :: l, nd, env, tmps, nd2, env2, h, hn2, hn, he, Q, hQ => by
    simp only [qrun] at h
    cases hw : wantE ops env o with
    | yes =>
      rw [hw] at h
      simp only at h
      have hwant := (wanted_of he).1 hw
      cases hp : pstep T o env objs with
      | ok a =>
        rw [hp] at h
        simp only at h
        cases hput : putE n o.dst a env with
        | none => rw [hput] at h; cases h
        | some e =>
          rw [hput] at h
          have hdo := pstep_ok (ds := []) hT m he o
          rw [hp] at hdo
          obtain ⟨v, d1, d2⟩ := hdo
          obtain ⟨p1, p2⟩ := put_rel he hn hput d1
          obtain ⟨r1, r2⟩ := qrun_quiet hT m l nd e _ nd2 env2 h hn2 p2 p1 hQ
          refine ⟨r1, ?_⟩
          simp only [wpQuiet, hwant, if_true]
          refine ⟨v, fun w' hw' => ?_, by rw [put_eq]; exact r2⟩
          simp only [Oper.quietAt, d2 w' hw'.ext, Oper.quietUpon]
          exact ⟨trivial, trivial⟩
      | iff c a =>
        rw [hp] at h
        simp only at h
        cases hput : putE n o.dst a env with
        | none => rw [hput] at h; cases h
        | some e =>
          rw [hput] at h
          have hdo := pstep_ok (ds := []) hT m he o
          rw [hp] at hdo
          have hcn : c ∧ nd := by
            have aux : ∀ t, t.size = n → EnvRel w (okOf X π objs) π env2 t → (fun _ : Act => True) ⟨t, []⟩ := fun _ _ _ => trivial
            have key : ∀ (l : List Oper) (nd : Prop) (env : Env), qrun T n ops l nd env objs = some (nd2, env2) → nd := by
              intro l
              induction l with
              | nil => intro nd env h; simp only [qrun, Option.some.injEq, Prod.mk.injEq] at h; rw [h.1]; exact hn2
              | cons o l ih =>
                intro nd env h
                simp only [qrun] at h
                split at h
                · split at h
                  · split at h
                    · exact ih _ _ h
                    · cases h
                  · split at h
                    · exact (ih _ _ h).2
                    · cases h
                  · cases h
                · split at h
                  · exact ih _ _ h
                  · cases h
                · cases h
            exact key _ _ _ h
          obtain ⟨v, d1, d2⟩ := hdo hcn.1
          obtain ⟨p1, p2⟩ := put_rel he hn hput d1
          obtain ⟨r1, r2⟩ := qrun_quiet hT m l (c ∧ nd) e _ nd2 env2 h hn2 p2 p1 hQ
          refine ⟨r1.2, ?_⟩
          simp only [wpQuiet, hwant, if_true]
          refine ⟨v, fun w' hw' => ?_, by rw [put_eq]; exact r2⟩
          simp only [Oper.quietAt, d2 w' hw'.ext, Oper.quietUpon]
          exact ⟨trivial, trivial⟩
      | no => rw [hp] at h; cases h
    | no =>
      rw [hw] at h
      simp only at h
      cases hput : putE n o.dst .und env with
      | none => rw [hput] at h; cases h
      | some e =>
        rw [hput] at h
        obtain ⟨p1, p2⟩ := put_rel he hn hput (.und (w := w) (ok := okOf X π objs) (π := π))
        obtain ⟨r1, r2⟩ := qrun_quiet hT m l nd e _ nd2 env2 h hn2 p2 p1 hQ
        refine ⟨r1, ?_⟩
        simp only [wpQuiet, (wanted_of he).2 hw]
        rw [put_eq]
        simpa using r2
    | ask t b => rw [hw] at h; cases h
    | dunno => rw [hw] at h; cases h

theorem sat_draw {id : Nat} {ops : Array Oper} {k : List Item} {nd2 : Prop} {env2 : Env} (hT : TabOk P T) (hf : P.funcs[f]? = some fn) (hmx : P.follows .mixedOrders = true) (h : srun T n fn.results.toList 2000 True todo env objs = .draw nd id ops k env' objs') (hn : nd)
    (hB : Region.lexB .any ops = true) (hq : qrun T n ops ops.toList True env' objs' = some (nd2, env2)) (hn2 : nd2) (hk : ASat P f n C k env2 objs' R) : ASat P f n C todo env objs R := by
  suffices hc : Cont P f n C R (.draw nd id ops k env' objs') from (run_sound hT hf 2000 True todo env objs (by rw [h]; exact hc)).2
  refine ⟨hn, fun π w tmps hs hm hh he => ?_⟩
  refine .ofWp (wp_region_quiet (C := Later w) hmx hB ⟨rfl, rfl, ⟨rfl, Nat.le_succ _⟩, Nat.le_refl _, fun _ _ => rfl⟩ ?_)
  refine (qrun_quiet hT hm ops.toList True env' tmps nd2 env2 hq hn2 hs he fun t ht het w' hw' => ?_).2
  have htr := hw'.tr hm
  exact ⟨rfl, t, rfl, hk π w' t ht htr.mem (hist_tr hh htr) (env_tr het htr)⟩

/-! ### Calls on data -/
def VLs : List AV → List AV → Prop
  | [], [] => True
  | a :: r, b :: s => VLe a b ∧ VLs r s
  | _, _ => False
theorem VLs.rel {w : World} {ok : Nat → Prop} {π : List Value} : ∀ {as bs : List AV} {vs : List Value}, VLs as bs → RelVs w ok π as vs → RelVs w ok π bs vs
  | [], [], _, _, h => h
  | a :: r, b :: s, _, hv, .cons h t => .cons (hv.1 _ _ _ _ h) (VLs.rel hv.2 t)
  | [], _ :: _, _, h, _ => h.elim
  | _ :: _, [], _, h, _ => h.elim
theorem VLs.refl : ∀ l : List AV, VLs l l
  | [] => trivial
  | a :: r => ⟨.refl a, VLs.refl r⟩

def putD (dst : Option Tmp) (a : AV) (env : Env) : Env := match dst with | none => env | some d => (d, a) :: env
theorem putD_eq {dst : Option Tmp} {a b : AV} {e : Env} (h : putE n dst a env = some e) : putE n dst b env = some (putD dst b env) := by
  cases dst with
  | none => rfl
  | some d =>
    simp only [putE] at h ⊢
    cases hb : Nat.blt d n with
    | false => rw [hb] at h; cases h
    | true => rfl

/-- What of a caller's memory a callee may not rely upon. -/
def Xof (X : Nat → Prop) (π : List Value) (objs : List (Option AObj)) (b : Nat) : Prop := X b ∨ ∃ i o h, nth objs i = some (some o) ∧ nth π i = some h ∧ blk h = some b

theorem Xof_ok {X : Nat → Prop} {π : List Value} {b : Nat} : okOf (Xof X π objs) [] [] b ↔ okOf X π objs b := by
  constructor
  · rintro ⟨h1, _⟩
    exact ⟨fun hx => h1 (.inl hx), fun i o h ho hp e => h1 (.inr ⟨i, o, h, ho, hp, e⟩)⟩
  · rintro ⟨h1, h2⟩
    refine ⟨?_, fun i o h ho => by simp [nth] at ho⟩
    rintro (hx | ⟨i, o, h, ho, hp, e⟩)
    · exact h1 hx
    · exact h2 i o h ho hp e
theorem mem_nil {X : Nat → Prop} {π : List Value} {w : World} (m : Mem X π objs w) : Mem (Xof X π objs) [] [] w := by
  refine ⟨rfl, fun i o h => by simp [nth] at h, fun i j o o' h h' b _ h1 => by simp [nth] at h1, fun i o h b h1 => by simp [nth] at h1, ?_⟩
  rintro b (hx | ⟨i, o, h, ho, hp, e⟩)
  · exact m.inX b hx
  · exact m.lt ho hp e

theorem hist_later {π' : List Value} {objs1 : List (Option AObj)} {w w' : World} (h : Hist [] [] w π' objs1 w') : Later w w' :=
  ⟨h.os, h.tape, h.output, h.size, fun b hb => h.heap b hb (fun i o k h1 => by simp [nth] at h1)⟩

/-- A call whose arguments and result are data. -/
theorem sat_call {g : FuncId} {as bs : List AV} {dst : Option Tmp} {R' : AV → List (Option AObj) → Prop} (hT : TabOk P T) (hf : P.funcs[f]? = some fn) (h : srun T n fn.results.toList 2000 True todo env objs = .call nd g as dst todo' env' objs') (hn : nd)
    (hc : ACall P g bs [] R') (hv : VLs as bs) (hd : refsBs 0 bs = true) (hdst : ∃ e, putE n dst .dead env' = some e) (hr : ∀ r o, R' r o → refsB 0 r = true) (k : ∀ r o, R' r o → ASat P f n C todo' (putD dst r env') objs' R) : ASat P f n C todo env objs R := by
  suffices hcc : Cont P f n C R (.call nd g as dst todo' env' objs') from (run_sound hT hf 2000 True todo env objs (by rw [h]; exact hcc)).2
  refine ⟨hn, hdst, fun π w tmps hs hm hh he vs hvs => ?_⟩
  have h1 : RelVs w (okOf (Xof C.X π objs') [] []) [] bs vs := (hv.rel hvs).cut (m := 0) (fun b o u a1 a2 => ⟨Xof_ok.2 a1, a2⟩) (fun j _ hj => absurd hj (Nat.not_lt_zero j)) hd
  refine (hc _ _ w vs (mem_nil hm) h1).mono ?_
  rintro e w' ⟨v, r, o, π', rfl, hR, hm', hrel, hhist⟩
  refine ⟨v, rfl, ?_⟩
  have hl := hist_later hhist
  have htr := hl.tr hm
  obtain ⟨e, hput⟩ := hdst
  have hrv : RelV w' (okOf C.X π objs') π r v := by
    refine hrel.cut (m := 0) (fun b o u a1 a2 => ⟨?_, a2⟩) (fun j _ hj => absurd hj (Nat.not_lt_zero j)) (hr r o hR)
    exact Xof_ok.1 ⟨a1.1, fun i o h h1 => by simp [nth] at h1⟩
  obtain ⟨p1, p2⟩ := put_rel (env_tr he htr) hs (putD_eq hput) hrv
  exact k r o hR π w' _ p2 htr.mem (hist_tr hh htr) p1

/-- The same, slices that grow lent for the call; what comes back is no memory. -/
def Lent (objs : List (Option AObj)) (a b : AV) : Prop := VLe a b ∨ ∃ i e s xs rd rd', a = .gs i ∧ nth objs i = some (some (.grow e s xs rd)) ∧ b = .d (.sl s xs rd') ∧ ∀ i, i < xs.length → xs[i]? = some (rd' i)
def Lents (objs : List (Option AObj)) : List AV → List AV → Prop
  | [], [] => True
  | a :: r, b :: s => Lent objs a b ∧ Lents objs r s
  | _, _ => False
def scalR : AV → Bool
  | .d (.v _) => true
  | .tp cs => scalRs cs
  | _ => false
where scalRs : List AV → Bool
  | [] => true
  | .d (.v _) :: r => scalRs r
  | _ => false

theorem scalRs_rel {w w' : World} {ok ok' : Nat → Prop} {π π' : List Value} : ∀ {cs : List AV} {vs : List Value}, scalR.scalRs cs = true → RelVs w ok π cs vs → RelVs w' ok' π' cs vs
  | [], _, _, .nil => .nil
  | x :: r, _, h, .cons hx ht => by
    unfold scalR.scalRs at h
    split at h
    · rename_i heq; cases heq
    · rename_i heq
      cases heq
      cases hx with | d hx => cases hx with | v hf => exact .cons (.d (.v hf)) (scalRs_rel h ht)
    · cases h
theorem scalR_rel {w w' : World} {ok ok' : Nat → Prop} {π π' : List Value} {r : AV} {v : Value} (h : scalR r = true) (hr : RelV w ok π r v) : RelV w' ok' π' r v := by
  unfold scalR at h
  split at h
  · cases hr with | d hr => cases hr with | v hf => exact .d (.v hf)
  · cases hr with | tp ht => exact .tp (scalRs_rel h ht)
  · cases h

theorem lent_rel {X : Nat → Prop} {π : List Value} {w : World} (m : Mem X π objs w) {a b : AV} {v : Value} (hl : Lent objs a b) (hd : refsB 0 b = true) (h : RelV w (okOf X π objs) π a v) : RelV w (okOf X [] []) [] b v := by
  have hk : Keeps w (okOf X π objs) w (okOf X [] []) := fun c o u a1 a2 => ⟨⟨a1.1, fun i ob h h1 => by simp [nth] at h1⟩, a2⟩
  rcases hl with hl | ⟨i, e, s, xs, rd, rd', rfl, ho, rfl, hr⟩
  · exact (hl _ _ _ _ h).cut (m := 0) hk (fun j _ hj => absurd hj (Nat.not_lt_zero j)) hd
  · obtain ⟨hv, hp, hrel⟩ := m.obj i _ ho
    cases h with
    | gs hh =>
      have hp0 := hp
      rw [hh] at hp
      cases hp
      cases hrel with
      | gnil => exact .d (.nil (Nat.zero_le _))
      | grow hb hz he hu hc hm ho2 hr2 =>
        refine .d (.sl (he.mono hk) (fun q hq => ⟨⟨m.ext i _ _ _ ho hp0 rfl, fun i ob h h1 => by simp [nth] at h1⟩, ?_⟩) hc hm hr)
        rw [cell_of_heap hb]
        exact hu q hq
theorem lents_rel {X : Nat → Prop} {π : List Value} {w : World} (m : Mem X π objs w) : ∀ {as bs : List AV} {vs : List Value}, Lents objs as bs → refsBs 0 bs = true → RelVs w (okOf X π objs) π as vs → RelVs w (okOf X [] []) [] bs vs
  | [], [], _, _, _, .nil => .nil
  | a :: r, b :: s, _, hl, hd, .cons h t => by
    simp only [refsBs] at hd
    split at hd
    · rename_i hb; exact .cons (lent_rel m hl.1 hb h) (lents_rel m hl.2 hd t)
    · cases hd
  | [], _ :: _, _, h, _, _ => h.elim
  | _ :: _, [], _, h, _, _ => h.elim

theorem sat_callL {g : FuncId} {as bs : List AV} {dst : Option Tmp} {R' : AV → List (Option AObj) → Prop} (hT : TabOk P T) (hf : P.funcs[f]? = some fn) (h : srun T n fn.results.toList 2000 True todo env objs = .call nd g as dst todo' env' objs') (hn : nd)
    (hc : ACall P g bs [] R') (hv : Lents objs' as bs) (hd : refsBs 0 bs = true) (hdst : ∃ e, putE n dst .dead env' = some e) (hr : ∀ r o, R' r o → scalR r = true) (k : ∀ r o, R' r o → ASat P f n C todo' (putD dst r env') objs' R) : ASat P f n C todo env objs R := by
  suffices hcc : Cont P f n C R (.call nd g as dst todo' env' objs') from (run_sound hT hf 2000 True todo env objs (by rw [h]; exact hcc)).2
  refine ⟨hn, hdst, fun π w tmps hs hm hh he vs hvs => ?_⟩
  have hm0 : Mem C.X [] [] w := ⟨rfl, fun i o h => by simp [nth] at h, fun i j o o' h h' b _ h1 => by simp [nth] at h1, fun i o h b h1 => by simp [nth] at h1, hm.inX⟩
  refine (hc _ _ w vs hm0 (lents_rel hm hv hd hvs)).mono ?_
  rintro e w' ⟨v, r, o, π', rfl, hR, hm', hrel, hhist⟩
  refine ⟨v, rfl, ?_⟩
  have htr := (hist_later hhist).tr hm
  obtain ⟨e, hput⟩ := hdst
  obtain ⟨p1, p2⟩ := put_rel (env_tr he htr) hs (putD_eq hput) (scalR_rel (hr r o hR) hrel)
  exact k r o hR π w' _ p2 htr.mem (hist_tr hh htr) p1

/-! ### A slice that is nil, or has no room, as one that grows -/
theorem sat_own {t s : Nat} {e : TypeId} (hl : look env t = some (.d (.v (.slice none 0 0))) ∨ ∃ s', look env t = some (.e0 s')) (rd : Nat → D) (k : ASat P f n C todo ((t, .gs objs.length) :: env) (objs ++ [some (.grow e s [] rd)]) R) : ASat P f n C todo env objs R := by
  intro π w tmps hn hm hh he
  obtain ⟨A, hA⟩ : ∃ A, tmps.getD t undef = .slice A 0 0 := by
    rcases hl with hl | ⟨s', hl⟩
    · have := he t _ hl
      revert this
      generalize tmps.getD t undef = v
      intro h
      cases h with | d h => cases h; exact ⟨none, rfl⟩
    · have := he t _ hl
      revert this
      generalize tmps.getD t undef = v
      intro h
      cases h
      exact ⟨_, rfl⟩
  have htr : Tr C.X π objs w none (π ++ [.slice A 0 0]) (objs ++ [some (.grow e s [] rd)]) w := tr_newW hm rfl rfl ⟨rfl, Nat.le_refl _⟩ (Nat.le_refl _) (fun _ _ => rfl) _ _ (by intro b e; cases A <;> cases e) .gnil
  refine k _ w tmps hn htr.mem (hist_tr hh htr) fun u c hu => ?_
  simp only [look] at hu
  split at hu
  · rename_i e
    have e' : t = u := by simpa using e
    cases hu
    subst e'
    rw [hA]
    exact .gs (nth_new hm.len _)
  · exact env_tr he htr u c hu
end

end Ab
