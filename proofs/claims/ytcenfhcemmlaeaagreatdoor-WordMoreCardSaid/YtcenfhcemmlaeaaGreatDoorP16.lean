/- A part of the proof: Ab61. -/
import Derived.Test.YtcenfhcemmlaeaaGreatDoorP15
set_option linter.unusedVariables false
set_option linter.unusedSimpArgs false
set_option linter.unusedSimpArgs false
set_option linter.unusedVariables false
namespace Ab
open Go

section
variable {P : Program} {T : Tab} {f : FuncId} {fn : Func} {n m : Nat} {C : Cx} {R : AV → List (Option AObj) → Prop} {todo todo' k : List Item} {env env0 env' envF : Env} {objs objs' objs1 objs2 : List (Option AObj)} {nd : Prop} {ops : Array Oper} {l : List Oper} {K : Env → Prop} {X : Nat → Prop} {O : List Nat → List (Option AObj)}

theorem stepX_later {L : List Nat} {j : Nat} (hO : O (j :: L) = O L) {π : List Value} {w w2 : World} (hm : Mem X π (O L) w) (l : Later w w2) : StepX X O m ops envF L j π w π w2 := by
  have htr := l.tr hm
  refine ⟨by rw [hO]; exact htr.mem, by rw [hO]; exact htr.hist, fun t a v _ _ h => ?_⟩
  rw [hO]
  exact rel_later l h
/-- An operation that does not act. -/
theorem headX_of {j : Nat} {o : Oper} (hO : ∀ L, O (j :: L) = O L) (h : ∀ L, HeadOp P n X (O L) ops envF o) : HeadX P n X O m ops envF j o := by
  intro L _ _ _ _ π w tmps hs hm hl
  rcases h L π w tmps hs hm hl with ⟨hw, hp⟩ | ⟨hw, ⟨v, w2, hr, hlt, hp⟩ | ⟨g, args, hr, hc⟩⟩
  · exact .inl ⟨hw, π, stepX_later (hO L) hm (.refl w), by rw [hO]; exact hp⟩
  · exact .inr ⟨hw, .inl ⟨v, w2, π, hr, stepX_later (hO L) hm hlt, by rw [hO]; exact hp⟩⟩
  · refine .inr ⟨hw, .inr (.inr ⟨g, args, hr, hc.mono fun e w2 ⟨v, h1, h2, h3⟩ => ⟨v, π, h1, stepX_later (hO L) hm h2, by rw [hO]; exact h3⟩⟩)⟩
/-- A value that is made of others. -/
theorem headX_val {j : Nat} {o : Oper} {E : Env} {a : AV} {c : Option Prop} {d : Nat} (hT : TabOk P T) (hw : wantE ops (restr E (o.looksAt ops)) o = .yes) (hE : ∀ t ∈ o.looksAt ops, ∀ b, look E t = some b → look envF t = some b)
    (hs : ∀ L, estep T o (restr E (o.looksAt ops)) (O L) = some ⟨c, false, a, none, O L⟩) (hO : ∀ L, O (j :: L) = O L) (hc : cond c) (hdst : o.dst = some d) (hdn : Nat.blt d n = true) (hlook : look envF d = some a) : HeadX P n X O m ops envF j o := by
  intro L _ hjL _ _ π w tmps hsz hm hlk
  have he : EnvRel w (okOf X π (O L)) π (restr E (o.looksAt ops)) tmps := fun t b ht => by
    obtain ⟨h1, h2⟩ := look_restr ht
    exact hlk t h1 b (hE t h1 b h2)
  have hst := estep_ok (ds := []) hT hm he o
  rw [hs L] at hst
  obtain ⟨v, w', π', h1, h2, h3⟩ := hst hc
  refine .inr ⟨(wanted_of he).1 hw, .inl ⟨v, w', π', h1, ⟨by rw [hO]; exact h2.mem, by rw [hO]; exact h2.hist, fun t a u _ _ hu => by rw [hO]; exact h2.keep _ _ hu⟩, fun d' hd => ?_⟩⟩
  rw [hdst] at hd
  cases hd
  refine ⟨by simpa [Nat.blt_eq] using hdn, a, hlook, by rw [hO]; exact h3 rfl⟩

theorem held_eq {π : List Value} {objs : List (Option AObj)} {w : World} (hm : Mem X π objs w) {p i : Nat} {vh : Value} (hh : nth objs p = some (some (.hold (.gs i) vh))) : RelV w (okOf X π objs) π (.gs i) vh := by
  obtain ⟨h, hp, hr⟩ := hm.obj p _ hh
  cases hr with | hold h => exact h
theorem gs_unique {w : World} {ok : Nat → Prop} {π : List Value} {i : Nat} {v u : Value} (h : RelV w ok π (.gs i) v) (k : RelV w ok π (.gs i) u) : v = u := by
  cases h with
  | gs h => cases k with
    | gs k =>
      rw [h] at k
      cases k
      rfl

/-- A slice's header, that is held, is read. -/
theorem headX_ld {j q p i : Nat} {o : Oper} {E : Env} {d : Nat} {vh : Value} (hT : TabOk P T) (hw : wantE ops (restr E (o.looksAt ops)) o = .yes) (hE : ∀ t ∈ o.looksAt ops, ∀ b, look E t = some b → look envF t = some b)
    (hq : waitsB ops q j = true) (hp : ∀ L, q ∉ L → pstep T o (restr E (o.looksAt ops)) (O L) = .ok (.gs i)) (hh : ∀ L, q ∉ L → nth (O L) p = some (some (.hold (.gs i) vh))) (hfl : flat vh = true) (hO : ∀ L, O (j :: L) = O L)
    (hdst : o.dst = some d) (hdn : Nat.blt d n = true) (hlook : look envF d = some (.d (.v vh))) : HeadX P n X O m ops envF j o := by
  intro L _ hjL _ hcl π w tmps hsz hm hlk
  have hqL : q ∉ L := fun h => hjL (hcl q h j hq)
  have he : EnvRel w (okOf X π (O L)) π (restr E (o.looksAt ops)) tmps := fun t b ht => by
    obtain ⟨h1, h2⟩ := look_restr ht
    exact hlk t h1 b (hE t h1 b h2)
  have hdo := pstep_ok (ds := []) hT hm he o
  rw [hp L hqL] at hdo
  obtain ⟨v, d1, d2⟩ := hdo
  obtain rfl := gs_unique d1 (held_eq hm (hh L hqL))
  refine .inr ⟨(wanted_of he).1 hw, .inl ⟨v, w, π, d2 w (.refl w), stepX_later (hO L) hm (.refl w), fun d' hd => ?_⟩⟩
  rw [hdst] at hd
  cases hd
  exact ⟨by simpa [Nat.blt_eq] using hdn, _, hlook, .d (.v hfl)⟩

/-- A call that is lent objects; what another operation tells, that waits for it, is told behind it. -/
theorem headX_call {e q1 q2 late : Nat} {aL : AV} {envR E : Env} (ι : List Nat) {oe : Oper} {d : Tmp} {g : FuncId} {az bs : List AV} {objs0 : List (Option AObj)} {R' : AV → List (Option AObj) → Prop} {r0 : AV}
    (hE : ∀ t ∈ oe.looksAt ops, ∀ b, look E t = some b → look envF t = some b) (hF : envF = (late, aL) :: envR) (hdr : dropSE (memN ι) envR = envR) (hq1 : waitsB ops q1 q2 = true) (hq2 : waitsB ops q2 e = true) (hq1m : q1 < m)
    (hlate : dstIs ops q1 late = true) (honly : ((List.range ops.size).all fun q => q == q1 || !dstIs ops q late) = true)
    (hO0 : ∀ L, e ∉ L → q1 ∉ L → O L = objs') (hO1 : ∀ L, e ∉ L → q1 ∉ L → O (e :: L) = objs1)
    (hdst : oe.dst = some d) (hdn : Nat.blt d n = true) (hlook : look envF d = some r0) (hw : wantE ops (restr E (oe.looksAt ops)) oe = .yes) (hco : callOf (restr E (oe.looksAt ops)) oe = some (g, az)) (hen : ∀ args w, (callFunc g args).run P w = .ok (.enter g args) w)
    (hc : ACall P g bs objs0 R') (hs : subR (rho ι objs'.length) objs' ι objs0) (hv : VLs az (AV.rens (rho ι objs'.length) bs)) (hnd : nodupB ι = true) (hd : refsBs ι.length bs = true) (hro : refsO ι.length objs0 = true)
    (hr : ∀ r o, R' r o → r.ren (rho ι objs'.length) = r0 ∧ mergeO ι o objs' = objs1) : HeadX P n X O m ops envF e oe := by
  intro L hLm heL hdeps hcl π w tmps hsz hm hlk
  have hq1L : q1 ∉ L := fun h => heL (hcl q2 (hcl q1 h q2 hq1) e hq2)
  have hOL := hO0 L heL hq1L
  have hOj := hO1 L heL hq1L
  rw [hOL] at hm hlk
  have he : EnvRel w (okOf X π objs') π (restr E (oe.looksAt ops)) tmps := fun t b ht => by
    obtain ⟨h1, h2⟩ := look_restr ht
    exact hlk t h1 b (hE t h1 b h2)
  obtain ⟨vs, c1, c2⟩ := callOf_run he hco
  refine .inr ⟨(wanted_of he).1 hw, .inr (.inr ⟨g, vs.toArray, by rw [c2, hen], ?_⟩)⟩
  have hargs : RelVs w (okOf (lendX X π objs' ι) (lendP π ι) objs0) (lendP π ι) bs vs := by
    refine RelVs.unren (m := ι.length) (lend_keeps hm hs) ?_ bs hd (hv.rel c1)
    intro j' h' hj' hh'
    obtain ⟨i', hi'⟩ : ∃ i', nth ι j' = some i' := by
      rw [nth_eq]; exact ⟨ι[j'], List.getElem?_eq_getElem hj'⟩
    rw [rho_in hi'] at hh'
    rw [lendP_nth hi' (nth_lt hh')]
    exact hh'
  rcases hc _ _ w vs (lend_mem hm hs hnd hro) hargs with ⟨_, hcl2⟩ | ⟨v, w', hcl2, _⟩
  · refine hcl2.mono ?_
    rintro e2 w2 ⟨v, r, o, π', rfl, hR, hm', hrel, hhist⟩
    have L2 := lended hm hs hnd hm' hhist
    obtain ⟨e3, e4⟩ := hr r o hR
    have hmem := L2.mem
    have hhst := L2.hist
    have hkp := L2.keep
    have hbk := L2.back _ _ hrel
    rw [e4] at hmem hhst hkp hbk
    rw [e3] at hbk
    refine ⟨v, mergeP ι π' π, rfl, ⟨by rw [hOj]; exact hmem, by rw [hOL, hOj]; exact hhst, fun t a u ht hlv hau => ?_⟩, fun d' hd' => ?_⟩
    · rw [hOL] at hau
      have htl : late ≠ t := by
        rintro rfl
        rcases hlv with ⟨q, hqL, o', ho', hd'⟩ | hfree
        · have hqs := (Array.getElem?_eq_some_iff.1 ho').1
          have h1 := List.all_eq_true.1 honly q (List.mem_range.2 hqs)
          rw [dstIs_iff.2 ⟨o', ho', hd'⟩] at h1
          simp only [Bool.not_true, Bool.or_false, beq_iff_eq] at h1
          exact hq1L (h1 ▸ hqL)
        · rw [hfree q1 hq1m] at hlate
          cases hlate
      rw [hF, look_cons, if_neg htl] at ht
      have := hkp a u hau
      rw [dropSE_look hdr ht] at this
      rw [hOj]
      exact this
    · rw [hdst] at hd'
      cases hd'
      exact ⟨by simpa [Nat.blt_eq] using hdn, r0, hlook, by rw [hOj]; exact hbk⟩
  · rw [hen] at hcl2
    cases hcl2

theorem dropEnv_look {i : Nat} {env : Env} (h : dropEnv i env = env) {t : Tmp} {a : AV} (ht : look env t = some a) : a.drop i = a := by
  have := look_dropEnv i env t
  rw [h, ht] at this
  simpa using this.symm

/-- A slice whose header is held is appended to. -/
theorem headX_app {j p i late tv : Nat} {o : Oper} {E' envR : Env} {c : Option Prop} {vh : Value} (hT : TabOk P T) (hw : wantE ops E' o = .yes) (hE : ∀ t b, look E' t = some b → t ∈ o.looksAt ops ∧ ((t = tv ∧ b = .gs i) ∨ look envF t = some b)) (htv : look envF tv = some (.d (.v vh)))
    (hF : envF = (late, .gs i) :: envR) (hdr : dropEnv i envR = envR) (hjm : j < m) (hoj : ops[j]? = some o) (honly : ((List.range ops.size).all fun q => q == j || !dstIs ops q late) = true)
    (hO1 : ∀ L, j ∉ L → (∀ q, waitsB ops j q = true → q ∈ L) → (∀ q ∈ L, ∀ q', waitsB ops q q' = true → q' ∈ L) → O L = objs1) (hO2 : ∀ L, O (j :: L) = objs2) (hh : nth objs1 p = some (some (.hold (.gs i) vh)))
    (hs : estep T o E' objs1 = some ⟨c, false, .gs i, some i, objs2⟩) (hc : cond c) (hdst : o.dst = some late) (hdn : Nat.blt late n = true) : HeadX P n X O m ops envF j o := by
  intro L _ hjL hdeps hcl π w tmps hsz hm hlk
  have hOL := hO1 L hjL hdeps hcl
  have hOj := hO2 L
  rw [hOL] at hm hlk
  have hheld := held_eq hm hh
  have he : EnvRel w (okOf X π objs1) π E' tmps := fun t b ht => by
    obtain ⟨h1, h2⟩ := hE t b ht
    rcases h2 with ⟨rfl, rfl⟩ | h2
    · have := hlk t h1 _ htv
      cases this with
      | d h => cases h with | v _ => exact hheld
    · exact hlk t h1 b h2
  have hst := estep_ok (ds := []) hT hm he o
  rw [hs] at hst
  obtain ⟨v, w', π', h1, h2, h3⟩ := hst hc
  refine .inr ⟨(wanted_of he).1 hw, .inl ⟨v, w', π', h1, ⟨by rw [hOj]; exact h2.mem, by rw [hOL, hOj]; exact h2.hist, fun t a u ht hlv hu => ?_⟩, fun d' hd => ?_⟩⟩
  · rw [hOL] at hu
    have htl : late ≠ t := by
      rintro rfl
      rcases hlv with ⟨q, hqL, o', ho', hd'⟩ | hfree
      · have hqs := (Array.getElem?_eq_some_iff.1 ho').1
        have h4 := List.all_eq_true.1 honly q (List.mem_range.2 hqs)
        rw [dstIs_iff.2 ⟨o', ho', hd'⟩] at h4
        simp only [Bool.not_true, Bool.or_false, beq_iff_eq] at h4
        exact hjL (h4 ▸ hqL)
      · have := hfree j hjm
        rw [dstIs_iff.2 ⟨o, hoj, hdst⟩] at this
        cases this
    rw [hF, look_cons, if_neg htl] at ht
    have := h2.keep _ _ hu
    rw [keepQ, dropEnv_look hdr ht] at this
    rw [hOj]
    exact this
  · rw [hdst] at hd
    cases hd
    exact ⟨by simpa [Nat.blt_eq] using hdn, .gs i, by rw [hF, look_cons, if_pos rfl], by rw [hOj]; exact h3 rfl⟩

/-- The region, its quiet operations shown together, those that act one by one. -/
theorem sat_drawX (m : Nat) (A : Acts) (O : List Nat → List (Option AObj)) (E : Env) {id : Nat} {objsF : List (Option AObj)} (hT : TabOk P T) (hf : P.funcs[f]? = some fn) (hmx : P.follows .mixedOrders = true) (h : srun T n fn.results.toList 2000 True todo env objs = .draw nd id ops k env' objs') (hn : nd)
    (hB : drawB ops m = true) (hsee : seeB ops m A = true) (hO0 : O [] = objs') (hOF : ∀ L, (∀ i, i < m → i ∈ L) → O L = objsF) (hOj : ∀ j L, actB A j = false → O (j :: L) = O L)
    (hAm : (A.all fun x => Nat.blt x.1 m) = true) (hD : ∀ L, DSat P n C.X (O L) ops (fun x => x = E) (quietOps ops m A) env')
    (hA : ∀ x ∈ A, ∃ oe, ops[x.1]? = some oe ∧ oe.dst = x.2.map (·.1) ∧ HeadX P n C.X O m ops (actE A ++ E) x.1 oe)
    (hk : ASat P f n C (.inRegion ops (List.range' m (ops.size - m)) :: k) (actE A ++ E) objsF R) : ASat P f n C todo env objs R := by
  have hq : ∀ {j : Nat} {o : Oper}, j < m → actB A j = false → ops[j]? = some o → o ∈ quietOps ops m A := by
    intro j o hj hb ho
    unfold quietOps
    rw [List.mem_filterMap]
    exact ⟨j, List.mem_filter.2 ⟨List.mem_range.2 hj, by rw [hb]; rfl⟩, ho⟩
  have hns : ∀ {j : Nat} {o : Oper}, j < m → actB A j = false → ops[j]? = some o → ∀ x ∈ actE A, x.1 ∉ o.looksAt ops ∧ o.dst ≠ some x.1 := by
    intro j o hj hb ho x hx
    have h1 := List.all_eq_true.1 hsee j (List.mem_range.2 hj)
    rw [hb, ho] at h1
    have h1' : ((actE A).all fun x => !(o.looksAt ops).contains x.1 && o.dst != some x.1) = true := by simpa only [Bool.false_or] using h1
    have h2 := List.all_eq_true.1 h1' x hx
    simpa using h2
  suffices hcc : Cont P f n C R (.draw nd id ops k env' objs') from (run_sound hT hf 2000 True todo env objs (by rw [h]; exact hcc)).2
  refine ⟨hn, drawn_soundX hmx hB (envF := actE A ++ E) ?_ hO0 hOF ?_ hk⟩
  · intro j o hj ho
    cases hb : actB A j with
    | false =>
      refine headX_of (fun L => hOj j L hb) fun L => ?_
      obtain ⟨E0, a1, a2, a3, rfl⟩ := hD L
      have hn2 := hns hj hb ho
      refine headOp_env (fun t ht => look_skip fun x hx e => (hn2 x hx).1 (e ▸ ht)) (fun d hd => look_skip fun x hx e => (hn2 x hx).2 (e ▸ hd)) (a3 o (hq hj hb ho))
    | true =>
      obtain ⟨x, hx, hxe⟩ := List.any_eq_true.1 hb
      obtain rfl : x.1 = j := Nat.eq_of_beq_eq_true hxe
      obtain ⟨oe, h1, _, h3⟩ := hA x hx
      rw [ho] at h1
      cases h1
      exact h3
  · intro t ht a ha
    have hne : ∀ x ∈ actE A, x.1 ≠ t := by
      rintro x hx rfl
      obtain ⟨y, hy, hyx⟩ := List.mem_filterMap.1 hx
      obtain ⟨oe, h1, h2, _⟩ := hA y hy
      rw [hyx] at h2
      have hym := List.all_eq_true.1 hAm y hy
      have := ht y.1 (by simpa [Nat.blt_eq] using hym)
      rw [dstIs_iff.2 ⟨oe, h1, by simpa using h2⟩] at this
      cases this
    rw [look_skip hne] at ha
    obtain ⟨E0, a1, a2, a3, rfl⟩ := hD []
    refine a1 t (fun o ho hd => ?_) a ha
    unfold quietOps at ho
    rw [List.mem_filterMap] at ho
    obtain ⟨j, hj, ho⟩ := ho
    have hj := List.mem_range.1 (List.mem_filter.1 hj).1
    have := ht j hj
    rw [dstIs_iff.2 ⟨o, ho, hd⟩] at this
    cases this

/-- The objects ahead of a call, behind it, and behind an append. -/
def twoO (e9 e7 : Nat) (o0 o1 o2 : List (Option AObj)) (L : List Nat) : List (Option AObj) := if e9 ∈ L then o2 else if e7 ∈ L then o1 else o0
theorem twoO_P {p : List (Option AObj) → Prop} {e9 e7 : Nat} {o0 o1 o2 : List (Option AObj)} {L : List Nat} (h0 : p o0) (h1 : p o1) (h : e9 ∉ L) : p (twoO e9 e7 o0 o1 o2 L) := by
  rw [twoO, if_neg h]
  split
  · exact h1
  · exact h0
theorem twoO_Q {p : List (Option AObj) → Prop} {e9 e7 : Nat} {o0 o1 o2 : List (Option AObj)} {L : List Nat} (h0 : p o0) (h1 : p o1) (h2 : p o2) : p (twoO e9 e7 o0 o1 o2 L) := by
  rw [twoO]
  split
  · exact h2
  · split
    · exact h1
    · exact h0
theorem twoO_ne {e9 e7 j : Nat} {o0 o1 o2 : List (Option AObj)} {L : List Nat} (h9 : j ≠ e9) (h7 : j ≠ e7) : twoO e9 e7 o0 o1 o2 (j :: L) = twoO e9 e7 o0 o1 o2 L := by
  simp only [twoO, List.mem_cons, Ne.symm h9, Ne.symm h7, false_or]
theorem sat_drawX3 (m e9 e7 : Nat) (A : Acts) (objs1 objs2 : List (Option AObj)) (E : Env) {id : Nat} (hT : TabOk P T) (hf : P.funcs[f]? = some fn) (hmx : P.follows .mixedOrders = true) (h : srun T n fn.results.toList 2000 True todo env objs = .draw nd id ops k env' objs') (hn : nd)
    (hB : drawB ops m = true) (hsee : seeB ops m A = true) (h9m : Nat.blt e9 m = true) (h9 : actB A e9 = true) (h7 : actB A e7 = true)
    (hAm : (A.all fun x => Nat.blt x.1 m) = true) (hD0 : DSat P n C.X objs' ops (fun x => x = E) (quietOps ops m A) env') (hD1 : DSat P n C.X objs1 ops (fun x => x = E) (quietOps ops m A) env') (hD2 : DSat P n C.X objs2 ops (fun x => x = E) (quietOps ops m A) env')
    (hA : ∀ x ∈ A, ∃ oe, ops[x.1]? = some oe ∧ oe.dst = x.2.map (·.1) ∧ HeadX P n C.X (twoO e9 e7 objs' objs1 objs2) m ops (actE A ++ E) x.1 oe)
    (hk : ASat P f n C (.inRegion ops (List.range' m (ops.size - m)) :: k) (actE A ++ E) objs2 R) : ASat P f n C todo env objs R := by
  refine sat_drawX m A (twoO e9 e7 objs' objs1 objs2) E hT hf hmx h hn hB hsee (by simp [twoO]) (fun L hL => by rw [twoO, if_pos (hL e9 (by simpa [Nat.blt_eq] using h9m))]) (fun j L hj => ?_) hAm (fun L => ?_) hA hk
  · refine twoO_ne ?_ ?_
    · rintro rfl
      rw [h9] at hj
      cases hj
    · rintro rfl
      rw [h7] at hj
      cases hj
  · exact twoO_Q (p := fun o => DSat P n C.X o ops (fun x => x = E) (quietOps ops m A) env') hD0 hD1 hD2
theorem headX_ld3 {j e9 e7 p i : Nat} {o : Oper} {E : Env} {d : Nat} {vh : Value} {objs0 : List (Option AObj)} (hT : TabOk P T) (hw : wantE ops (restr E (o.looksAt ops)) o = .yes) (hE : ∀ t ∈ o.looksAt ops, ∀ b, look E t = some b → look envF t = some b)
    (hq : waitsB ops e9 j = true) (hp0 : pstep T o (restr E (o.looksAt ops)) objs0 = .ok (.gs i)) (hp1 : pstep T o (restr E (o.looksAt ops)) objs1 = .ok (.gs i)) (hh0 : nth objs0 p = some (some (.hold (.gs i) vh))) (hh1 : nth objs1 p = some (some (.hold (.gs i) vh))) (hfl : flat vh = true) (hj9 : j ≠ e9) (hj7 : j ≠ e7)
    (hdst : o.dst = some d) (hdn : Nat.blt d n = true) (hlook : look envF d = some (.d (.v vh))) : HeadX P n X (twoO e9 e7 objs0 objs1 objs2) m ops envF j o :=
  headX_ld hT hw hE hq (fun L hL => twoO_P (p := fun ob => pstep T o (restr E (o.looksAt ops)) ob = .ok (.gs i)) hp0 hp1 hL) (fun L hL => twoO_P (p := fun ob => nth ob p = some (some (.hold (.gs i) vh))) hh0 hh1 hL) hfl (fun L => twoO_ne hj9 hj7) hdst hdn hlook
theorem headX_val3 {j e9 e7 : Nat} {o : Oper} {E : Env} {a : AV} {c : Option Prop} {d : Nat} {objs0 : List (Option AObj)} (hT : TabOk P T) (hw : wantE ops (restr E (o.looksAt ops)) o = .yes) (hE : ∀ t ∈ o.looksAt ops, ∀ b, look E t = some b → look envF t = some b)
    (hs0 : estep T o (restr E (o.looksAt ops)) objs0 = some ⟨c, false, a, none, objs0⟩) (hs1 : estep T o (restr E (o.looksAt ops)) objs1 = some ⟨c, false, a, none, objs1⟩) (hs2 : estep T o (restr E (o.looksAt ops)) objs2 = some ⟨c, false, a, none, objs2⟩) (hj9 : j ≠ e9) (hj7 : j ≠ e7) (hc : cond c) (hdst : o.dst = some d) (hdn : Nat.blt d n = true) (hlook : look envF d = some a) : HeadX P n X (twoO e9 e7 objs0 objs1 objs2) m ops envF j o :=
  headX_val hT hw hE (fun L => twoO_Q (p := fun ob => estep T o (restr E (o.looksAt ops)) ob = some ⟨c, false, a, none, ob⟩) hs0 hs1 hs2) (fun L => twoO_ne hj9 hj7) hc hdst hdn hlook
theorem headX_app3 {j e8 e7 p i late tv : Nat} {o : Oper} {E' envR : Env} {c : Option Prop} {vh : Value} {objs0 : List (Option AObj)} (hT : TabOk P T) (hw : wantE ops E' o = .yes) (hE : ∀ t b, look E' t = some b → t ∈ o.looksAt ops ∧ ((t = tv ∧ b = .gs i) ∨ look envF t = some b)) (htv : look envF tv = some (.d (.v vh)))
    (hF : envF = (late, .gs i) :: envR) (hdr : dropEnv i envR = envR) (hjm : Nat.blt j m = true) (hoj : ops[j]? = some o) (honly : ((List.range ops.size).all fun q => q == j || !dstIs ops q late) = true)
    (h98 : waitsB ops j e8 = true) (h87 : waitsB ops e8 e7 = true) (hh : nth objs1 p = some (some (.hold (.gs i) vh)))
    (hs : estep T o E' objs1 = some ⟨c, false, .gs i, some i, objs2⟩) (hc : cond c) (hdst : o.dst = some late) (hdn : Nat.blt late n = true) : HeadX P n X (twoO j e7 objs0 objs1 objs2) m ops envF j o :=
  headX_app hT hw hE htv hF hdr (by simpa [Nat.blt_eq] using hjm) hoj honly (fun L h1 h2 h3 => by rw [twoO, if_neg h1, if_pos (h3 e8 (h2 e8 h98) e7 h87)]) (fun L => by rw [twoO, if_pos (List.mem_cons_self ..)]) hh hs hc hdst hdn
theorem headX_call3 {e e9 e8 late : Nat} {aL : AV} {envR E : Env} (ι : List Nat) {oe : Oper} {d : Tmp} {g : FuncId} {az bs : List AV} {objs0 : List (Option AObj)} {R' : AV → List (Option AObj) → Prop} {r0 : AV}
    (hE : ∀ t ∈ oe.looksAt ops, ∀ b, look E t = some b → look envF t = some b) (hF : envF = (late, aL) :: envR) (hdr : dropSE (memN ι) envR = envR) (h98 : waitsB ops e9 e8 = true) (h87 : waitsB ops e8 e = true) (h9m : Nat.blt e9 m = true)
    (hlate : dstIs ops e9 late = true) (honly : ((List.range ops.size).all fun q => q == e9 || !dstIs ops q late) = true) (hne : e ≠ e9)
    (hdst : oe.dst = some d) (hdn : Nat.blt d n = true) (hlook : look envF d = some r0) (hw : wantE ops (restr E (oe.looksAt ops)) oe = .yes) (hco : callOf (restr E (oe.looksAt ops)) oe = some (g, az)) (hen : ∀ args w, (callFunc g args).run P w = .ok (.enter g args) w)
    (hc : ACall P g bs objs0 R') (hs : subR (rho ι objs'.length) objs' ι objs0) (hv : VLs az (AV.rens (rho ι objs'.length) bs)) (hnd : nodupB ι = true) (hd : refsBs ι.length bs = true) (hro : refsO ι.length objs0 = true)
    (hr : ∀ r o, R' r o → r.ren (rho ι objs'.length) = r0 ∧ mergeO ι o objs' = objs1) : HeadX P n X (twoO e9 e objs' objs1 objs2) m ops envF e oe :=
  headX_call ι hE hF hdr h98 h87 (by simpa [Nat.blt_eq] using h9m) hlate honly (fun L h1 h2 => by rw [twoO, if_neg h2, if_neg h1]) (fun L h1 h2 => by rw [twoO, if_neg (by rw [List.mem_cons]; exact fun h => h.elim (fun h => hne h.symm) h2), if_pos (List.mem_cons_self ..)]) hdst hdn hlook hw hco hen hc hs hv hnd hd hro hr

/-- A slice's header is held: which it is. -/
theorem sat_holdO (i : Nat) {e : TypeId} {s : Nat} {xs : List D} {rd : Nat → D} (ho : nth objs i = some (some (.grow e s xs rd))) (k : ∀ v, flat v = true → ASat P f n C todo env (objs ++ [some (.hold (.gs i) v)]) R) : ASat P f n C todo env objs R := by
  intro π w tmps hn hm hh he
  obtain ⟨v, hp, hrel⟩ := hm.obj i _ ho
  have hv : RelV w (okOf C.X π objs) π (.gs i) v := by
    cases hrel with
    | gnil => exact .gs hp
    | grow _ _ _ _ _ _ _ _ => exact .gs hp
  have hfl : flat v = true := by cases hrel <;> rfl
  have htr : Tr C.X π objs w none (π ++ [.tuple #[]]) (objs ++ [some (.hold (.gs i) v)]) w :=
    tr_newW hm rfl rfl ⟨rfl, Nat.le_refl _⟩ (Nat.le_refl _) (fun _ _ => rfl) _ _ (by intro b e; cases e)
      (.hold (hv.mono (new_keepsW (fun _ _ => rfl) _ _ hm.len (by intro b e; cases e)) (new_hand _)))
  exact k v hfl _ w tmps hn htr.mem (hist_tr hh htr) (env_tr he htr)
end
end Ab
