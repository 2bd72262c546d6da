/- A part of the proof: Ab57, Ab58, Ab59, Ab60, Ab61, Ab62, Ab64, Ab65, Ab66, Ab75, Ab76, N14, N0, KT, N3, Ab50, Ab51, N10, N11, N12, S0. -/
import Derived.Test.YtjjlipbddlignaaGreatDoorP12
import Derived.Recover
set_option linter.unusedVariables false
set_option linter.unusedSimpArgs false
set_option linter.unusedVariables false
set_option linter.unusedSectionVars false
namespace Ab
open Go
variable [Draws]

section
variable {P : Program} [Globals P] {T : Tab} {f : FuncId} {fn : Func} {n : Nat} {C : Cx} {R : AV → List (Option AObj) → Prop} {todo k : List Item} {env : Env} {objs objs' : List (Option AObj)} {nd : Prop}

end
end Ab
set_option linter.unusedSimpArgs false
set_option linter.unusedVariables false
set_option linter.unusedSectionVars false
namespace Ab
open Go
variable [Draws]
section
variable {P : Program} [Globals P] {T : Tab} {f : FuncId} {fn : Func} {n : Nat} {C : Cx} {objs : List (Option AObj)} {R : AV → List (Option AObj) → Prop} {ops : Array Oper} {m : Nat} {envF : Env} {X : Nat → Prop}
end
end Ab
set_option linter.unusedSimpArgs false
set_option linter.unusedVariables false
set_option linter.unusedSectionVars false
namespace Ab
open Go
variable [Draws]
section
variable {P : Program} [Globals P] {T : Tab} {n : Nat} {env : Env} {objs : List (Option AObj)} {ops : Array Oper} {K : Env → Prop} {X : Nat → Prop}
end
end Ab
set_option linter.unusedSimpArgs false
set_option linter.unusedVariables false
set_option linter.unusedSectionVars false
namespace Ab
open Go
variable [Draws]

section
variable {P : Program} [Globals P] {T : Tab} {f : FuncId} {fn : Func} {n m : Nat} {C : Cx} {R : AV → List (Option AObj) → Prop} {todo todo' k : List Item} {env env0 env' envF : Env} {objs objs' : List (Option AObj)} {nd : Prop} {ops : Array Oper} {l : List Oper} {K : Env → Prop} {X : Nat → Prop}

/-- A temporary that is told already, or that the head does not tell. -/
def LiveT (ops : Array Oper) (m : Nat) (L : List Nat) (t : Tmp) : Prop := (∃ q ∈ L, ∃ o, ops[q]? = some o ∧ o.dst = some t) ∨ ∀ j, j < m → dstIs ops j t = false
structure StepX (X : Nat → Prop) (O : List Nat → List (Option AObj)) (m : Nat) (ops : Array Oper) (envF : Env) (L : List Nat) (j : Nat) (π : List Value) (w : World) (π' : List Value) (w2 : World) : Prop where
  mem : Mem X π' (O (j :: L)) w2
  hist : Hist π (O L) w π' (O (j :: L)) w2
  keep : ∀ t a v, look envF t = some a → LiveT ops m L t → RelV w (okOf X π (O L)) π a v → RelV w2 (okOf X π' (O (j :: L))) π' a v
/-- What an operation does, whenever it is come to, whatever acted ahead of it. -/
def HeadX (P : Program) [Globals P] (n : Nat) (X : Nat → Prop) (O : List Nat → List (Option AObj)) (m : Nat) (ops : Array Oper) (envF : Env) (j : Nat) (o : Oper) : Prop :=
  ∀ L, (∀ q ∈ L, q < m) → j ∉ L → (∀ q, waitsB ops j q = true → q ∈ L) → (∀ q ∈ L, ∀ q', waitsB ops q q' = true → q' ∈ L) → ∀ π w tmps, tmps.size = n → Mem X π (O L) w → GOk P π (O L) w → (∀ t ∈ o.looksAt ops, ∀ a, look envF t = some a → RelV w (okOf X π (O L)) π a (tmps.getD t undef)) →
    (Region.wanted o (yielded ops tmps) = false ∧ ∃ π', StepX X O m ops envF L j π w π' w ∧ PutOk n w (okOf X π' (O (j :: L))) π' envF o undef) ∨
    (Region.wanted o (yielded ops tmps) = true ∧
      ((∃ v w2 π', (execOp (Act.eval ⟨tmps, []⟩) o).run P w = .ok (.value v) w2 ∧ StepX X O m ops envF L j π w π' w2 ∧ PutOk n w2 (okOf X π' (O (j :: L))) π' envF o v) ∨
       (∃ w2 π', (execOp (Act.eval ⟨tmps, []⟩) o).run P w = .ok .skip w2 ∧ StepX X O m ops envF L j π w π' w2 ∧ PutOk n w2 (okOf X π' (O (j :: L))) π' envF o undef) ∨
       (∃ g args, (execOp (Act.eval ⟨tmps, []⟩) o).run P w = .ok (.enter g args) w ∧ Calls P g args w fun e w2 => ∃ v π', e = .returned v ∧ StepX X O m ops envF L j π w π' w2 ∧ PutOk n w2 (okOf X π' (O (j :: L))) π' envF o v)))

theorem drawn_soundX {O : List Nat → List (Option AObj)} {objsF : List (Option AObj)} (hmx : P.follows .mixedOrders = true) (hB : drawB ops m = true) (hops : ∀ j o, j < m → ops[j]? = some o → HeadX P n C.X O m ops envF j o)
    (hO0 : O [] = objs) (hOF : ∀ L, (∀ i, i < m → i ∈ L) → O L = objsF)
    (henv : ∀ t, (∀ j, j < m → dstIs ops j t = false) → ∀ a, look envF t = some a → ∃ b, look env0 t = some b ∧ VLe b a)
    (hK : ASat P f n C (.inRegion ops (List.range' m (ops.size - m)) :: k) envF objsF R) {id : Nat} (hGk : GOk P C.π C.objs C.w := by with_reducible assumption) : ASat P f n C (.code (.region id ops true) :: k) env0 objs R := by
  simp only [drawB, Bool.and_eq_true, decide_eq_true_eq] at hB
  obtain ⟨⟨⟨⟨hms, hback⟩, hsink⟩, hchain⟩, hap⟩ := hB
  have hap : ∀ j o, j < m → ops[j]? = some o → (∀ k, k < m → k ≠ j → ∀ d, o.dst = some d → dstIs ops k d = false) ∧ ∀ k, k < m → ∀ t ∈ o.looksAt ops, dstIs ops k t = true → waitsB ops j k = true := by
    intro j o hj ho
    have h1 := List.all_eq_true.1 hap j (List.mem_range.2 hj)
    rw [ho] at h1
    have h2 : ∀ k, k < m → ((decide (k = j) || dstFree ops o k) = true ∧ (o.looksAt ops).all (fun t => !dstIs ops k t || waitsB ops j k) = true) := fun k hk => by
      have := List.all_eq_true.1 h1 k (List.mem_range.2 hk)
      simpa only [Bool.and_eq_true] using this
    refine ⟨fun k hk hne d hd => ?_, fun k hk t ht hd => ?_⟩
    · have := (h2 k hk).1
      unfold dstFree at this
      rw [hd] at this
      simpa [hne] using this
    · have := List.all_eq_true.1 (h2 k hk).2 t ht
      simpa [hd] using this
  intro π w tmps0 hn hm hh he
  have hl1 : Later w { w with drawn := w.drawn + 1 } := ⟨rfl, rfl, ⟨rfl, dr_mono (Nat.le_succ _)⟩, Nat.le_refl _, fun _ _ => rfl⟩
  have htr1 := hl1.tr hm
  have key : ∀ (fuel t : Nat) (listed : Array Bool) (L : List Nat) (tmps : Array Value) (w' : World) (π : List Value), Lst ops m L listed → L.length + fuel = ops.size → Mem C.X π (O L) w' → Hist C.π C.objs C.w π (O L) w' → tmps.size = n →
      (∀ j ∈ L, ∀ o, ops[j]? = some o → ∀ d, o.dst = some d → ∃ b, look envF d = some b ∧ RelV w' (okOf C.X π (O L)) π b (tmps.getD d undef)) →
      (∀ t, (∀ j, j < m → dstIs ops j t = false) → ∀ a, look envF t = some a → RelV w' (okOf C.X π (O L)) π a (tmps.getD t undef)) →
      Sat P f C.ds (.inRegion ops (Region.linearise.go .any ops fuel t listed []) :: k) tmps w' (APost C R) := by
    intro fuel
    induction fuel with
    | zero =>
      intro t listed L tmps w' π hL hlen _ _ _ _ _
      have := nodup_le hL.nd (b := List.range m) fun y hy => List.mem_range.2 (hL.lt y hy)
      rw [List.length_range] at this
      omega
    | succ fuel ih =>
      intro t listed L tmps w' π hL hlen hm hh hsz hdone hrest
      have hLm := nodup_le hL.nd (b := List.range m) fun y hy => List.mem_range.2 (hL.lt y hy)
      rw [List.length_range] at hLm
      by_cases hall : ∀ i, i < m → i ∈ L
      · have hml := nodup_le (List.nodup_range (n := m)) (b := L) fun y hy => hall y (List.mem_range.1 hy)
        rw [List.length_range] at hml
        have hfu : fuel + 1 = ops.size - m := by omega
        rw [hfu]
        have hg := go_chain hback hchain (ops.size - m) t listed (.inl (by omega)) (by omega) hL.size (fun i hi => by
          rw [hL.mem i hi, show ops.size - (ops.size - m) = m by omega]
          exact ⟨fun h => hL.lt i h, fun h => hall i h⟩)
        rw [hg, show ops.size - (ops.size - m) = m by omega]
        rw [hOF L hall] at hm hh hdone hrest
        refine hK π w' tmps hsz hm hh fun u a hu => ?_
        by_cases hd : ∃ j, j < m ∧ dstIs ops j u = true
        · obtain ⟨j, hj, hd⟩ := hd
          obtain ⟨o, ho, hdo⟩ := dstIs_iff.1 hd
          obtain ⟨b, hb, hr⟩ := hdone j (hall j hj) o ho u hdo
          rw [hu] at hb
          cases hb
          exact hr
        · have hd' : ∀ j, j < m → dstIs ops j u = false := fun j hj => by
            cases hx : dstIs ops j u with
            | false => rfl
            | true => exact absurd ⟨j, hj, hx⟩ hd
          exact hrest u hd' a hu
      · have hex : ∃ i, i ∈ Region.ready .any ops listed := by
          have hmin : ∀ q i, i ≤ q → i < m → i ∉ L → ∃ j, j < m ∧ j ∉ L ∧ ∀ j', j' < j → j' ∈ L := by
            intro q
            induction q with
            | zero => intro i hi hm hL; exact ⟨i, hm, hL, by omega⟩
            | succ q ihq =>
              intro i hi him hiL
              by_cases hx : ∃ j', j' < i ∧ j' ∉ L
              · obtain ⟨j', h1, h2⟩ := hx
                exact ihq j' (by omega) (by omega) h2
              · exact ⟨i, him, hiL, fun j' hj' => Decidable.byContradiction fun h2 => hx ⟨j', hj', h2⟩⟩
          obtain ⟨i, hi⟩ := Classical.not_forall.1 hall
          have hi1 : i < m := Classical.byContradiction fun h => hi fun h2 => absurd h2 h
          have hi2 : i ∉ L := fun h => hi fun _ => h
          obtain ⟨j, h1, h2, h3⟩ := hmin i i (Nat.le_refl _) hi1 hi2
          refine ⟨j, (ready_iff (by omega) hL).2 ⟨by omega, h2, ops[j], Array.getElem?_eq_getElem (by omega), fun e hee hb => ?_⟩⟩
          have hlt := backB_spec hback (Array.getElem?_eq_getElem (by omega : j < ops.size)) hee hb
          exact (hL.mem e.on (by omega)).2 (h3 e.on hlt)
        rw [go_succ]
        have hlen2 : 0 < (Region.ready .any ops listed).length := List.length_pos_of_mem hex.choose_spec
        have hmod : t % (Region.ready .any ops listed).length < (Region.ready .any ops listed).length := Nat.mod_lt _ hlen2
        rw [List.getElem?_eq_getElem hmod]
        simp only
        have hir : (Region.ready .any ops listed)[t % (Region.ready .any ops listed).length] ∈ Region.ready .any ops listed := List.getElem_mem hmod
        generalize (Region.ready .any ops listed)[t % (Region.ready .any ops listed).length] = i at hir
        have him : i < m := by
          apply Classical.byContradiction
          intro hge
          exact hall (all_listed (by omega) hsink hback hL (by omega) hchain hir).2
        obtain ⟨his, hiL, o, ho, hdeps⟩ := (ready_iff (by omega) hL).1 hir
        obtain ⟨ha1, ha2⟩ := hap i o him ho
        have hlooks : ∀ u ∈ o.looksAt ops, ∀ a, look envF u = some a → RelV w' (okOf C.X π (O L)) π a (tmps.getD u undef) := by
          intro u hu a hua
          by_cases hd : ∃ j, j < m ∧ dstIs ops j u = true
          · obtain ⟨j, hj, hd⟩ := hd
            have hw := ha2 j hj u hu hd
            obtain ⟨o2, ho2, e, hee, hb, heq⟩ := waitsB_spec hw
            rw [ho] at ho2
            cases ho2
            have hjL := listed_of hL (hdeps e hee hb)
            rw [heq] at hjL
            obtain ⟨oj, hoj, hdj⟩ := dstIs_iff.1 hd
            obtain ⟨b, hb2, hr⟩ := hdone j hjL oj hoj u hdj
            rw [hua] at hb2
            cases hb2
            exact hr
          · have hd' : ∀ j, j < m → dstIs ops j u = false := fun j hj => by
              cases hx : dstIs ops j u with
              | false => rfl
              | true => exact absurd ⟨j, hj, hx⟩ hd
            exact hrest u hd' a hua
        have hL' : Lst ops m (i :: L) (listed.setIfInBounds i true) := by
          refine ⟨by simpa using hL.size, fun j hj => ?_, List.nodup_cons.2 ⟨hiL, hL.nd⟩, fun j hj => ?_, fun j hj oj hoj e hee hb => ?_⟩
          · by_cases e : i = j
            · subst e
              rw [show (listed.setIfInBounds i true).getD i false = true by simp [hL.size, hj]]
              simp
            · rw [show (listed.setIfInBounds i true).getD j false = listed.getD j false by simp [Array.getElem?_setIfInBounds, e]]
              rw [hL.mem j hj, List.mem_cons]
              exact ⟨.inr, fun h => h.resolve_left fun h2 => e h2.symm⟩
          · rcases List.mem_cons.1 hj with rfl | hj
            · exact him
            · exact hL.lt j hj
          · rcases List.mem_cons.1 hj with rfl | hj
            · rw [ho] at hoj
              cases hoj
              exact List.mem_cons_of_mem _ (listed_of hL (hdeps e hee hb))
            · exact List.mem_cons_of_mem _ (hL.cl j hj oj hoj e hee hb)
        have hdeps2 : ∀ q, waitsB ops i q = true → q ∈ L := by
          intro q hq
          obtain ⟨o2, ho2, e, hee, hb, heq⟩ := waitsB_spec hq
          rw [ho] at ho2
          cases ho2
          rw [← heq]
          exact listed_of hL (hdeps e hee hb)
        have hcl2 : ∀ q ∈ L, ∀ q', waitsB ops q q' = true → q' ∈ L := by
          intro q hqL q' hq
          obtain ⟨o2, ho2, e, hee, hb, heq⟩ := waitsB_spec hq
          rw [← heq]
          exact hL.cl q hqL o2 ho2 e hee hb
        have next : ∀ (v : Value) (w2 : World) (π' : List Value), StepX C.X O m ops envF L i π w' π' w2 → PutOk n w2 (okOf C.X π' (O (i :: L))) π' envF o v → Sat P f C.ds (.inRegion ops (Region.linearise.go .any ops fuel (t / (Region.ready .any ops listed).length) (listed.setIfInBounds i true) []) :: k) (putT o.dst v tmps) w2 (APost C R) := by
          intro v w2 π' hst hput
          refine ih _ _ (i :: L) _ w2 π' hL' (by simp only [List.length_cons]; omega) hst.mem (hh.trans hst.hist) ?_ ?_ ?_
          · cases hd : o.dst with
            | none => exact hsz
            | some d => simpa [putT] using hsz
          · intro j hj0 oj hoj d hd
            rcases List.mem_cons.1 hj0 with e | hj
            · subst e
              rw [ho] at hoj
              cases hoj
              obtain ⟨h1, b, h2, h3⟩ := hput d hd
              refine ⟨b, h2, ?_⟩
              rw [hd, getD_putT, if_pos ⟨rfl, by rw [hsz]; exact h1⟩]
              exact h3
            · obtain ⟨b, h2, h3⟩ := hdone j hj oj hoj d hd
              refine ⟨b, h2, ?_⟩
              have hne : ∀ d', o.dst = some d' → d' ≠ d := by
                rintro d' hd' rfl
                have := ha1 j (hL.lt j hj) (fun e => hiL (e ▸ hj)) d' hd'
                rw [dstIs_iff.2 ⟨oj, hoj, hd⟩] at this
                cases this
              cases hdo : o.dst with
              | none => exact hst.keep _ _ _ h2 (.inl ⟨j, hj, oj, hoj, hd⟩) h3
              | some d' =>
                rw [getD_putT, if_neg fun hh => hne d' hdo hh.1]
                exact hst.keep _ _ _ h2 (.inl ⟨j, hj, oj, hoj, hd⟩) h3
          · intro u hu a hua
            have h3 := hst.keep _ _ _ hua (.inr hu) (hrest u hu a hua)
            cases hdo : o.dst with
            | none => exact h3
            | some d' =>
              rw [getD_putT, if_neg fun hh => ?_]
              · exact h3
              · have := hu i him
                rw [dstIs_iff.2 ⟨o, ho, by rw [hdo, hh.1]⟩] at this
                cases this
        rcases hops i o him ho L (fun q hq => hL.lt q hq) hiL hdeps2 hcl2 π w' tmps hsz hm (hGk.hist hh) hlooks with ⟨hw, hput⟩ | ⟨hw, ⟨v, w2, π', hrun, hst, hput⟩ | ⟨w2, π', hrun, hst, hput⟩ | ⟨g, args, hrun, hcall⟩⟩
        · obtain ⟨π', hst, hput⟩ := hput
          exact .opSkip ho hw (next undef w' π' hst hput)
        · exact .opVal ho hw hrun (next v w2 π' hst hput)
        · exact .opUnit ho hw hrun (next undef w2 π' hst hput)
        · exact .opCall ho hw hrun (hcall.mono fun e w2 ⟨v, π', h1, h2, h3⟩ => ⟨v, h1, next v w2 π' h2 h3⟩)
  refine .step (fun kd cs => step_draw) ?_
  simp only [Region.schedule, hmx, Bool.true_or, if_true]
  subst hO0
  refine key ops.size _ _ [] tmps0 _ π ⟨by simp, fun i hi => ?_, List.nodup_nil, by simp, by simp⟩ (by simp) htr1.mem (hist_tr hh htr1) hn (by simp) (fun u hu a hua => ?_)
  · simp [hi]
  · obtain ⟨b, hb, hle⟩ := henv u hu a hua
    exact rel_later hl1 (hle _ _ _ _ (he u b hb))

end
end Ab
set_option linter.unusedSimpArgs false
set_option linter.unusedVariables false
set_option linter.unusedSectionVars false
namespace Ab
open Go
variable [Draws]

section
variable {P : Program} [Globals P] {T : Tab} {f : FuncId} {fn : Func} {n m : Nat} {C : Cx} {R : AV → List (Option AObj) → Prop} {todo todo' k : List Item} {env env0 env' envF : Env} {objs objs' objs1 objs2 : List (Option AObj)} {nd : Prop} {ops : Array Oper} {l : List Oper} {K : Env → Prop} {X : Nat → Prop} {O : List Nat → List (Option AObj)}

theorem stepX_later {L : List Nat} {j : Nat} (hO : O (j :: L) = O L) {π : List Value} {w w2 : World} (hm : Mem X π (O L) w) (l : Later w w2) : StepX X O m ops envF L j π w π w2 := by
  have htr := l.tr hm
  refine ⟨by rw [hO]; exact htr.mem, by rw [hO]; exact htr.hist, fun t a v _ _ h => ?_⟩
  rw [hO]
  exact rel_later l h
/-- An operation that does not act. -/
theorem headX_of {j : Nat} {o : Oper} (hO : ∀ L, O (j :: L) = O L) (h : ∀ L, HeadOp P n X (O L) ops envF o) : HeadX P n X O m ops envF j o := by
  intro L _ _ _ _ π w tmps hs hm hgk hl
  rcases h L π w tmps hs hm hgk hl with ⟨hw, hp⟩ | ⟨hw, ⟨v, w2, hr, hlt, hp⟩ | ⟨g, args, hr, hc⟩⟩
  · exact .inl ⟨hw, π, stepX_later (hO L) hm (.refl w), by rw [hO]; exact hp⟩
  · exact .inr ⟨hw, .inl ⟨v, w2, π, hr, stepX_later (hO L) hm hlt, by rw [hO]; exact hp⟩⟩
  · refine .inr ⟨hw, .inr (.inr ⟨g, args, hr, hc.mono fun e w2 ⟨v, h1, h2, h3⟩ => ⟨v, π, h1, stepX_later (hO L) hm h2, by rw [hO]; exact h3⟩⟩)⟩
/-- A value that is made of others. -/
theorem headX_val {j : Nat} {o : Oper} {E : Env} {a : AV} {c : Option Prop} {d : Nat} (hT : TabOk P T) (hw : wantE ops (restr E (o.looksAt ops)) o = .yes) (hE : ∀ t ∈ o.looksAt ops, ∀ b, look E t = some b → look envF t = some b)
    (hs : ∀ L, estep T o (restr E (o.looksAt ops)) (O L) = some ⟨c, false, a, none, O L⟩) (hO : ∀ L, O (j :: L) = O L) (hc : cond c) (hdst : o.dst = some d) (hdn : Nat.blt d n = true) (hlook : look envF d = some a) : HeadX P n X O m ops envF j o := by
  intro L _ hjL _ _ π w tmps hsz hm hgk hlk
  have he : EnvRel w (okOf X π (O L)) π (restr E (o.looksAt ops)) tmps := fun t b ht => by
    obtain ⟨h1, h2⟩ := look_restr ht
    exact hlk t h1 b (hE t h1 b h2)
  have hst := estep_ok (ds := []) hT hm he o
  rw [hs L] at hst
  obtain ⟨v, w', π', h1, h2, h3⟩ := hst hc
  refine .inr ⟨(wanted_of he).1 hw, .inl ⟨v, w', π', h1, ⟨by rw [hO]; exact h2.mem, by rw [hO]; exact h2.hist, fun t a u _ _ hu => by rw [hO]; exact h2.keep _ _ hu⟩, fun d' hd => ?_⟩⟩
  rw [hdst] at hd
  cases hd
  refine ⟨by simpa [Nat.blt_eq] using hdn, a, hlook, by rw [hO]; exact h3 rfl⟩

/-- The region, its quiet operations shown together, those that act one by one. -/
theorem sat_drawX (m : Nat) (A : Acts) (O : List Nat → List (Option AObj)) (E : Env) {id : Nat} {objsF : List (Option AObj)} (hT : TabOk P T) (hf : P.funcs[f]? = some fn) (hmx : P.follows .mixedOrders = true) (h : srun T n fn.results.toList 2000 True todo env objs = .draw nd id ops k env' objs') (hn : nd)
    (hB : drawB ops m = true) (hsee : seeB ops m A = true) (hO0 : O [] = objs') (hOF : ∀ L, (∀ i, i < m → i ∈ L) → O L = objsF) (hOj : ∀ j L, actB A j = false → O (j :: L) = O L)
    (hAm : (A.all fun x => Nat.blt x.1 m) = true) (hD : ∀ L, DSat P n C.X (O L) ops (fun x => x = E) (quietOps ops m A) env')
    (hA : ∀ x ∈ A, ∃ oe, ops[x.1]? = some oe ∧ oe.dst = x.2.map (·.1) ∧ HeadX P n C.X O m ops (actE A ++ E) x.1 oe)
    (hk : ASat P f n C (.inRegion ops (List.range' m (ops.size - m)) :: k) (actE A ++ E) objsF R) (hGk : GOk P C.π C.objs C.w := by with_reducible assumption) : ASat P f n C todo env objs R := by
  have hq : ∀ {j : Nat} {o : Oper}, j < m → actB A j = false → ops[j]? = some o → o ∈ quietOps ops m A := by
    intro j o hj hb ho
    unfold quietOps
    rw [List.mem_filterMap]
    exact ⟨j, List.mem_filter.2 ⟨List.mem_range.2 hj, by rw [hb]; rfl⟩, ho⟩
  have hns : ∀ {j : Nat} {o : Oper}, j < m → actB A j = false → ops[j]? = some o → ∀ x ∈ actE A, x.1 ∉ o.looksAt ops ∧ o.dst ≠ some x.1 := by
    intro j o hj hb ho x hx
    have h1 := List.all_eq_true.1 hsee j (List.mem_range.2 hj)
    rw [hb, ho] at h1
    have h1' : ((actE A).all fun x => !(o.looksAt ops).contains x.1 && o.dst != some x.1) = true := by simpa only [Bool.false_or] using h1
    have h2 := List.all_eq_true.1 h1' x hx
    simpa using h2
  suffices hcc : Cont P f n C R (.draw nd id ops k env' objs') from (run_sound hT hf 2000 True todo env objs (by rw [h]; exact hcc)).2
  refine ⟨hn, drawn_soundX hmx hB (envF := actE A ++ E) ?_ hO0 hOF ?_ hk⟩
  · intro j o hj ho
    cases hb : actB A j with
    | false =>
      refine headX_of (fun L => hOj j L hb) fun L => ?_
      obtain ⟨E0, a1, a2, a3, rfl⟩ := hD L
      have hn2 := hns hj hb ho
      refine headOp_env (fun t ht => look_skip fun x hx e => (hn2 x hx).1 (e ▸ ht)) (fun d hd => look_skip fun x hx e => (hn2 x hx).2 (e ▸ hd)) (a3 o (hq hj hb ho))
    | true =>
      obtain ⟨x, hx, hxe⟩ := List.any_eq_true.1 hb
      obtain rfl : x.1 = j := Nat.eq_of_beq_eq_true hxe
      obtain ⟨oe, h1, _, h3⟩ := hA x hx
      rw [ho] at h1
      cases h1
      exact h3
  · intro t ht a ha
    have hne : ∀ x ∈ actE A, x.1 ≠ t := by
      rintro x hx rfl
      obtain ⟨y, hy, hyx⟩ := List.mem_filterMap.1 hx
      obtain ⟨oe, h1, h2, _⟩ := hA y hy
      rw [hyx] at h2
      have hym := List.all_eq_true.1 hAm y hy
      have := ht y.1 (by simpa [Nat.blt_eq] using hym)
      rw [dstIs_iff.2 ⟨oe, h1, by simpa using h2⟩] at this
      cases this
    rw [look_skip hne] at ha
    obtain ⟨E0, a1, a2, a3, rfl⟩ := hD []
    refine a1 t (fun o ho hd => ?_) a ha
    unfold quietOps at ho
    rw [List.mem_filterMap] at ho
    obtain ⟨j, hj, ho⟩ := ho
    have hj := List.mem_range.1 (List.mem_filter.1 hj).1
    have := ht j hj
    rw [dstIs_iff.2 ⟨o, ho, hd⟩] at this
    cases this

end
end Ab
set_option linter.unusedSimpArgs false
set_option linter.unusedVariables false
set_option linter.unusedSectionVars false
namespace Ab
open Go
variable [Draws]
section
variable {P : Program} [Globals P] {T : Tab} {n : Nat} {env : Env} {objs : List (Option AObj)} {ops : Array Oper} {K : Env → Prop} {X : Nat → Prop}
end
end Ab
set_option linter.unusedSimpArgs false
set_option linter.unusedVariables false
set_option linter.unusedSectionVars false
namespace Ab
open Go
variable [Draws]
section
variable {P : Program} [Globals P] {T : Tab} {f : FuncId} {fn : Func} {n m : Nat} {C : Cx} {R : AV → List (Option AObj) → Prop} {env env' envF : Env} {objs objs' : List (Option AObj)} {ops : Array Oper} {todo k : List Item} {nd : Prop}

/-- A cell is written behind all that it waits for. -/
theorem headH_skipD {O : List Nat → List (Option AObj)} {j : Nat} {o : Oper} {E : Env} {a : AV} {c : Option Prop} (hT : TabOk P T) (hw : wantE ops (restr E (o.looksAt ops)) o = .yes) (hE : ∀ t ∈ o.looksAt ops, ∀ b, look E t = some b → look envF t = some b)
    (hs : ∀ L, j ∉ L → (∀ q, waitsB ops j q = true → q ∈ L) → estep T o (restr E (o.looksAt ops)) (O L) = some ⟨c, true, a, none, O (j :: L)⟩) (hc : cond c) (hdst : o.dst = none) : HeadH P n C O m ops envF j o := by
  intro L _ hjL hdeps _ π w tmps hsz hm hgk hlk
  have he : EnvRel w (okOf C.X π (O L)) π (restr E (o.looksAt ops)) tmps := fun t b ht => by
    obtain ⟨h1, h2⟩ := look_restr ht
    exact hlk t h1 b (hE t h1 b h2)
  have hst := estep_ok (ds := []) hT hm he o
  rw [hs L hjL hdeps] at hst
  obtain ⟨v, w', π', h1, h2, _⟩ := hst hc
  refine .inr ⟨(wanted_of he).1 hw, .inr (.inl ⟨w', π', h1, ⟨h2.mem, fun hh => hh.trans h2.hist, h2.keep⟩, fun d hd => ?_⟩)⟩
  rw [hdst] at hd
  cases hd

def boxO (ja js : Nat) (o1 o2 : AObj) (L : List Nat) : AObj := if js ∈ L then o2 else if ja ∈ L then o1 else HD
@[reducible] def boxA (ja js : Nat) (d : Tmp) (p : Nat) : Acts := [(ja, some (d, .ptr p 0)), (js, none)]
/-- A box is made, and written, in the head; all else there is quiet. -/
theorem sat_draw1S (m ja js : Nat) {d : Tmp} {t : TypeId} {r : TRow} {o2 : AObj} {oa os : Oper} {E : Env} {a : AV} {c : Option Prop} {id : Nat} (hT : TabOk P T) (hf : P.funcs[f]? = some fn) (hmx : P.follows .mixedOrders = true) (h : srun T n fn.results.toList 2000 True todo env objs = .draw nd id ops k env' objs') (hn : nd)
    (hB : drawZ ops m = true) (hsee : seeB ops m (boxA ja js d objs'.length) = true) (hja : Nat.blt ja m = true) (hjs : Nat.blt js m = true) (hne : Nat.beq ja js = false) (hwt : waitsB ops js ja = true) (hpl : C.π.length ≤ objs'.length)
    (hoa : ops[ja]? = some oa) (hop : oa.op = .alloc t) (hg : oa.guard = none) (hr : tlook T t = some r) (hdst : oa.dst = some d) (hdn : Nat.blt d n = true)
    (hD : ∀ x, DSat P n C.X (objs' ++ [some x]) ops (fun e => e = E) (quietOps ops m (boxA ja js d objs'.length)) env')
    (hos : ops[js]? = some os) (hsd : os.dst = none) (hws : wantE ops (restr ((d, .ptr objs'.length 0) :: E) (os.looksAt ops)) os = .yes)
    (hs : estep T os (restr ((d, .ptr objs'.length 0) :: E) (os.looksAt ops)) (objs' ++ [some (.cells t (r.zero.map fun v => .d (.v v)))]) = some ⟨c, true, a, none, objs' ++ [some o2]⟩) (hc : cond c)
    (hk : ASat P f n C (.inRegion ops (List.range' m (ops.size - m)) :: k) ((d, .ptr objs'.length 0) :: E) (objs' ++ [some o2]) R) (hGk : GOk P C.π C.objs C.w := by with_reducible assumption) : ASat P f n C todo env objs R := by
  have hne : ja ≠ js := Nat.ne_of_beq_eq_false hne
  have hnth : ∀ x : AObj, nth (objs' ++ [some x]) objs'.length = some (some x) := fun x => by rw [nth_eq]; simp
  have hset : ∀ x y : AObj, setNth (objs' ++ [some x]) objs'.length (some y) = objs' ++ [some y] := fun x y => by rw [setNth_eq]; simp
  refine sat_drawA m 1 (boxA ja js d objs'.length) (fun L => objs' ++ [some (boxO ja js (.cells t (r.zero.map fun v => .d (.v v))) o2 L)]) E (objsF := objs' ++ [some o2]) hT hf hmx h hn hB hsee (by simp [boxO]) (fun L hL => ?_) (fun j L hj => ?_) ?_ (fun L => hD _) ?_ hk
  · rw [boxO, if_pos (hL js (by simpa [Nat.blt_eq] using hjs))]
  · simp only [actB, boxA, List.any_cons, List.any_nil, Bool.or_false, Bool.or_eq_false_iff] at hj
    have n1 := Nat.ne_of_beq_eq_false hj.1
    have n2 := Nat.ne_of_beq_eq_false hj.2
    simp only [boxO, List.mem_cons, n1, n2, false_or]
  · simp [hja, hjs]
  · refine List.forall_mem_cons.2 ⟨⟨oa, hoa, hdst, ?_⟩, List.forall_mem_cons.2 ⟨⟨os, hos, hsd, ?_⟩, fun x h => by cases h⟩⟩
    · refine headH_allocC (p := objs'.length) hT hop hg hr hdst hdn ?_ hpl (fun L hL hcl => ?_) (fun L hL hcl => ?_)
      · show look ((d, _) :: E) d = _
        simp [look]
      · have hjsL : js ∉ L := fun h => hL (hcl js h ja hwt)
        simp only [boxO, if_neg hjsL, if_neg hL]
        exact hnth _
      · have hjsL : js ∉ L := fun h => hL (hcl js h ja hwt)
        have hjs2 : js ∉ ja :: L := by simp only [List.mem_cons, not_or]; exact ⟨fun e => hne e.symm, hjsL⟩
        simp only [boxO, if_neg hjs2, if_neg hjsL, if_neg hL]
        rw [if_pos (List.mem_cons_self ..)]
        exact (hset _ _).symm
    · refine headH_skipD (a := a) hT hws (fun _ _ _ h => h) (fun L hL hq => ?_) hc hsd
      have hjaL := hq ja hwt
      simp only [boxO, if_neg hL, if_pos hjaL, List.mem_cons, true_or, if_true]
      exact hs
theorem setNth_self {α : Type} : ∀ {l : List α} {p : Nat} {x : α}, nth l p = some x → setNth l p x = l
  | [], _, _, _ => rfl
  | _ :: _, 0, _, h => by simp only [nth, Option.some.injEq] at h; subst h; rfl
  | _ :: _, p + 1, _, h => by simp only [setNth]; rw [setNth_self (by simpa only [nth] using h)]
/-- A box is written in the head; all else there is quiet. -/
theorem sat_draw0S (m js p : Nat) {o1 o2 : AObj} {os : Oper} {E : Env} {a : AV} {c : Option Prop} {id : Nat} (hT : TabOk P T) (hf : P.funcs[f]? = some fn) (hmx : P.follows .mixedOrders = true) (h : srun T n fn.results.toList 2000 True todo env objs = .draw nd id ops k env' objs') (hn : nd)
    (hB : drawZ ops m = true) (hsee : seeB ops m [(js, none)] = true) (hjs : Nat.blt js m = true) (ho : nth objs' p = some (some o1))
    (hD : ∀ x, DSat P n C.X (setNth objs' p (some x)) ops (fun e => e = E) (quietOps ops m [(js, none)]) env')
    (hos : ops[js]? = some os) (hsd : os.dst = none) (hws : wantE ops (restr E (os.looksAt ops)) os = .yes)
    (hs : estep T os (restr E (os.looksAt ops)) objs' = some ⟨c, true, a, none, setNth objs' p (some o2)⟩) (hc : cond c)
    (hk : ASat P f n C (.inRegion ops (List.range' m (ops.size - m)) :: k) E (setNth objs' p (some o2)) R) (hGk : GOk P C.π C.objs C.w := by with_reducible assumption) : ASat P f n C todo env objs R := by
  refine sat_drawA m 0 [(js, none)] (fun L => setNth objs' p (some (if js ∈ L then o2 else o1))) E (objsF := setNth objs' p (some o2)) hT hf hmx h hn hB hsee (by simp [setNth_self ho]) (fun L hL => ?_) (fun j L hj => ?_) ?_ (fun L => hD _) ?_ hk
  · rw [if_pos (hL js (by simpa [Nat.blt_eq] using hjs))]
  · simp only [actB, List.any_cons, List.any_nil, Bool.or_false] at hj
    have n1 := Nat.ne_of_beq_eq_false hj
    simp only [List.mem_cons, n1, false_or]
  · simp [hjs]
  · refine List.forall_mem_cons.2 ⟨⟨os, hos, hsd, ?_⟩, fun x h => by cases h⟩
    refine headH_skip (a := a) hT hws (fun _ _ _ h => h) (fun L hL => ?_) hc hsd
    simp only [if_neg hL, List.mem_cons, true_or, if_true]
    rw [setNth_self ho]
    exact hs
end

end Ab
set_option linter.unusedSimpArgs false
set_option linter.unusedVariables false
set_option linter.unusedSectionVars false
namespace Ab
open Go
variable [Draws]
def eLitG (T : Tab) (t : TypeId) (len : Nat) (ps : List (Nat × AV)) (objs : List (Option AObj)) : Option EOut :=
  match tlook T t with
  | none => none
  | some r => match r.kd with
    | .slice e => match tlook T e with
      | none => none
      | some re => match ps with
        | [] => none
        | p :: ps' => match litParts re.size 0 (p :: ps') with
          | none => none
          | some xs => match lenIs xs len with
            | false => none
            | true => match Nat.ble (len * re.size) 16777216 with
              | true => match Nat.beq re.size 0 with
                | true => none
                | false => some ⟨none, false, .gs objs.length, none, objs ++ [some (.grow e re.size xs (litRd xs))]⟩
              | false => none
    | _ => none

theorem eLitG_ok {P : Program} {T : Tab} (hT : TabOk P T) {X : Nat → Prop} {π : List Value} {objs : List (Option AObj)} {w : World} (m : Mem X π objs w) {t : TypeId} {len : Nat} {ps : List (Nat × AV)} {vs : List (Nat × Value)}
    (hp : RelPs w (okOf X π objs) π ps vs) : ERok P X π objs w (eLitG T t len ps objs) (do pure (.value (← Instr.buildSlice t len vs.toArray))) := by
  unfold eLitG
  split
  · trivial
  · rename_i r hr
    split
    · rename_i e hk
      have ht := slice_elem hT hr hk
      split
      · trivial
      · rename_i re hre
        obtain ⟨z, hzr, hzc, hzf, _, _⟩ := (tab_row hT hre).zero
        have hzl : z.cells.size = re.size := by
          have := (tab_row hT hre).zl
          rw [← hzc] at this
          simpa using this
        split
        · trivial
        · rename_i p ps'
          split
          · trivial
          · rename_i xs hxs
            split
            · trivial
            · rename_i hlen
              have hlen := lenIs_eq hlen
              split
              · rename_i hble
                have hble' : len * re.size ≤ 16777216 := by simpa using hble
                split
                · trivial
                · rename_i hz0
                  intro _
                  obtain ⟨us, h1, h2⟩ := lit_rel hxs hp [] ((List.range (len * re.size)).map fun i => z.cells[i % z.cells.size]!) (by simp) (by simp [hlen])
                  have hul := h1.length
                  simp only [List.nil_append] at h2
                  have hrun : (Instr.buildSlice t len vs.toArray).run P w = .ok (.slice (some ⟨w.heap.size, 0, none⟩) len len) (w.alloc (.cells us.toArray e)) := by
                    have hz0' : re.size ≠ 0 := by
                      intro e
                      rw [e] at hz0
                      cases hz0
                    have hsz := (tab_row hT hre).sizeOf w
                    have h2' : Instr.fill (fun i => some (i * re.size, re.size)) (Array.map (fun i => z.cells[i % z.cells.size]!) (Array.range (len * re.size))) vs = some us.toArray := by
                      rw [← h2]
                      congr 1
                      apply Array.ext'
                      simp
                    by_cases hl0 : len * re.size = 0
                    · have hl00 : len = 0 := by
                        rcases Nat.mul_eq_zero.1 hl0 with h | h
                        · exact h
                        · exact absurd h hz0'
                      subst hl00
                      have hx0 : xs = [] := List.eq_nil_of_length_eq_zero hlen
                      subst hx0
                      exfalso
                      revert hxs
                      simp only [litParts]
                      repeat' split
                      all_goals simp
                    · simp [Instr.buildSlice, run_underlying ht, hsz, hl0, show ¬ 16777216 < len * re.size by omega, hzr, h2', run_newRow]
                  have hext : ∀ b, b < w.heap.size → (w.alloc (.cells us.toArray e)).heap[b]? = w.heap[b]? := fun b hb => heap_push_old _ hb
                  obtain ⟨q, hq⟩ : ∃ q, len = q + 1 := by
                    cases len with
                    | zero =>
                      have hx0 : xs = [] := List.eq_nil_of_length_eq_zero hlen
                      subst hx0
                      exfalso
                      revert hxs
                      simp only [litParts]
                      repeat' split
                      all_goals simp
                    | succ q => exact ⟨q, rfl⟩
                  have hzp : 0 < re.size := by
                    have : re.size ≠ 0 := by intro e; rw [e] at hz0; cases hz0
                    omega
                  have hk : ∀ X' π' objs', Keeps w (okOf X π objs) (w.alloc (.cells us.toArray e)) (okOf X' π' objs') → RelE (w.alloc (.cells us.toArray e)) (okOf X' π' objs') re.size xs us := fun _ _ _ hk => h1.mono hk
                  subst hlen
                  refine ⟨_, _, π ++ [.slice (some ⟨w.heap.size, 0, none⟩) xs.length xs.length], by simp only [Sem.run_bind, hrun, Result.andThen_ok, Sem.run_pure]; rfl, tr_new m (.cells us.toArray e) (.slice (some ⟨w.heap.size, 0, none⟩) xs.length xs.length) (.grow e re.size xs (litRd xs)) (by rw [hq]; rfl) ?_, fun _ => .gs (nth_new m.len _)⟩
                  have hrel := RelO.grow (w := w.alloc (.cells us.toArray e)) (ok := okOf X (π ++ [.slice (some ⟨w.heap.size, 0, none⟩) xs.length xs.length]) (objs ++ [some (.grow e re.size xs (litRd xs))])) (π := π ++ [.slice (some ⟨w.heap.size, 0, none⟩) xs.length xs.length]) (e := e) (s := re.size) (b := w.heap.size) (o := 0) (c := q) (xs := xs) (us := us) (vs := us) (rd := litRd xs) (fz := (0, 0)) (heap_push_new _) (fun i hi => by omega)
                    (hk _ _ _ (new_keeps _ _ _ m.len (by intro b e; rw [hq] at e; cases e; exact Nat.le_refl _))) (fun i hi => by rw [Nat.zero_add]) (by omega) (by have hml : maxLen = 9223372036854775807 := rfl; have : xs.length * 1 ≤ xs.length * re.size := Nat.mul_le_mul_left _ hzp; omega) (by rw [hul, hq]; omega) (litRd_ok xs)
                  rw [← hq] at hrel
                  exact hrel
              · trivial
    · trivial


section
variable {P : Program} [Globals P] {T : Tab} {f : FuncId} {n : Nat} {C : Cx} {R : AV → List (Option AObj) → Prop} {env : Env} {objs : List (Option AObj)}
theorem sat_litG {ops : Array Oper} {i : Nat} {r : List Nat} {k : List Item} {o : Oper} {e : Env} {t : TypeId} {len : Nat} {ps : List (Nat × Operand)} {az : List (Nat × AV)} (out : EOut) (hT : TabOk P T) (ho : ops[i]? = some o) (hw : wantE ops env o = .yes) (hop : o.op = .buildSlice t len ⟨ps⟩) (hp : parts env ps = some az)
    (hs : eLitG T t len az objs = some out) (hc : cond out.c) (hput : putE n o.dst (skA out.skip out.a) (dropEnvQ out.q env) = some e) (h : ASat P f n C (.inRegion ops r :: k) e out.objs R) : ASat P f n C (.inRegion ops (i :: r) :: k) env objs R := by
  refine sat_op out ho hw (fun X π w tmps hm he => ?_) hc hput h
  have := eLitG_ok hT hm (t := t) (len := len) (parts_rel (ds := []) he hp)
  rw [hs] at this
  unfold execOp
  rw [hop]
  simpa using this
end
end Ab
set_option linter.unusedSimpArgs false
set_option linter.unusedVariables false
set_option linter.unusedSectionVars false
namespace Ab
open Go
variable [Draws]
section
variable {P : Program} [Globals P] {T : Tab} {n : Nat} {env : Env} {objs : List (Option AObj)} {ops : Array Oper} {K : Env → Prop} {X : Nat → Prop}
end
end Ab
set_option linter.unusedSimpArgs false
set_option linter.unusedVariables false
set_option linter.unusedSectionVars false
namespace Ab
open Go
variable [Draws]
section
variable {P : Program} [Globals P] {T : Tab} {n : Nat} {env : Env} {objs : List (Option AObj)} {ops : Array Oper} {K : Env → Prop} {X : Nat → Prop}
end
end Ab
set_option linter.unusedSimpArgs false
set_option linter.unusedVariables false
set_option linter.unusedSectionVars false
namespace Ab
open Go
variable [Draws]
section
variable {P : Program} [Globals P] {T : Tab} {f : FuncId} {fn : Func} {n : Nat} {C : Cx} {R : AV → List (Option AObj) → Prop} {todo : List Item} {env : Env} {objs : List (Option AObj)} {nd : Prop} {ops : Array Oper}

theorem put_at {w : World} {b : Nat} {o : Obj} (h : w.heap[b]? = some o) (o' : Obj) : (w.heap.setIfInBounds b o')[b]? = some o' ∧ ∀ c, c ≠ b → (w.heap.setIfInBounds b o')[c]? = w.heap[c]? := by
  have hlt := (Array.getElem?_eq_some_iff.1 h).1
  refine ⟨by simp [hlt], fun c hc => ?_⟩
  rw [Array.getElem?_setIfInBounds]
  rw [if_neg (fun e => hc e.symm)]
/-- It begins. -/
theorem sat_rangeS {i : Nat} {r : List Nat} {k : List Item} {o : Oper} {e2 : Env} {t : TypeId} {rs : TRow} {xo : Operand} {s : ByteArray} (hT : TabOk P T) (ho : ops[i]? = some o) (hw : wantE ops env o = .yes) (hop : o.op = .range t xo) (hx : opnd env xo = some (.d (.v (.string s))))
    (hrs : tlook T t = some rs) (hks : rs.kd = .str) (hput : putE n o.dst (.ptr objs.length 0) env = some e2) (h : ASat P f n C (.inRegion ops r :: k) e2 (objs ++ [some (.siter s 0)]) R) : ASat P f n C (.inRegion ops (i :: r) :: k) env objs R := by
  refine sat_op ⟨none, false, .ptr objs.length 0, none, objs ++ [some (.siter s 0)]⟩ ho hw (fun X π w tmps m he _ => ?_) trivial hput h
  have hax := look_ok (P := P) he hx
  have hs := str_type hT hrs hks
  have hrun := run_range_string (P := P) w t s hs
  refine ⟨.pointer (some ⟨w.heap.size, 0, none⟩), w.alloc (.stringIter s 0), π ++ [.pointer (some ⟨w.heap.size, 0, none⟩)], ?_, tr_new m (.stringIter s 0) _ (.siter s 0) rfl (.siter (heap_push_new _)), fun _ => .ptr (nth_new m.len _)⟩
  unfold execOp
  rw [hop]
  simp only [Sem.run_bind, hax, hrun, Result.andThen_ok, Sem.run_pure]
  rfl

/-- One more. -/
theorem sat_nextS {i j pos : Nat} {r : List Nat} {k : List Item} {o : Oper} {e2 : Env} {io : Operand} {s : ByteArray} (ho : ops[i]? = some o) (hw : wantE ops env o = .yes) (hop : o.op = .next io true) (hx : opnd env io = some (.ptr j 0)) (hj : nth objs j = some (some (.siter s pos)))
    (hlt : pos < s.size) (hput : putE n o.dst (.tp [vB true, vI .i64 (pos : Int), vI .i32 ((Utf8.decode s pos).1 : Int)]) env = some e2) (h : ASat P f n C (.inRegion ops r :: k) e2 (setNth objs j (some (.siter s (pos + (Utf8.decode s pos).2)))) R) : ASat P f n C (.inRegion ops (i :: r) :: k) env objs R := by
  refine sat_op ⟨none, false, .tp [vB true, vI .i64 (pos : Int), vI .i32 ((Utf8.decode s pos).1 : Int)], none, setNth objs j (some (.siter s (pos + (Utf8.decode s pos).2)))⟩ ho hw (fun X π w tmps m he _ => ?_) trivial hput h
  have hev := opnd_rel (ds := []) he hx
  obtain ⟨h0, hp, hrel⟩ := m.obj j _ hj
  generalize hva : Act.eval ⟨tmps, []⟩ io = va at hev
  cases hev with
  | ptr hp' =>
    rw [hp] at hp'
    cases hp'
    cases hrel with
    | siter hb =>
      rename_i b
      have hs := put_at hb (.stringIter s (pos + (Utf8.decode s pos).2))
      refine ⟨_, { w with heap := w.heap.setIfInBounds b (.stringIter s (pos + (Utf8.decode s pos).2)) }, π, ?_, tr_set (b := b) m hj hp rfl rfl rfl ⟨rfl, dr_mono (Nat.le_refl _)⟩ (by simp) hs.2 (.siter hs.1), fun _ => .tp (.cons (.d (.v rfl)) (.cons (.d (.v rfl)) (.cons (.d (.v rfl)) .nil)))⟩
      unfold execOp
      rw [hop]
      have hrun : (Instr.next (.pointer (some ⟨b, 0, none⟩)) true o.type).run P w = .ok (.tuple #[.bool true, .int .i64 pos, .int .i32 (Utf8.decode s pos).1]) { w with heap := w.heap.setIfInBounds b (.stringIter s (pos + (Utf8.decode s pos).2)) } := by
        simp [Instr.next, getObj, setObj, Sem.run, hb, hlt, Result.andThen, goInt]
      simp only [Sem.run_bind, hva, hrun, Result.andThen_ok, Sem.run_pure]
      rfl

/-- There is no more. -/
theorem sat_nextE {i j pos : Nat} {r : List Nat} {k : List Item} {o : Oper} {e2 : Env} {io : Operand} {s : ByteArray} (ho : ops[i]? = some o) (hw : wantE ops env o = .yes) (hop : o.op = .next io true) (hx : opnd env io = some (.ptr j 0)) (hj : nth objs j = some (some (.siter s pos)))
    (hlt : ¬ pos < s.size) (hput : putE n o.dst (.tp [vB false]) env = some e2) (h : ASat P f n C (.inRegion ops r :: k) e2 objs R) : ASat P f n C (.inRegion ops (i :: r) :: k) env objs R := by
  refine sat_op ⟨none, false, .tp [vB false], none, objs⟩ ho hw (fun X π w tmps m he _ => ?_) trivial hput h
  have hev := opnd_rel (ds := []) he hx
  obtain ⟨h0, hp, hrel⟩ := m.obj j _ hj
  generalize hva : Act.eval ⟨tmps, []⟩ io = va at hev
  cases hev with
  | ptr hp' =>
    rw [hp] at hp'
    cases hp'
    cases hrel with
    | siter hb =>
      refine ⟨_, w, π, ?_, tr_plain m rfl rfl ⟨rfl, dr_mono (Nat.le_refl _)⟩ (Nat.le_refl _) (fun _ _ => rfl), fun _ => .tp (.cons (.d (.v rfl)) .nil)⟩
      unfold execOp
      rw [hop]
      have hrun : ∀ b, w.heap[b]? = some (.stringIter s pos) → (Instr.next (.pointer (some ⟨b, 0, none⟩)) true o.type).run P w = .ok (.tuple #[.bool false]) w := by
        intro b hb
        simp [Instr.next, getObj, Sem.run, hb, hlt, Result.andThen]
      simp only [Sem.run_bind, hva, hrun _ hb, Result.andThen_ok, Sem.run_pure]
      rfl
end
end Ab
namespace Go.Proofs.YtjjlipbddlignaaGreatDoor
open Go Ab Go.RowKit
set_option maxRecDepth 100000
set_option linter.unusedVariables false
set_option linter.unusedSimpArgs false
set_option maxHeartbeats 4000000

theorem decGo (l : List UInt8) (h : l ≠ []) : Go.Lib.decodeGo ⟨l.toArray⟩ = decL l := by
  unfold Go.Lib.decodeGo
  rw [sizeBy, if_neg (fun e => h (List.length_eq_zero_iff.1 e)), decode_drop, List.drop_zero]
theorem DecS_call (l : List UInt8) (hl : l ≠ []) : ACall Tryz.prog 59 [vTx l] [] (fun r o => r = tupOf [vI .i32 ((decL l).1 : Int), vI .i64 ((decL l).2 : Int)]) := by
  intro X π w us hgk m hv
  refine .inl ⟨callFunc_run Tryz.func59 rfl rfl _ _, ?_⟩
  cases hv with | cons hv ht => cases ht with | nil =>
  cases hv with | d hv => cases hv with | v hfl =>
  have hcall := Any.utf8_DecodeRuneInString Tryz.decSL ⟨l.toArray⟩ w (tb_utf hgk.tb)
  rw [decGo l hl] at hcall
  refine Calls.mono hcall ?_
  rintro e w' ⟨rfl, bl⟩
  have t := tr_plain m bl.os bl.tape ⟨bl.output, Nat.le_refl _⟩ bl.size bl.block
  exact ⟨_, _, [], π, rfl, rfl, t.mem, .tp (.cons (.d (.v rfl)) (.cons (.d (.v rfl)) .nil)), t.hist⟩
def nameQ (l : List UInt8) : Option Nat := nameN (l.length + 1) l
theorem nameQ_nil : nameQ [] = some 0 := rfl
theorem nameQ_cons {l : List UInt8} (h : l ≠ []) : nameQ l = if (decL l).1 < 32 ∨ (decL l).1 = 127 ∨ decL l = (65533, 1) then none else (nameQ (l.drop (decL l).2)).map (· + 1) := by
  unfold nameQ
  have hw := decL_w l h
  rw [nameN, if_neg h, nameN_more (f := (l.drop (decL l).2).length + 1) (g := l.length) (by omega) (by rw [List.length_drop]; omega)]
theorem nameOk_Q (l : List UInt8) : nameOk l = match nameQ l with
  | some k => decide (1 ≤ k ∧ k ≤ 40)
  | none => false := rfl
theorem IsName_call (l : List UInt8) (hl : l.length ≤ 1000000) : ACall Tryz.prog 41 [vTx l] [] (fun r o => r = vB (nameOk l)) := by
  refine acall_enter Tryz.func41 rfl rfl (Nat.le_of_ble_eq_true rfl) fun C hC hCl hDs hGk => ?_
  refine sat_steps 12 tabOk Tryz.func41 rfl trivial ?_
  refine sat_rangeS (s := ⟨l.toArray⟩) tabOk rfl rfl rfl rfl rfl rfl rfl ?_
  refine sat_stop tabOk Tryz.func41 rfl trivial ?_
  refine sat_while (α := Nat × Nat) (fun p => [(0, vTx l), (3, vI .i64 (p.2 : Int)), (9, .ptr 0 0)]) (fun p => [some (.siter ⟨l.toArray⟩ p.1)]) (fun p => p.1 ≤ l.length ∧ p.2 ≤ p.1 ∧ nameQ l = (nameQ (l.drop p.1)).map (· + p.2)) (fun p => l.length - p.1) (0, 0) ⟨Nat.zero_le _, Nat.le_refl _, by simp⟩ ?_ ?_
  · exact fun h => sat_le h hC hCl ⟨⟨_, rfl, .refl _⟩, ⟨_, rfl, .refl _⟩, ⟨_, rfl, .refl _⟩, trivial⟩ ⟨.refl _, trivial⟩ rfl rfl (Nat.zero_le _)
  rintro ⟨p, k⟩ ⟨hp, hkp, hq⟩ ih
  simp only at hp hkp hq ih ⊢
  by_cases hlt : p < l.length
  · have hne : l.drop p ≠ [] := fun e => by
      have := congrArg List.length e
      rw [List.length_drop, List.length_nil] at this
      omega
    have hw := decL_w (l.drop p) hne
    rw [List.length_drop] at hw
    have hq2 := nameQ_cons hne
    rw [List.drop_drop] at hq2
    have hdec := decode_drop l p
    refine sat_steps 2 tabOk Tryz.func41 rfl trivial ?_
    refine sat_nextS (s := ⟨l.toArray⟩) (pos := p) rfl rfl rfl rfl rfl (by rw [sizeBy]; exact hlt) rfl ?_
    rw [hdec]
    have hdl := DecS_call (l.drop p) hne
    generalize hqd : decL (l.drop p) = q at *
    obtain ⟨c, w⟩ := q
    simp only at hw hq2 hdl ⊢
    refine sat_branch tabOk Tryz.func41 rfl trivial (fun _ => ?_) (fun h => by cases h)
    refine sat_call tabOk Tryz.func41 rfl ?nd hdl ⟨.of ?a0, trivial⟩ rfl ⟨_, rfl⟩ (by rintro r o rfl; rfl) ?_
    case nd =>
      refine ⟨⟨by omega, ?_, Int.le_refl _⟩, trivial⟩
      rw [sizeBy]
      omega
    case a0 =>
      show vS ((⟨l.toArray⟩ : ByteArray).extract ((p : Int)).toNat ((((⟨l.toArray⟩ : ByteArray).size : Nat) : Int)).toNat) = _
      rw [sizeBy, exBy, Int.toNat_natCast, Int.toNat_natCast, List.take_length]
    rintro _ o rfl
    have bad : (c < 32 ∨ c = 127 ∨ (c, w) = (65533, 1)) → nameOk l = false := fun hb => by
      rw [nameOk_Q, hq, hq2, if_pos hb]
      rfl
    have good : ¬ (c < 32 ∨ c = 127 ∨ (c, w) = (65533, 1)) → nameQ l = (nameQ (l.drop (p + w))).map (· + (k + 1)) := fun hb => by
      rw [hq, hq2, if_neg hb, Option.map_map]
      congr 1
      funext x
      show x + 1 + k = x + (k + 1)
      omega
    have step : ¬ (c < 32 ∨ c = 127 ∨ (c, w) = (65533, 1)) → (p + w ≤ l.length ∧ k + 1 ≤ p + w ∧ nameQ l = (nameQ (l.drop (p + w))).map (· + (k + 1))) := fun hb => ⟨by omega, by omega, good hb⟩
    refine sat_branch tabOk Tryz.func41 rfl trivial (fun h1 => ?_) (fun h1 => ?_)
    · have h1 : decide ((c : Int) < 32) = true := h1
      rw [decide_eq_true_eq] at h1
      repeat refine sat_branch tabOk Tryz.func41 rfl trivial (fun _ => ?_) (fun h => by cases h)
      refine sat_ret tabOk Tryz.func41 rfl trivial ?_
      rw [bad (.inl (by omega))]
      rfl
    have h1 : decide ((c : Int) < 32) = false := h1
    rw [decide_eq_false_iff_not] at h1
    refine sat_branch tabOk Tryz.func41 rfl trivial (fun h2 => ?_) (fun h2 => ?_)
    · have h2 : ((c : Int) == 127) = true := h2
      rw [beq_iff_eq] at h2
      repeat refine sat_branch tabOk Tryz.func41 rfl trivial (fun _ => ?_) (fun h => by cases h)
      refine sat_ret tabOk Tryz.func41 rfl trivial ?_
      rw [bad (.inr (.inl (by omega)))]
      rfl
    have h2 : ((c : Int) == 127) = false := h2
    rw [beq_eq_false_iff_ne] at h2
    refine sat_branch tabOk Tryz.func41 rfl trivial (fun h3 => ?_) (fun h3 => ?_)
    · have h3 : ((c : Int) == 65533) = true := h3
      rw [beq_iff_eq] at h3
      refine sat_branch tabOk Tryz.func41 rfl trivial (fun h4 => ?_) (fun h4 => ?_)
      · have h4 : ((w : Int) == 1) = true := h4
        rw [beq_iff_eq] at h4
        refine sat_ret tabOk Tryz.func41 rfl trivial ?_
        rw [bad (.inr (.inr (by rw [show c = 65533 by omega, show w = 1 by omega])))]
        rfl
      have h4 : ((w : Int) == 1) = false := h4
      rw [beq_eq_false_iff_ne] at h4
      have hb : ¬ (c < 32 ∨ c = 127 ∨ (c, w) = (65533, 1)) := by
        rintro (e | e | e)
        · omega
        · omega
        · cases e
          exact h4 rfl
      refine sat_stop tabOk Tryz.func41 rfl trivial ?_
      refine sat_le (ih (p + w, k + 1) (step hb) (by simp only; omega)) hC hCl ⟨⟨_, rfl, .refl _⟩, ⟨_, rfl, .of (by rw [wrap_id (by omega) (by omega)]; rfl)⟩, ⟨_, rfl, .refl _⟩, trivial⟩ ⟨.refl _, trivial⟩ rfl rfl (Nat.zero_le _)
    have h3 : ((c : Int) == 65533) = false := h3
    rw [beq_eq_false_iff_ne] at h3
    have hb : ¬ (c < 32 ∨ c = 127 ∨ (c, w) = (65533, 1)) := by
      rintro (e | e | e)
      · omega
      · omega
      · cases e
        exact h3 rfl
    refine sat_branch tabOk Tryz.func41 rfl trivial (fun h => by cases h) (fun _ => ?_)
    refine sat_stop tabOk Tryz.func41 rfl trivial ?_
    refine sat_le (ih (p + w, k + 1) (step hb) (by simp only; omega)) hC hCl ⟨⟨_, rfl, .refl _⟩, ⟨_, rfl, .of (by rw [wrap_id (by omega) (by omega)]; rfl)⟩, ⟨_, rfl, .refl _⟩, trivial⟩ ⟨.refl _, trivial⟩ rfl rfl (Nat.zero_le _)
  · refine sat_steps 2 tabOk Tryz.func41 rfl trivial ?_
    refine sat_nextE (s := ⟨l.toArray⟩) (pos := p) rfl rfl rfl rfl rfl (by rw [sizeBy]; exact hlt) rfl ?_
    refine sat_branch tabOk Tryz.func41 rfl trivial (fun h => by cases h) (fun _ => ?_)
    obtain rfl : p = l.length := by omega
    rw [List.drop_length, nameQ_nil] at hq
    have hk : nameOk l = decide (1 ≤ k ∧ k ≤ 40) := by
      rw [nameOk_Q, hq]
      simp
    rw [hk]
    refine sat_branch tabOk Tryz.func41 rfl trivial (fun h1 => ?_) (fun h1 => ?_)
    · have h1 : decide ((k : Int) > 0) = true := h1
      rw [decide_eq_true_eq] at h1
      refine sat_ret tabOk Tryz.func41 rfl trivial ?_
      show vB (decide ((k : Int) ≤ 40)) = _
      congr 2
      rw [eq_iff_iff]
      omega
    · have h1 : decide ((k : Int) > 0) = false := h1
      rw [decide_eq_false_iff_not] at h1
      refine sat_ret tabOk Tryz.func41 rfl trivial ?_
      rw [decide_eq_false (by omega)]
      rfl
end Go.Proofs.YtjjlipbddlignaaGreatDoor
namespace Go.Proofs.YtjjlipbddlignaaGreatDoor
open Go Ab
set_option maxRecDepth 100000
set_option linter.unusedVariables false
set_option linter.unusedSimpArgs false

/-! ### Lines of models of words -/
structure Nd where
  op : List UInt8
  s : Int
  a : List Int
  n : List Int
  t : List UInt8
  deriving Inhabited, DecidableEq
@[reducible] def dSL (l : List UInt8) : D := .v (.string ⟨l.toArray⟩)
def eNd (x : Nd) : D := .ag [dSL x.op, eI x.s, eIs x.a, eIs x.n, dSL x.t]
@[reducible] def eNds (l : List Nd) : D := eL 5 eNd default l
@[reducible] def eBt (l : List Nd) : D := .ag [eNds l]
@[reducible] def bNd (x : Nd) : AObj := .cells 43 [.d (dSL x.op), .d (eI x.s), .d (eIs x.a), .d (eIs x.n), .d (dSL x.t)]
@[reducible] def bBt (l : List Nd) : AObj := .cells 24 [.d (eNds l)]
theorem strB (a b : List UInt8) : ((⟨a.toArray⟩ : ByteArray).toList == (⟨b.toArray⟩ : ByteArray).toList) = decide (a = b) := strBy a b
def kSort : List UInt8 := [115, 111, 114, 116]
def kConst : List UInt8 := [99, 111, 110, 115, 116]
def kInput : List UInt8 := [105, 110, 112, 117, 116]
def kState : List UInt8 := [115, 116, 97, 116, 101]
def kBad : List UInt8 := [98, 97, 100]
def kConstraint : List UInt8 := [99, 111, 110, 115, 116, 114, 97, 105, 110, 116]
def kNot : List UInt8 := [110, 111, 116]
def kInc : List UInt8 := [105, 110, 99]
def kDec : List UInt8 := [100, 101, 99]
def kNeg : List UInt8 := [110, 101, 103]
def kRedand : List UInt8 := [114, 101, 100, 97, 110, 100]
def kRedor : List UInt8 := [114, 101, 100, 111, 114]
def kRedxor : List UInt8 := [114, 101, 100, 120, 111, 114]
def kInit : List UInt8 := [105, 110, 105, 116]
def kNext : List UInt8 := [110, 101, 120, 116]
def kAnd : List UInt8 := [97, 110, 100]
def kOr : List UInt8 := [111, 114]
def kXor : List UInt8 := [120, 111, 114]
def kAdd : List UInt8 := [97, 100, 100]
def kSub : List UInt8 := [115, 117, 98]
def kMul : List UInt8 := [109, 117, 108]
def kUdiv : List UInt8 := [117, 100, 105, 118]
def kUrem : List UInt8 := [117, 114, 101, 109]
def kSll : List UInt8 := [115, 108, 108]
def kSrl : List UInt8 := [115, 114, 108]
def kSra : List UInt8 := [115, 114, 97]
def kEq : List UInt8 := [101, 113]
def kUlt : List UInt8 := [117, 108, 116]
def kSlt : List UInt8 := [115, 108, 116]
def kConcat : List UInt8 := [99, 111, 110, 99, 97, 116]
def kIte : List UInt8 := [105, 116, 101]
def kSlice : List UInt8 := [115, 108, 105, 99, 101]
def kUext : List UInt8 := [117, 101, 120, 116]
def kSext : List UInt8 := [115, 101, 120, 116]
/-- An op's form: what its line has. -/
def formR (op : List UInt8) : List UInt8 × Bool :=
  if op = kSort then ([119], true)
  else if op = kConst then ([115, 98], true)
  else if op = kInput then ([115, 109], true)
  else if op = kState then ([115, 109], true)
  else if op = kBad then ([97], true)
  else if op = kConstraint then ([97], true)
  else if op = kNot then ([115, 97], true)
  else if op = kInc then ([115, 97], true)
  else if op = kDec then ([115, 97], true)
  else if op = kNeg then ([115, 97], true)
  else if op = kRedand then ([115, 97], true)
  else if op = kRedor then ([115, 97], true)
  else if op = kRedxor then ([115, 97], true)
  else if op = kInit then ([115, 97, 97], true)
  else if op = kNext then ([115, 97, 97], true)
  else if op = kAnd then ([115, 97, 97], true)
  else if op = kOr then ([115, 97, 97], true)
  else if op = kXor then ([115, 97, 97], true)
  else if op = kAdd then ([115, 97, 97], true)
  else if op = kSub then ([115, 97, 97], true)
  else if op = kMul then ([115, 97, 97], true)
  else if op = kUdiv then ([115, 97, 97], true)
  else if op = kUrem then ([115, 97, 97], true)
  else if op = kSll then ([115, 97, 97], true)
  else if op = kSrl then ([115, 97, 97], true)
  else if op = kSra then ([115, 97, 97], true)
  else if op = kEq then ([115, 97, 97], true)
  else if op = kUlt then ([115, 97, 97], true)
  else if op = kSlt then ([115, 97, 97], true)
  else if op = kConcat then ([115, 97, 97], true)
  else if op = kIte then ([115, 97, 97, 97], true)
  else if op = kSlice then ([115, 97, 110, 110], true)
  else if op = kUext then ([115, 97, 110], true)
  else if op = kSext then ([115, 97, 110], true)
  else ([], false)
end Go.Proofs.YtjjlipbddlignaaGreatDoor
namespace Go.Proofs.YtjjlipbddlignaaGreatDoor
open Go Ab Go.RowKit Go.Lib
set_option maxRecDepth 100000
set_option linter.unusedVariables false
set_option linter.unusedSimpArgs false

/-! Numbers and their digits. -/
theorem u8_nat8 {k : Nat} (h : k < 256) : (UInt8.ofNat k).toNat = k := by
  rw [UInt8.toNat_ofNat']
  exact Nat.mod_eq_of_lt h
theorem dec_dig (u : Nat) : ∀ c ∈ decDigits u, isDig c = true := by
  induction u using Nat.strongRecOn with
  | _ u ih =>
    intro c hc
    rw [decDigits] at hc
    split at hc
    · rename_i h
      rw [List.mem_singleton] at hc
      subst hc
      unfold isDig
      rw [u8_nat8 (by omega), decide_eq_true_eq]
      omega
    · rename_i h
      rcases List.mem_append.1 hc with hc | hc
      · exact ih _ (by omega) c hc
      · rw [List.mem_singleton] at hc
        subst hc
        unfold isDig
        rw [u8_nat8 (by omega), decide_eq_true_eq]
        omega
theorem dec_ne (u : Nat) : decDigits u ≠ [] := by
  rw [decDigits]
  split <;> simp
theorem numN_dec (u : Nat) : numN (decDigits u) = u := by
  induction u using Nat.strongRecOn with
  | _ u ih =>
    rw [decDigits]
    split
    · rename_i h
      simp only [numN, List.foldl_cons, List.foldl_nil]
      rw [u8_nat8 (by omega)]
      omega
    · rename_i h
      rw [numN_snoc, ih _ (by omega), u8_nat8 (by omega)]
      omega
theorem dec_head (u : Nat) (h : 1 ≤ u) : ∃ c r, decDigits u = c :: r ∧ c ≠ 48 := by
  induction u using Nat.strongRecOn with
  | _ u ih =>
    rw [decDigits]
    split
    · rename_i h2
      refine ⟨_, _, rfl, fun e => ?_⟩
      have := congrArg UInt8.toNat e
      rw [u8_nat8 (by omega)] at this
      have e48 : (48 : UInt8).toNat = 48 := rfl
      omega
    · rename_i h2
      obtain ⟨c, r, h3, h4⟩ := ih (u / 10) (by omega) (by omega)
      rw [h3]
      exact ⟨c, _, rfl, h4⟩
theorem dig_val {c : UInt8} (h : isDig c = true) : 48 ≤ c.toNat ∧ c.toNat ≤ 57 := of_decide_eq_true h
theorem dec_numN : ∀ (k : Nat) (ds : List UInt8), ds.length = k + 1 → (∀ c ∈ ds, isDig c = true) → (ds.getD 0 0 = 48 → ds.length = 1) → decDigits (numN ds) = ds
  | 0, ds, hl, hd, _ => by
    obtain ⟨c, rfl⟩ := List.length_eq_one_iff.1 hl
    obtain ⟨h1, h2⟩ := dig_val (hd c List.mem_cons_self)
    have e : numN [c] = c.toNat - 48 := by simp [numN]
    rw [e, decDigits, dif_pos (by omega)]
    congr 1
    apply UInt8.toNat_inj.1
    rw [u8_nat8 (by omega)]
    omega
  | k + 1, ds, hl, hd, h0 => by
    obtain ⟨a, c, rfl⟩ : ∃ a c, ds = a ++ [c] := by
      have hne : ds ≠ [] := by intro e; rw [e] at hl; cases hl
      exact ⟨ds.dropLast, ds.getLast hne, (List.dropLast_concat_getLast hne).symm⟩
    have hal : a.length = k + 1 := by simpa using hl
    obtain ⟨x, r, rfl⟩ : ∃ x r, a = x :: r := by
      cases a with
      | nil => cases hal
      | cons x r => exact ⟨x, r, rfl⟩
    have hx : x ≠ 48 := fun e => by
      have := h0 (by rw [e]; rfl)
      rw [hl] at this
      omega
    obtain ⟨h1, h2⟩ := dig_val (hd c (by simp))
    obtain ⟨h3, h4⟩ := dig_val (hd x (by simp))
    have hxn : x.toNat ≠ 48 := fun e => hx (UInt8.toNat_inj.1 e)
    have hge : 1 ≤ numN (x :: r) := by
      have := numN_pre [x] r
      have e : numN [x] = x.toNat - 48 := by simp [numN]
      have e2 : [x] ++ r = x :: r := rfl
      rw [e2] at this
      omega
    have ih := dec_numN k (x :: r) hal (fun y hy => hd y (List.mem_append_left _ hy)) (fun e => absurd e hx)
    rw [numN_snoc, decDigits, dif_neg (by omega), show (numN (x :: r) * 10 + (c.toNat - 48)) / 10 = numN (x :: r) by omega, ih, show (numN (x :: r) * 10 + (c.toNat - 48)) % 10 = c.toNat - 48 by omega]
    congr 2
    apply UInt8.toNat_inj.1
    rw [u8_nat8 (by omega)]
    omega
theorem runN_all : ∀ {ds : List UInt8}, (∀ c ∈ ds, isDig c = true) → ∀ (r : List UInt8), runN isDig (ds ++ r) = ds.length + runN isDig r
  | [], _, r => by simp
  | c :: ds, h, r => by
    have h1 := dig_val (h c List.mem_cons_self)
    rw [List.cons_append, runN_cons, if_pos ⟨by omega, h c List.mem_cons_self⟩, runN_all (fun x hx => h x (List.mem_cons_of_mem _ hx)) r, List.length_cons]
    omega
theorem runN_stop {c : UInt8} {r : List UInt8} (h : isDig c = false) : runN isDig (c :: r) = 0 := by
  rw [runN_cons, if_neg (fun hh => by rw [h] at hh; cases hh.2)]
theorem runN_dig (l : List UInt8) : ∀ c ∈ l.take (runN isDig l), isDig c = true := by
  induction l with
  | nil => simp
  | cons x r ih =>
    rw [runN_cons]
    split
    · rename_i h
      intro c hc
      rw [List.take_succ_cons] at hc
      rcases List.mem_cons.1 hc with rfl | hc
      · exact h.2
      · exact ih c hc
    · simp
theorem isTo_pl {b : List UInt8} {i : Int} {s : List UInt8} (h : isAt b i s = true) : 0 ≤ i ∧ isTo b i s = i + s.length ∧ isTo b i s ≤ b.length := by
  unfold isAt at h
  rw [Bool.and_eq_true, decide_eq_true_eq] at h
  obtain ⟨h1, h2⟩ := h
  have h3 : isTo b i s = i + s.length := by rw [isTo, if_neg (fun hh => hh h1), if_pos h2]
  refine ⟨h1.1, h3, ?_⟩
  rw [pre_take, decide_eq_true_eq, List.length_drop] at h2
  rw [h3]
  omega
theorem numR_pl {b : List UInt8} {i most : Int} (h : (numR b i most).2.2 = 0) : 0 ≤ i ∧ i < (numR b i most).2.1 ∧ (numR b i most).2.1 ≤ b.length := by
  unfold numR at h ⊢
  split at h
  · exact absurd h (by decide)
  · rename_i h1
    rw [if_neg h1]
    have h1 : 0 ≤ i ∧ i ≤ b.length := Decidable.not_not.1 h1
    split at h
    · exact absurd h (by simp)
    · rename_i h2
      rw [if_neg h2]
      split at h
      · exact absurd h (by simp)
      · rename_i h3
        rw [if_neg h3]
        have := runN_le isDig (b.drop i.toNat)
        rw [List.length_drop] at this
        have hne : runN isDig (b.drop i.toNat) ≠ 0 := fun e => h2 (.inl e)
        refine ⟨h1.1, ?_, ?_⟩ <;> simp only <;> omega
theorem drop_pre (a b : List UInt8) (i : Nat) : (a ++ b).drop (a.length + i) = b.drop i := by rw [← List.drop_drop, List.drop_left]
theorem isAt_pre (a b : List UInt8) (i : Nat) (hi : i ≤ b.length) (s : List UInt8) : isAt (a ++ b) ((a.length + i : Nat) : Int) s = isAt b (i : Int) s := by
  unfold isAt
  rw [decide_eq_true (show (0 : Int) ≤ ((a.length + i : Nat) : Int) ∧ ((a.length + i : Nat) : Int) ≤ (a ++ b).length by rw [List.length_append]; omega), decide_eq_true (show (0 : Int) ≤ (i : Int) ∧ (i : Int) ≤ b.length by omega), Int.toNat_natCast, Int.toNat_natCast, drop_pre]
theorem getD_pre (a b : List UInt8) (i : Nat) : (a ++ b).getD (a.length + i) 0 = b.getD i 0 := by
  rw [List.getD_eq_getElem?_getD, List.getD_eq_getElem?_getD, List.getElem?_append_right (by omega), Nat.add_sub_cancel_left]
theorem numR_pre (a b : List UInt8) (i : Nat) (hi : i ≤ b.length) (most : Int) : numR (a ++ b) ((a.length + i : Nat) : Int) most = ((numR b (i : Int) most).1, a.length + (numR b (i : Int) most).2.1, (numR b (i : Int) most).2.2) := by
  have h1 : (0 : Int) ≤ ((a.length + i : Nat) : Int) ∧ ((a.length + i : Nat) : Int) ≤ (a ++ b).length := by rw [List.length_append]; omega
  have h2 : (0 : Int) ≤ (i : Int) ∧ (i : Int) ≤ b.length := by omega
  unfold numR numDs
  rw [if_neg (not_not_intro h1), if_neg (not_not_intro h2), Int.toNat_natCast, Int.toNat_natCast, drop_pre, getD_pre]
  split
  · simp
  · split
    · simp
    · simp only [Prod.mk.injEq, true_and, and_true]
      omega
theorem isAt_here (l s r : List UInt8) : isAt (l ++ (s ++ r)) (l.length : Int) s = true := by
  have h := isAt_pre l (s ++ r) 0 (Nat.zero_le _) s
  rw [Nat.add_zero] at h
  rw [h]
  unfold isAt
  rw [decide_eq_true (by simp; omega), Bool.true_and]
  simp
theorem isTo_here (l s r : List UInt8) : isTo (l ++ (s ++ r)) (l.length : Int) s = l.length + s.length := (isTo_pl (isAt_here l s r)).2.1
theorem numR_dec {u : Nat} {n : Int} (hn : (u : Int) ≤ n) (hm : u ≤ 2147483647) {c : UInt8} (hc : isDig c = false) (r : List UInt8) : numR (decDigits u ++ c :: r) 0 n = ((u : Int), ((decDigits u).length : Int), 0) := by
  have h0 : (0 : Int) ≤ 0 ∧ (0 : Int) ≤ (decDigits u ++ c :: r).length := by omega
  have hrun : runN isDig (decDigits u ++ c :: r) = (decDigits u).length := by rw [runN_all (dec_dig u), runN_stop hc, Nat.add_zero]
  have hds : numDs (decDigits u ++ c :: r) 0 = decDigits u := by rw [numDs, List.drop_zero, hrun, List.take_left]
  unfold numR
  rw [if_neg (not_not_intro h0)]
  simp only [Int.toNat_zero, List.drop_zero, hrun, hds, numN_dec]
  rw [if_neg, if_neg]
  · simp
  · omega
  · rintro (h | ⟨h1, h2⟩)
    · exact dec_ne u (List.eq_nil_of_length_eq_zero h)
    · rcases Nat.eq_zero_or_pos u with rfl | hu
      · rw [decDigits] at h2
        simp at h2
      · obtain ⟨x, t, h3, h4⟩ := dec_head u hu
        rw [h3] at h1
        exact h4 h1
theorem isAt_inv {b s : List UInt8} {i : Nat} (h : isAt b (i : Int) s = true) : i + s.length ≤ b.length ∧ isTo b (i : Int) s = ((i + s.length : Nat) : Int) ∧ b.drop i = s ++ b.drop (i + s.length) := by
  obtain ⟨h1, h2, h3⟩ := isTo_pl h
  refine ⟨by omega, by omega, ?_⟩
  unfold isAt at h
  rw [Bool.and_eq_true, Int.toNat_natCast] at h
  obtain ⟨t, ht⟩ := List.isPrefixOf_iff_prefix.1 h.2
  rw [← List.drop_drop, ← ht, List.drop_left]
theorem numR_inv {b : List UInt8} {i : Nat} {n v nx : Int} (h : numR b (i : Int) n = (v, nx, 0)) : ∃ (u q : Nat), v = u ∧ nx = q ∧ i < q ∧ q ≤ b.length ∧ (u : Int) ≤ n ∧ u ≤ 2147483647 ∧ b.drop i = decDigits u ++ b.drop q := by
  have hz : (numR b (i : Int) n).2.2 = 0 := by rw [h]
  have hpl := numR_pl hz
  rw [h] at hpl
  simp only at hpl
  unfold numR at h
  rw [if_neg (not_not_intro ⟨by omega, by omega⟩), Int.toNat_natCast] at h
  split at h
  · simp at h
  · rename_i h1
    split at h
    · simp at h
    · rename_i h2
      simp only [Prod.mk.injEq] at h
      obtain ⟨rfl, rfl, -⟩ := h
      have hk := runN_le isDig (b.drop i)
      rw [List.length_drop] at hk
      have hdig := runN_dig (b.drop i)
      unfold numDs at h2 ⊢
      generalize hkk : runN isDig (b.drop i) = k at *
      have hk0 : k ≠ 0 := fun e => h1 (.inl e)
      obtain ⟨m, rfl⟩ : ∃ m, k = m + 1 := ⟨k - 1, by omega⟩
      have hl : ((b.drop i).take (m + 1)).length = m + 1 := by rw [List.length_take, List.length_drop]; omega
      have h0 : ((b.drop i).take (m + 1)).getD 0 0 = 48 → ((b.drop i).take (m + 1)).length = 1 := fun e => by
        have e2 : ((b.drop i).take (m + 1)).getD 0 0 = b.getD i 0 := by
          simp [List.getD_eq_getElem?_getD, List.getElem?_take, List.getElem?_drop]
        rw [e2] at e
        rw [hl]
        have : ¬ 1 < m + 1 := fun hh => h1 (.inr ⟨e, hh⟩)
        omega
      refine ⟨_, i + (m + 1), rfl, by omega, by omega, by omega, by omega, by omega, ?_⟩
      rw [dec_numN m _ hl hdig h0, ← List.drop_drop, List.take_append_drop]
end Go.Proofs.YtjjlipbddlignaaGreatDoor
namespace Go.Proofs.YtjjlipbddlignaaGreatDoor
open Go Ab Go.Lib
set_option maxRecDepth 100000
set_option linter.unusedVariables false
set_option linter.unusedSimpArgs false

/-! ### Which lines are right, and their text -/
def isBit (c : UInt8) : Bool := decide (c = 48 ∨ c = 49)
def bitsOk (t : List UInt8) : Bool := decide (1 ≤ t.length ∧ t.length ≤ 128) && t.all isBit
@[reducible] def frm (op : List UInt8) : List UInt8 := (formR op).1
def sOk (f : List UInt8) (id s : Int) : Bool := if 115 ∈ f then decide (1 ≤ s ∧ s < id) else decide (s = 0)
def tOk (f t : List UInt8) : Bool := if 98 ∈ f then bitsOk t else if 109 ∈ f then decide (t = []) || nameOk t else decide (t = [])
def aOk (f : List UInt8) (id : Int) (a : List Int) : Bool := decide (a.length = f.count 97) && a.all (fun n => decide (1 ≤ n ∧ n < id))
def nOk (f : List UInt8) (l : List Int) : Bool := decide (l.length = f.count 110 + f.count 119) && l.all (fun n => decide (((f.count 119 : Nat) : Int) ≤ n ∧ n ≤ 128))
def nodeB (id : Int) (x : Nd) : Bool := (formR x.op).2 && sOk (frm x.op) id x.s && tOk (frm x.op) x.t && aOk (frm x.op) id x.a && nOk (frm x.op) x.n
def rightFrom : Nat → List Nd → Bool
  | _, [] => true
  | i, x :: r => nodeB ((i : Int) + 1) x && rightFrom (i + 1) r
def rightM (l : List Nd) : Bool := rightFrom 0 l && decide (l.length ≤ 5000)
def sBitvec : List UInt8 := [32, 98, 105, 116, 118, 101, 99]
def numT (n : Int) : List UInt8 := 32 :: tItoa n
def nodeT (id : Int) (x : Nd) : List UInt8 :=
  tItoa id ++ 32 :: x.op ++ (if frm x.op = [119] then sBitvec else []) ++ (if 0 < x.s then numT x.s else []) ++ (x.a.flatMap numT ++ x.n.flatMap numT) ++ (if x.t = [] then [] else 32 :: x.t) ++ [10]
def textFrom : Nat → List Nd → List UInt8
  | _, [] => []
  | i, x :: r => nodeT ((i : Int) + 1) x ++ textFrom (i + 1) r
def textM (l : List Nd) : List UInt8 := textFrom 0 l
/-- What the letters of a form tell, one by one. -/
def fT (x : Nd) : List UInt8 → List Int → List Int → List UInt8
  | [], _, _ => []
  | c :: f, a, n =>
    if c = 115 then numT x.s ++ fT x f a n
    else if c = 97 then numT (a.headD 0) ++ fT x f a.tail n
    else if c = 110 then numT (n.headD 0) ++ fT x f a n.tail
    else if c = 119 then sBitvec ++ numT (n.headD 0) ++ fT x f a n.tail
    else if c = 98 then 32 :: x.t ++ fT x f a n
    else (if x.t = [] then [] else 32 :: x.t) ++ fT x f a n
def IsForm (q : List UInt8 × Bool) : Prop := q = ([], false) ∨ q = ([119], true) ∨ q = ([115, 98], true) ∨ q = ([115, 109], true) ∨ q = ([97], true) ∨ q = ([115, 97], true) ∨ q = ([115, 97, 97], true) ∨ q = ([115, 97, 97, 97], true) ∨ q = ([115, 97, 110, 110], true) ∨ q = ([115, 97, 110], true)
theorem isForm (op : List UInt8) : IsForm (formR op) := by
  unfold formR
  iterate 34 (refine iteInduction (motive := IsForm) (fun _ => by simp [IsForm]) (fun _ => ?_))
  simp [IsForm]
/-- The forms that there are. -/
theorem form_cases (op : List UInt8) : (formR op).2 = false ∧ frm op = [] ∨ (formR op).2 = true ∧ (frm op = [119] ∨ frm op = [115, 98] ∨ frm op = [115, 109] ∨ frm op = [97] ∨ frm op = [115, 97] ∨ frm op = [115, 97, 97] ∨ frm op = [115, 97, 97, 97] ∨ frm op = [115, 97, 110, 110] ∨ frm op = [115, 97, 110]) := by
  have h := isForm op
  unfold IsForm at h
  unfold frm
  rcases h with h | h | h | h | h | h | h | h | h | h <;> rw [h] <;> simp
theorem len1 {α : Type} {l : List α} (h : l.length = 1) : ∃ a, l = [a] := List.length_eq_one_iff.1 h
theorem len2 {α : Type} {l : List α} (h : l.length = 2) : ∃ a b, l = [a, b] := by
  match l, h with
  | [a, b], _ => exact ⟨a, b, rfl⟩
theorem len3 {α : Type} {l : List α} (h : l.length = 3) : ∃ a b c, l = [a, b, c] := by
  match l, h with
  | [a, b, c], _ => exact ⟨a, b, c, rfl⟩
/-- A line's text, by its form. -/
theorem nodeT_form {id : Int} {x : Nd} (h : nodeB id x = true) : nodeT id x = tItoa id ++ 32 :: x.op ++ fT x (frm x.op) x.a x.n ++ [10] := by
  unfold nodeB at h
  simp only [Bool.and_eq_true] at h
  obtain ⟨⟨⟨⟨h1, h2⟩, h3⟩, h4⟩, h5⟩ := h
  unfold nodeT
  rcases form_cases x.op with ⟨e, _⟩ | ⟨_, e⟩
  · rw [e] at h1
    cases h1
  unfold sOk at h2
  unfold tOk at h3
  unfold aOk at h4
  unfold nOk at h5
  generalize frm x.op = f at *
  simp only [Bool.and_eq_true, decide_eq_true_eq] at h4 h5
  obtain ⟨h4, -⟩ := h4
  obtain ⟨h5, -⟩ := h5
  rcases e with rfl | rfl | rfl | rfl | rfl | rfl | rfl | rfl | rfl
  all_goals simp only [List.count_cons, List.count_nil] at h4 h5
  all_goals simp at h2 h3 h4 h5
  all_goals simp only [fT]
  · obtain ⟨a, e⟩ := len1 h5
    simp [h2, h3, h4, e, numT, sBitvec]
  · have hne : x.t ≠ [] := by
      rintro e
      rw [e] at h3
      simp [bitsOk] at h3
    simp [show 0 < x.s by omega, hne, h4, h5]
  · simp [show 0 < x.s by omega, h4, h5]
  · obtain ⟨a, e⟩ := len1 h4
    simp [h2, h3, h5, e, numT]
  · obtain ⟨a, e⟩ := len1 h4
    simp [show 0 < x.s by omega, h3, h5, e]
  · obtain ⟨a, b, e⟩ := len2 h4
    simp [show 0 < x.s by omega, h3, h5, e]
  · obtain ⟨a, b, c, e⟩ := len3 h4
    simp [show 0 < x.s by omega, h3, h5, e]
  · obtain ⟨a, e⟩ := len1 h4
    obtain ⟨b, c, e2⟩ := len2 h5
    simp [show 0 < x.s by omega, h3, e, e2]
  · obtain ⟨a, e⟩ := len1 h4
    obtain ⟨b, e2⟩ := len1 h5
    simp [show 0 < x.s by omega, h3, e, e2]
end Go.Proofs.YtjjlipbddlignaaGreatDoor
set_option linter.unusedSimpArgs false
set_option linter.unusedVariables false
set_option linter.unusedSectionVars false
namespace Ab
open Go
variable [Draws]

section
variable {P : Program} [Globals P] {T : Tab} {f : FuncId} {fn : Func} {n : Nat} {C : Cx} {R : AV → List (Option AObj) → Prop} {todo todo' k : List Item} {env env' : Env} {objs objs' : List (Option AObj)} {ops : Array Oper}

theorem sat_pure {i : Nat} {r : List Nat} {o : Oper} {e : Env} (a : AV) (hT : TabOk P T) (ho : ops[i]? = some o) (hw : wantE ops env o = .yes) (hp : pstep T o env objs = .ok a) (hput : putE n o.dst a env = some e)
    (h : ASat P f n C (.inRegion ops r :: k) e objs R) : ASat P f n C (.inRegion ops (i :: r) :: k) env objs R := by
  refine sat_quiet a ho hw (fun X π w tmps m he => ?_) hput h
  have hdo := pstep_ok (ds := []) hT m he o
  rw [hp] at hdo
  obtain ⟨v, d1, d2⟩ := hdo
  exact ⟨v, d2 w (.refl w), d1⟩
theorem pIndexAddr_arr {t e : TypeId} {r re : TRow} {m j off i : Nat} {ki : IntKind} (h1 : tlook T t = some r) (h2 : r.kd = .array m e) (h3 : tlook T e = some re) (hi : i < m) :
    pIndexAddr T t objs (.ptr j off) (.d (.v (.int ki ((i : Nat) : Int)))) = .ok (.ptr j (off + i * re.size)) := by
  have hb : Nat.blt i m = true := by rw [Nat.blt_eq]; exact hi
  simp only [pIndexAddr, h1, h2, h3, show asNat (.d (.v (.int ki ((i : Nat) : Int)))) = some i from rfl, hb]
theorem pLoad_arr {t e : TypeId} {r : TRow} {j off : Nat} {cs : List AV} {a : AV} (h1 : tlook T t = some r) (h2 : r.isAgg = false) (h3 : nth objs j = some (some (.cells e cs))) (h4 : nth cs off = some a) : pLoad T t objs (.ptr j off) = .ok a := by
  simp only [pLoad, h1, objAt, h3, cut1, h2, h4]
end
end Ab
set_option linter.unusedSimpArgs false
set_option linter.unusedVariables false
set_option linter.unusedSectionVars false
namespace Ab
open Go
variable [Draws]

section
variable {P : Program} [Globals P] {T : Tab} {f : FuncId} {fn : Func} {n : Nat} {C : Cx} {R : AV → List (Option AObj) → Prop} {todo todo' k : List Item} {env env' : Env} {objs objs' : List (Option AObj)}

theorem sat_insert {ops : Array Oper} {i : Nat} {r : List Nat} {k : List Item} {o : Oper} {t kt et : TypeId} {mo ko xo : Operand} {rm rk : TRow} {j : Nat} {es es' : List (Value × AV)} {key : Value} {x : AV} (hT : TabOk P T)
    (ho : ops[i]? = some o) (hw : wantE ops env o = .yes) (hop : o.op = .insert t mo ko xo) (hd : o.dst = none) (hm : opnd env mo = some (.mp j)) (hk : opnd env ko = some (.d (.v key))) (hx : opnd env xo = some x) (h1 : tlook T t = some rm) (h2 : rm.kd = .map kt et) (h3 : tlook T kt = some rk)
    (hobj : nth objs j = some (some (.map es))) (hkey : keyB rk.kd key = true) (hks : keysB rk.kd es = true) (hf : MPut key x es es')
    (h : ASat P f n C (.inRegion ops r :: k) env (setNth objs j (some (.map es'))) R) : ASat P f n C (.inRegion ops (i :: r) :: k) env objs R := by
  refine sat_op ⟨none, true, .und, none, setNth objs j (some (.map es'))⟩ ho hw (fun X π w tmps m he _ => ?_) trivial (by rw [hd]; rfl) h
  obtain ⟨w', e1, e2⟩ := update_do hT m h1 h2 h3 hobj hkey hks hf (opnd_rel (ds := []) he hm) (opnd_rel (ds := []) he hx)
  refine ⟨undef, w', π, ?_, e2, fun h => by cases h⟩
  unfold execOp
  simp only [hop]
  rw [look_ok (P := P) he hk]
  simp only [Sem.run_bind, e1, Result.andThen_ok, Sem.run_pure]
  rfl
end
end Ab
namespace Go.Proofs.YtjjlipbddlignaaGreatDoor
open Go Ab Go.RowKit
set_option maxRecDepth 100000
set_option linter.unusedVariables false
set_option linter.unusedSimpArgs false
set_option maxHeartbeats 4000000

/-! ### The map of forms -/
def strK (l : List UInt8) : Value := .string ⟨l.toArray⟩
theorem strK_ne {a b : List UInt8} (h : a ≠ b) : strK a ≠ strK b := by
  intro e
  injection e with e
  injection e with e
  injection e with e
  exact h e
/-- Put behind all others, under a new key. -/
theorem mput_new {k : List UInt8} {x : AV} : ∀ {es : List (List UInt8 × AV)}, (∀ p ∈ es, p.1 ≠ k) → MPut (strK k) x (es.map fun p => (strK p.1, p.2)) ((es ++ [(k, x)]).map fun p => (strK p.1, p.2))
  | [], _ => .nil
  | p :: r, h => .miss (strK_ne (h p (List.mem_cons_self))) (mput_new fun q hq => h q (List.mem_cons_of_mem _ hq))
def assocK (k : List UInt8) : List (List UInt8 × AV) → Option AV
  | [] => none
  | (k', x) :: r => if k' = k then some x else assocK k r
theorem mfind_assoc (k : List UInt8) (ρ : Nat → Nat) : ∀ es : List (List UInt8 × AV), MFind (strK k) (renEs ρ (es.map fun p => (strK p.1, p.2))) ((assocK k es).map (AV.ren ρ))
  | [] => .nil
  | (k', x) :: r => by
    simp only [assocK, List.map_cons, renEs]
    split
    · rename_i h
      subst h
      exact .hit
    · rename_i h
      exact .miss (strK_ne h) (mfind_assoc k ρ r)
@[reducible] def mpK (es : List (List UInt8 × AV)) : AObj := .map (es.map fun p => (strK p.1, p.2))
theorem keys_str (ρ : Nat → Nat) : ∀ es : List (List UInt8 × AV), keysB .str (renEs ρ (es.map fun p => (strK p.1, p.2))) = true
  | [] => rfl
  | p :: r => by
    show (match keyB .str (strK p.1) with | true => keysB .str _ | false => false) = true
    exact keys_str ρ r

/-! ### Un, Bin -/

def formK : List (List UInt8 × List UInt8) := [(kSort, [119]), (kConst, [115, 98]), (kInput, [115, 109]), (kState, [115, 109]), (kInit, [115, 97, 97]), (kNext, [115, 97, 97]), (kBad, [97]), (kConstraint, [97]), (kIte, [115, 97, 97, 97]), (kSlice, [115, 97, 110, 110]), (kUext, [115, 97, 110]), (kSext, [115, 97, 110]), (kNot, [115, 97]), (kInc, [115, 97]), (kDec, [115, 97]), (kNeg, [115, 97]), (kRedand, [115, 97]), (kRedor, [115, 97]), (kRedxor, [115, 97]), (kAnd, [115, 97, 97]), (kOr, [115, 97, 97]), (kXor, [115, 97, 97]), (kAdd, [115, 97, 97]), (kSub, [115, 97, 97]), (kMul, [115, 97, 97]), (kUdiv, [115, 97, 97]), (kUrem, [115, 97, 97]), (kSll, [115, 97, 97]), (kSrl, [115, 97, 97]), (kSra, [115, 97, 97]), (kEq, [115, 97, 97]), (kUlt, [115, 97, 97]), (kSlt, [115, 97, 97]), (kConcat, [115, 97, 97])]
def formE : List (List UInt8 × AV) := formK.map fun p => (p.1, vTx p.2)
theorem formK_new : ∀ i, i < 34 → ∀ p ∈ formK.take i, p.1 ≠ (formK.getD i default).1 := by decide
theorem formE_put (i : Nat) (h : i < 34) : MPut (strK (formK.getD i default).1) (vTx (formK.getD i default).2) ((formE.take i).map fun p => (strK p.1, p.2)) ((formE.take (i + 1)).map fun p => (strK p.1, p.2)) := by
  have h34 : i < formK.length := h
  have e : formE.take (i + 1) = formE.take i ++ [((formK.getD i default).1, vTx (formK.getD i default).2)] := by
    unfold formE
    rw [← List.map_take, ← List.map_take, List.take_succ_eq_append_getElem h34, List.map_append]
    simp [List.getD_eq_getElem?_getD, h34]
  rw [e]
  refine mput_new fun p hp => ?_
  unfold formE at hp
  rw [← List.map_take] at hp
  obtain ⟨q, hq, rfl⟩ := List.mem_map.1 hp
  exact formK_new i h q hq
@[reducible] def eSs (l : List (List UInt8)) : D := eL 1 dSL [] l
/-- What strings.Fields leaves. -/
theorem strs_relE {w : World} {ok : Nat → Prop} : ∀ l : List (List UInt8), RelE w ok 1 (l.map dSL) (l.map fun x => Value.string ⟨x.toArray⟩)
  | [] => .nil
  | x :: r => .cons (us := [Value.string ⟨x.toArray⟩]) (.cons (.v rfl) rfl .nil) rfl (strs_relE r)
theorem Fields_call (s : List UInt8) (hs : s.length ≤ 1000000) (ha : ∀ c ∈ s, c.toNat < 128) (hl : (Go.Lib.fields s).length ≤ maxLen) : ACall Tryz.prog 38 [vTx s] [] (fun r o => r = .d (eSs (Go.Lib.fields s))) := by
  intro X π w us hgk m hv
  refine .inl ⟨callFunc_run Tryz.func38 rfl rfl _ _, ?_⟩
  cases hv with | cons hv ht => cases ht with | nil =>
  cases hv with | d hv => cases hv with | v hfl =>
  have hsz : (⟨s.toArray⟩ : ByteArray).size = s.length := sizeBy s
  have hcall := Any.strings_Fields Tryz.fieldsL (by kernel_rfl) glob_space ⟨s.toArray⟩ w (by rw [hsz]; omega) (fun j b hb => ha b (List.mem_of_getElem? (by simpa using hb))) (tb_space hgk.tb)
  have e0 : (⟨s.toArray⟩ : ByteArray).data.toList = s := rfl
  rw [e0] at hcall
  refine Calls.mono hcall ?_
  rintro e w' ⟨rfl, rfl⟩
  have hout : ∀ (ob : Obj), Tr X π [] w none π [] (w.alloc ob) := fun ob => tr_plain m rfl rfl ⟨rfl, dr_mono (Nat.le_refl _)⟩ (by rw [alloc_heap]; simp) (fun b hb => heap_push_old _ hb)
  have t := hout (.cells ((Go.Lib.fields s).map fun l => Value.string ⟨l.toArray⟩).toArray (Tryz.fieldsL_ren.t 9))
  refine ⟨_, _, [], π, rfl, rfl, t.mem, ?_, t.hist⟩
  have hle : ((Go.Lib.fields s).map dSL).length = (Go.Lib.fields s).length := List.length_map _
  have hE := strs_relE (w := w.alloc (.cells ((Go.Lib.fields s).map fun l => Value.string ⟨l.toArray⟩).toArray (Tryz.fieldsL_ren.t 9))) (ok := okOf X π []) (Go.Lib.fields s)
  rw [← hle]
  refine .d (.sl (us := (Go.Lib.fields s).map fun x => Value.string ⟨x.toArray⟩) hE (fun q hq => ⟨new_okb m, ?_⟩) (Nat.le_refl _) ?_ (map_rd dSL [] _))
  · rw [Nat.zero_add]
    exact cell_of_heap (fz := (0, 0)) (heap_push_new _)
  · rw [hle]
    exact hl
def sOnes : List UInt8 := [110, 111, 116, 32, 105, 110, 99, 32, 100, 101, 99, 32, 110, 101, 103, 32, 114, 101, 100, 97, 110, 100, 32, 114, 101, 100, 111, 114, 32, 114, 101, 100, 120, 111, 114]
theorem fields_ones : Go.Lib.fields sOnes = [kNot, kInc, kDec, kNeg, kRedand, kRedor, kRedxor] := by decide
def sTwos : List UInt8 := [97, 110, 100, 32, 111, 114, 32, 120, 111, 114, 32, 97, 100, 100, 32, 115, 117, 98, 32, 109, 117, 108, 32, 117, 100, 105, 118, 32, 117, 114, 101, 109, 32, 115, 108, 108, 32, 115, 114, 108, 32, 115, 114, 97, 32, 101, 113, 32, 117, 108, 116, 32, 115, 108, 116, 32, 99, 111, 110, 99, 97, 116]
theorem fields_twos : Go.Lib.fields sTwos = [kAnd, kOr, kXor, kAdd, kSub, kMul, kUdiv, kUrem, kSll, kSrl, kSra, kEq, kUlt, kSlt, kConcat] := by decide
end Go.Proofs.YtjjlipbddlignaaGreatDoor
namespace Go.Proofs.YtjjlipbddlignaaGreatDoor
open Go Ab Go.RowKit
set_option maxRecDepth 100000
set_option linter.unusedVariables false
set_option linter.unusedSimpArgs false
set_option maxHeartbeats 4000000

theorem keys_0 : ∀ es : List (List UInt8 × AV), keysB .str (es.map fun p => (strK p.1, p.2)) = true
  | [] => rfl
  | p :: r => by
    show (match keyB .str (strK p.1) with | true => keysB .str _ | false => false) = true
    exact keys_0 r
theorem refs_f0 (m : Nat) : ∀ l : List (List UInt8 × List UInt8), refsM m ((l.map fun p => (p.1, vTx p.2)).map fun p => (strK p.1, p.2)) = true
  | [] => rfl
  | p :: r => refs_f0 m r
theorem refs_f (m k : Nat) : refsO m [some (mpK (formE.take k))] = true := by
  have h := refs_f0 m (formK.take k)
  rw [List.map_take] at h
  have e : refsO1 m (mpK (formE.take k)) = true := h
  show (match refsO1 m (mpK (formE.take k)) with | true => refsO m [] | false => false) = true
  rw [e]
  rfl
def onesL : List (List UInt8) := [kNot, kInc, kDec, kNeg, kRedand, kRedor, kRedxor]
def twosL : List (List UInt8) := [kAnd, kOr, kXor, kAdd, kSub, kMul, kUdiv, kUrem, kSll, kSrl, kSra, kEq, kUlt, kSlt, kConcat]
theorem ones_at : ∀ i, i < 7 → formK.getD (12 + i) default = (onesL.getD i [], [115, 97]) := by decide
theorem twos_at : ∀ i, i < 15 → formK.getD (19 + i) default = (twosL.getD i [], [115, 97, 97]) := by decide
theorem forms_call : ACall Tryz.prog 25 [] [] (fun r o => r = .mp 0 ∧ o = [some (mpK formE)]) := by
  refine acall_enter Tryz.func25 rfl rfl (Nat.le_of_ble_eq_true rfl) fun C hC hCl hDs hGk => ?_
  refine sat_steps 7 tabOk Tryz.func25 rfl trivial ?_
  refine sat_insert (es' := (formE.take 1).map fun p => (strK p.1, p.2)) tabOk rfl rfl rfl rfl rfl rfl rfl rfl rfl rfl rfl rfl (by kernel_rfl) ?_ ?_
  · exact formE_put 0 (by decide)
  refine sat_le (env' := [(6, .mp 0)]) (objs' := [some (mpK (formE.take 1))]) ?_ hC hCl ⟨⟨_, rfl, .refl _⟩, trivial⟩ ⟨.refl _, trivial⟩ rfl rfl (Nat.zero_le _)
  refine sat_insert (es' := (formE.take 2).map fun p => (strK p.1, p.2)) tabOk rfl rfl rfl rfl rfl rfl rfl rfl rfl rfl rfl rfl (by kernel_rfl) ?_ ?_
  · exact formE_put 1 (by decide)
  refine sat_le (env' := [(6, .mp 0)]) (objs' := [some (mpK (formE.take 2))]) ?_ hC hCl ⟨⟨_, rfl, .refl _⟩, trivial⟩ ⟨.refl _, trivial⟩ rfl rfl (Nat.zero_le _)
  refine sat_insert (es' := (formE.take 3).map fun p => (strK p.1, p.2)) tabOk rfl rfl rfl rfl rfl rfl rfl rfl rfl rfl rfl rfl (by kernel_rfl) ?_ ?_
  · exact formE_put 2 (by decide)
  refine sat_le (env' := [(6, .mp 0)]) (objs' := [some (mpK (formE.take 3))]) ?_ hC hCl ⟨⟨_, rfl, .refl _⟩, trivial⟩ ⟨.refl _, trivial⟩ rfl rfl (Nat.zero_le _)
  refine sat_insert (es' := (formE.take 4).map fun p => (strK p.1, p.2)) tabOk rfl rfl rfl rfl rfl rfl rfl rfl rfl rfl rfl rfl (by kernel_rfl) ?_ ?_
  · exact formE_put 3 (by decide)
  refine sat_le (env' := [(6, .mp 0)]) (objs' := [some (mpK (formE.take 4))]) ?_ hC hCl ⟨⟨_, rfl, .refl _⟩, trivial⟩ ⟨.refl _, trivial⟩ rfl rfl (Nat.zero_le _)
  refine sat_insert (es' := (formE.take 5).map fun p => (strK p.1, p.2)) tabOk rfl rfl rfl rfl rfl rfl rfl rfl rfl rfl rfl rfl (by kernel_rfl) ?_ ?_
  · exact formE_put 4 (by decide)
  refine sat_le (env' := [(6, .mp 0)]) (objs' := [some (mpK (formE.take 5))]) ?_ hC hCl ⟨⟨_, rfl, .refl _⟩, trivial⟩ ⟨.refl _, trivial⟩ rfl rfl (Nat.zero_le _)
  refine sat_insert (es' := (formE.take 6).map fun p => (strK p.1, p.2)) tabOk rfl rfl rfl rfl rfl rfl rfl rfl rfl rfl rfl rfl (by kernel_rfl) ?_ ?_
  · exact formE_put 5 (by decide)
  refine sat_le (env' := [(6, .mp 0)]) (objs' := [some (mpK (formE.take 6))]) ?_ hC hCl ⟨⟨_, rfl, .refl _⟩, trivial⟩ ⟨.refl _, trivial⟩ rfl rfl (Nat.zero_le _)
  refine sat_insert (es' := (formE.take 7).map fun p => (strK p.1, p.2)) tabOk rfl rfl rfl rfl rfl rfl rfl rfl rfl rfl rfl rfl (by kernel_rfl) ?_ ?_
  · exact formE_put 6 (by decide)
  refine sat_le (env' := [(6, .mp 0)]) (objs' := [some (mpK (formE.take 7))]) ?_ hC hCl ⟨⟨_, rfl, .refl _⟩, trivial⟩ ⟨.refl _, trivial⟩ rfl rfl (Nat.zero_le _)
  refine sat_insert (es' := (formE.take 8).map fun p => (strK p.1, p.2)) tabOk rfl rfl rfl rfl rfl rfl rfl rfl rfl rfl rfl rfl (by kernel_rfl) ?_ ?_
  · exact formE_put 7 (by decide)
  refine sat_le (env' := [(6, .mp 0)]) (objs' := [some (mpK (formE.take 8))]) ?_ hC hCl ⟨⟨_, rfl, .refl _⟩, trivial⟩ ⟨.refl _, trivial⟩ rfl rfl (Nat.zero_le _)
  refine sat_insert (es' := (formE.take 9).map fun p => (strK p.1, p.2)) tabOk rfl rfl rfl rfl rfl rfl rfl rfl rfl rfl rfl rfl (by kernel_rfl) ?_ ?_
  · exact formE_put 8 (by decide)
  refine sat_le (env' := [(6, .mp 0)]) (objs' := [some (mpK (formE.take 9))]) ?_ hC hCl ⟨⟨_, rfl, .refl _⟩, trivial⟩ ⟨.refl _, trivial⟩ rfl rfl (Nat.zero_le _)
  refine sat_insert (es' := (formE.take 10).map fun p => (strK p.1, p.2)) tabOk rfl rfl rfl rfl rfl rfl rfl rfl rfl rfl rfl rfl (by kernel_rfl) ?_ ?_
  · exact formE_put 9 (by decide)
  refine sat_le (env' := [(6, .mp 0)]) (objs' := [some (mpK (formE.take 10))]) ?_ hC hCl ⟨⟨_, rfl, .refl _⟩, trivial⟩ ⟨.refl _, trivial⟩ rfl rfl (Nat.zero_le _)
  refine sat_insert (es' := (formE.take 11).map fun p => (strK p.1, p.2)) tabOk rfl rfl rfl rfl rfl rfl rfl rfl rfl rfl rfl rfl (by kernel_rfl) ?_ ?_
  · exact formE_put 10 (by decide)
  refine sat_le (env' := [(6, .mp 0)]) (objs' := [some (mpK (formE.take 11))]) ?_ hC hCl ⟨⟨_, rfl, .refl _⟩, trivial⟩ ⟨.refl _, trivial⟩ rfl rfl (Nat.zero_le _)
  refine sat_insert (es' := (formE.take 12).map fun p => (strK p.1, p.2)) tabOk rfl rfl rfl rfl rfl rfl rfl rfl rfl rfl rfl rfl (by kernel_rfl) ?_ ?_
  · exact formE_put 11 (by decide)
  refine sat_le (env' := [(6, .mp 0)]) (objs' := [some (mpK (formE.take 12))]) ?_ hC hCl ⟨⟨_, rfl, .refl _⟩, trivial⟩ ⟨.refl _, trivial⟩ rfl rfl (Nat.zero_le _)
  refine sat_call tabOk Tryz.func25 rfl trivial (Fields_call sOnes (by decide) (by decide) (by decide)) (.refl _) rfl ⟨_, rfl⟩ (by rintro r o rfl; rfl) ?_
  rintro _ o rfl
  rw [fields_ones, show [kNot, kInc, kDec, kNeg, kRedand, kRedor, kRedxor] = onesL from rfl]
  refine sat_stop tabOk Tryz.func25 rfl trivial ?_
  refine sat_while (α := Nat) (fun i => [(1, .mp 0), (8, .d (eSs onesL)), (9, vI .i64 7), (10, vI .i64 (i : Int))]) (fun i => [some (mpK (formE.take (12 + i)))]) (fun i => i ≤ 7) (fun i => 7 - i) 0 (Nat.zero_le _) ?_ ?_
  · exact fun h => sat_le h hC hCl ⟨⟨_, rfl, .refl _⟩, ⟨_, rfl, .refl _⟩, ⟨_, rfl, .refl _⟩, ⟨_, rfl, .refl _⟩, trivial⟩ ⟨.refl _, trivial⟩ rfl (refs_f 1 (12 + 0)) (Nat.zero_le _)
  rintro i hki ihi
  refine sat_branch tabOk Tryz.func25 rfl trivial (fun hb => ?_) (fun hb => ?_)
  · have hb : decide ((i : Int) < 7) = true := hb
    rw [decide_eq_true_eq] at hb
    have hlt : i < 7 := by omega
    have hput := formE_put (12 + i) (by omega)
    rw [ones_at i hlt] at hput
    refine sat_steps 13 tabOk Tryz.func25 rfl ?nd ?_
    case nd => exact ⟨⟨by omega, by show (i : Int) < ((7 : Nat) : Int); omega⟩, trivial⟩
    refine sat_update tabOk rfl rfl rfl rfl rfl rfl rfl rfl rfl rfl rfl rfl (keys_0 _) hput ?_
    refine sat_stop tabOk Tryz.func25 rfl trivial ?_
    exact sat_le (ihi (i + 1) (by omega) (by omega)) hC hCl ⟨⟨_, rfl, .refl _⟩, ⟨_, rfl, .refl _⟩, ⟨_, rfl, .refl _⟩, ⟨_, rfl, .of (by rw [wrap_id (by omega) (by omega)]; rfl)⟩, trivial⟩ ⟨.refl _, trivial⟩ rfl (refs_f 1 (12 + (i + 1))) (Nat.zero_le _)
  have hb : decide ((i : Int) < 7) = false := hb
  rw [decide_eq_false_iff_not] at hb
  obtain rfl : i = 7 := by omega
  refine sat_call tabOk Tryz.func25 rfl trivial (Fields_call sTwos (by decide) (by decide) (by decide)) (.refl _) rfl ⟨_, rfl⟩ (by rintro r o rfl; rfl) ?_
  rintro _ o rfl
  rw [fields_twos, show [kAnd, kOr, kXor, kAdd, kSub, kMul, kUdiv, kUrem, kSll, kSrl, kSra, kEq, kUlt, kSlt, kConcat] = twosL from rfl]
  refine sat_stop tabOk Tryz.func25 rfl trivial ?_
  refine sat_while (α := Nat) (fun i => [(1, .mp 0), (17, .d (eSs twosL)), (18, vI .i64 15), (19, vI .i64 (i : Int))]) (fun i => [some (mpK (formE.take (19 + i)))]) (fun i => i ≤ 15) (fun i => 15 - i) 0 (Nat.zero_le _) ?_ ?_
  · exact fun h => sat_le h hC hCl ⟨⟨_, rfl, .refl _⟩, ⟨_, rfl, .refl _⟩, ⟨_, rfl, .refl _⟩, ⟨_, rfl, .refl _⟩, trivial⟩ ⟨.refl _, trivial⟩ rfl (refs_f 1 (19 + 0)) (Nat.zero_le _)
  rintro j hkj ihj
  refine sat_branch tabOk Tryz.func25 rfl trivial (fun hb => ?_) (fun hb => ?_)
  · have hb : decide ((j : Int) < 15) = true := hb
    rw [decide_eq_true_eq] at hb
    have hlt : j < 15 := by omega
    have hput := formE_put (19 + j) (by omega)
    rw [twos_at j hlt] at hput
    refine sat_steps 13 tabOk Tryz.func25 rfl ?nd ?_
    case nd => exact ⟨⟨by omega, by show (j : Int) < ((15 : Nat) : Int); omega⟩, trivial⟩
    refine sat_update tabOk rfl rfl rfl rfl rfl rfl rfl rfl rfl rfl rfl rfl (keys_0 _) hput ?_
    refine sat_stop tabOk Tryz.func25 rfl trivial ?_
    exact sat_le (ihj (j + 1) (by omega) (by omega)) hC hCl ⟨⟨_, rfl, .refl _⟩, ⟨_, rfl, .refl _⟩, ⟨_, rfl, .refl _⟩, ⟨_, rfl, .of (by rw [wrap_id (by omega) (by omega)]; rfl)⟩, trivial⟩ ⟨.refl _, trivial⟩ rfl (refs_f 1 (19 + (j + 1))) (Nat.zero_le _)
  have hb : decide ((j : Int) < 15) = false := hb
  rw [decide_eq_false_iff_not] at hb
  obtain rfl : j = 15 := by omega
  exact sat_ret tabOk Tryz.func25 rfl trivial ⟨rfl, rfl⟩
end Go.Proofs.YtjjlipbddlignaaGreatDoor
namespace Go.Proofs.YtjjlipbddlignaaGreatDoor
open Go Ab Go.RowKit
set_option maxRecDepth 100000
set_option linter.unusedVariables false
set_option linter.unusedSimpArgs false
set_option maxHeartbeats 4000000

theorem assoc_form (op : List UInt8) : assocK op formE = if (formR op).2 = true then some (vTx (formR op).1) else none := by
  unfold formR
  iterate 34 (refine iteInduction (motive := fun q : List UInt8 × Bool => assocK op formE = if q.2 = true then some (vTx q.1) else none) (fun e => by subst e; rfl) (fun _ => ?_))
  simp only [assocK, formE, formK, List.map_cons, List.map_nil]
  iterate 34 (rw [if_neg (fun e => by subst e; contradiction)])
  rfl
theorem pForm_call (op : List UInt8) : ACall Tryz.prog 12 [vTx op] [] (fun r o => r = tupOf [vTx (formR op).1, vB (formR op).2]) := by
  refine acall_enter Tryz.func12 rfl rfl (Nat.le_of_ble_eq_true rfl) fun C hC hCl hDs hGk => ?_
  refine sat_callG [] tabOk Tryz.func12 rfl trivial forms_call trivial (.refl _) rfl rfl rfl ⟨_, rfl⟩ ?_
  rintro r o ⟨rfl, rfl⟩
  refine sat_steps 1 tabOk Tryz.func12 rfl trivial ?_
  have ha := assoc_form op
  have hz : (formR op).2 = false → (formR op).1 = [] := fun h => by
    rcases form_cases op with ⟨_, e⟩ | ⟨e, _⟩
    · exact e
    · rw [h] at e
      cases e
  have hf := mfind_assoc op (rho [] 0) formE
  rw [ha] at hf
  cases hb : (formR op).2 with
  | true =>
    rw [hb, if_pos rfl] at hf
    refine sat_lookup (a := some (vTx (formR op).1)) (es := renEs (rho [] 0) (formE.map fun p => (strK p.1, p.2))) (key := strK op) tabOk rfl rfl rfl rfl rfl rfl rfl rfl rfl rfl rfl (keys_str _ _) hf rfl ?_
    exact sat_ret tabOk Tryz.func12 rfl trivial rfl
  | false =>
    rw [hb, if_neg (by simp)] at hf
    rw [hz hb]
    refine sat_lookup (a := none) (es := renEs (rho [] 0) (formE.map fun p => (strK p.1, p.2))) (key := strK op) tabOk rfl rfl rfl rfl rfl rfl rfl rfl rfl rfl rfl (keys_str _ _) hf rfl ?_
    exact sat_ret tabOk Tryz.func12 rfl trivial rfl
end Go.Proofs.YtjjlipbddlignaaGreatDoor
namespace Go.Proofs.YtjjlipbddlignaaGreatDoor
open Go Ab
set_option linter.unusedVariables false

@[reducible] def vSL (l : List UInt8) : AV := vS ⟨l.toArray⟩
theorem bt_list (l : List UInt8) (i : Nat) : bt ⟨l.toArray⟩ i = ((l.getD i 0).toNat : Int) := by
  simp [bt]
theorem ext_list (l : List UInt8) (a b : Nat) : (⟨l.toArray⟩ : ByteArray).extract a b = ⟨((l.take b).drop a).toArray⟩ := by
  apply ByteArray.ext
  rw [ByteArray.data_extract]
  apply Array.ext'
  simp [List.drop_take]
theorem size_list (l : List UInt8) : (⟨l.toArray⟩ : ByteArray).size = l.length := by simp [ByteArray.size]
end Go.Proofs.YtjjlipbddlignaaGreatDoor
