/- A part of the proof: Ab67, Ab68, Y6a, Y6. -/
import Derived.Test.YtcenfhcemmlaeaaGreatDoorP19
set_option linter.unusedVariables false
set_option linter.unusedSimpArgs false
set_option linter.unusedSimpArgs false
set_option linter.unusedVariables false
namespace Ab
open Go
section
variable {P : Program} {T : Tab} {f : FuncId} {fn : Func} {n m : Nat} {C : Cx} {R : AV → List (Option AObj) → Prop} {todo todo' k : List Item} {env env0 env' envF : Env} {objs objs' : List (Option AObj)} {nd : Prop} {ops : Array Oper} {l : List Oper} {K : Env → Prop} {X : Nat → Prop}

def memB (L : List Nat) (q : Nat) : Bool := L.any fun a => Nat.beq a q
/-- Is a temporary dead, when so much is done? It dies with the operation that is named beside it. -/
def dyB (DL : List (Tmp × Nat)) (L : List Nat) (t : Tmp) : Bool := DL.any fun x => Nat.beq x.1 t && memB L x.2
theorem memB_iff {L : List Nat} {q : Nat} : memB L q = true ↔ q ∈ L := by
  unfold memB
  rw [List.any_eq_true]
  exact ⟨fun ⟨a, h1, h2⟩ => (Nat.eq_of_beq_eq_true h2) ▸ h1, fun h => ⟨q, h, by simp⟩⟩
theorem dyB_no {DL : List (Tmp × Nat)} {L : List Nat} {t : Tmp} (h : ∀ x ∈ DL, x.1 ≠ t) : dyB DL L t = false := by
  unfold dyB
  rw [List.any_eq_false]
  intro x hx
  have := h x hx
  simp [this]
theorem dyB_cons {DL : List (Tmp × Nat)} {L : List Nat} {j : Nat} {t : Tmp} (h : dyB DL (j :: L) t = false) : dyB DL L t = false := by
  unfold dyB at h ⊢
  rw [List.any_eq_false] at h ⊢
  intro x hx h2
  refine h x hx ?_
  rw [Bool.and_eq_true] at h2 ⊢
  exact ⟨h2.1, memB_iff.2 (List.mem_cons_of_mem _ (memB_iff.1 h2.2))⟩
/-- A temporary that dies is told in the head, and looked at by none but the operation with which it dies. -/
def dyOk (ops : Array Oper) (m : Nat) (DL : List (Tmp × Nat)) : Bool := DL.all fun x => ((List.range m).any fun j => dstIs ops j x.1) && (List.range m).all fun j => Nat.beq j x.2 || (match ops[j]? with | some o => !(o.looksAt ops).contains x.1 | none => true)
theorem dy_looks {DL : List (Tmp × Nat)} {L : List Nat} {i : Nat} {o : Oper} {u : Tmp} (h : dyOk ops m DL = true) (hi : i < m) (ho : ops[i]? = some o) (hu : u ∈ o.looksAt ops) (hiL : i ∉ L) : dyB DL L u = false := by
  unfold dyB
  rw [List.any_eq_false]
  intro x hx h2
  rw [Bool.and_eq_true] at h2
  obtain rfl : x.1 = u := Nat.eq_of_beq_eq_true h2.1
  have h3 := List.all_eq_true.1 h x hx
  rw [Bool.and_eq_true] at h3
  have h4 := List.all_eq_true.1 h3.2 i (List.mem_range.2 hi)
  rw [ho, Bool.or_eq_true] at h4
  rcases h4 with h4 | h4
  · obtain rfl : i = x.2 := Nat.eq_of_beq_eq_true h4
    exact hiL (memB_iff.1 h2.2)
  · have : (o.looksAt ops).contains x.1 = true := List.contains_iff_mem.2 hu
    simp only [this, Bool.not_true] at h4
    cases h4
theorem dy_rest {DL : List (Tmp × Nat)} {u : Tmp} (h : dyOk ops m DL = true) (hu : ∀ j, j < m → dstIs ops j u = false) (L : List Nat) : dyB DL L u = false := dyB_no fun x hx e => by
  have h3 := List.all_eq_true.1 h x hx
  rw [Bool.and_eq_true] at h3
  obtain ⟨j, hj, hd⟩ := List.any_eq_true.1 h3.1
  rw [e, hu j (List.mem_range.1 hj)] at hd
  cases hd
structure StepK (C : Cx) (O : List Nat → List (Option AObj)) (envF : Env) (DL : List (Tmp × Nat)) (L : List Nat) (j : Nat) (π : List Value) (w : World) (π' : List Value) (w2 : World) : Prop where
  mem : Mem C.X π' (O (j :: L)) w2
  hist : Hist C.π C.objs C.w π (O L) w → Hist C.π C.objs C.w π' (O (j :: L)) w2
  keep : ∀ t a v, look envF t = some a → dyB DL (j :: L) t = false → RelV w (okOf C.X π (O L)) π a v → RelV w2 (okOf C.X π' (O (j :: L))) π' a v
/-- What an operation does, whenever it is come to, whatever acted ahead of it. -/
def HeadK (P : Program) (n : Nat) (C : Cx) (O : List Nat → List (Option AObj)) (m : Nat) (ops : Array Oper) (envF : Env) (DL : List (Tmp × Nat)) (j : Nat) (o : Oper) : Prop :=
  ∀ L, (∀ q ∈ L, q < m) → j ∉ L → (∀ q, waitsB ops j q = true → q ∈ L) → (∀ q ∈ L, ∀ q', waitsB ops q q' = true → q' ∈ L) → ∀ π w tmps, tmps.size = n → Mem C.X π (O L) w → (∀ t ∈ o.looksAt ops, ∀ a, look envF t = some a → RelV w (okOf C.X π (O L)) π a (tmps.getD t undef)) →
    (Region.wanted o (yielded ops tmps) = false ∧ ∃ π', StepK C O envF DL L j π w π' w ∧ PutOk n w (okOf C.X π' (O (j :: L))) π' envF o undef) ∨
    (Region.wanted o (yielded ops tmps) = true ∧
      ((∃ v w2 π', (execOp (Act.eval ⟨tmps, []⟩) o).run P w = .ok (.value v) w2 ∧ StepK C O envF DL L j π w π' w2 ∧ PutOk n w2 (okOf C.X π' (O (j :: L))) π' envF o v) ∨
       (∃ w2 π', (execOp (Act.eval ⟨tmps, []⟩) o).run P w = .ok .skip w2 ∧ StepK C O envF DL L j π w π' w2 ∧ PutOk n w2 (okOf C.X π' (O (j :: L))) π' envF o undef) ∨
       (∃ g args, (execOp (Act.eval ⟨tmps, []⟩) o).run P w = .ok (.enter g args) w ∧ Calls P g args w fun e w2 => ∃ v π', e = .returned v ∧ StepK C O envF DL L j π w π' w2 ∧ PutOk n w2 (okOf C.X π' (O (j :: L))) π' envF o v)))
theorem HeadH.toK {O : List Nat → List (Option AObj)} {j : Nat} {o : Oper} (DL : List (Tmp × Nat)) (h : HeadH P n C O m ops envF j o) : HeadK P n C O m ops envF DL j o := by
  have st : ∀ {L : List Nat} {π π' : List Value} {w w2 : World}, StepH C O L j π w π' w2 → StepK C O envF DL L j π w π' w2 := fun s => ⟨s.mem, s.hist, fun t a v _ _ hv => s.keep a v hv⟩
  intro L a1 a2 a3 a4 π w tmps hs hm hl
  rcases h L a1 a2 a3 a4 π w tmps hs hm hl with ⟨hw, π', hst, hp⟩ | ⟨hw, ⟨v, w2, π', hr, hst, hp⟩ | ⟨w2, π', hr, hst, hp⟩ | ⟨g, args, hr, hc⟩⟩
  · exact .inl ⟨hw, π', st hst, hp⟩
  · exact .inr ⟨hw, .inl ⟨v, w2, π', hr, st hst, hp⟩⟩
  · exact .inr ⟨hw, .inr (.inl ⟨w2, π', hr, st hst, hp⟩)⟩
  · exact .inr ⟨hw, .inr (.inr ⟨g, args, hr, hc.mono fun e w2 ⟨v, π', b1, b2, b3⟩ => ⟨v, π', b1, st b2, b3⟩⟩)⟩

theorem drawn_soundK {O : List Nat → List (Option AObj)} {objsF : List (Option AObj)} {DL : List (Tmp × Nat)} {envG : Env} (hmx : P.follows .mixedOrders = true) (hB : drawZ ops m = true) (hops : ∀ j o, j < m → ops[j]? = some o → HeadK P n C O m ops envF DL j o) (hdy : dyOk ops m DL = true) (hG : ∀ u a, look envG u = some a → look envF u = some a ∧ ∀ x ∈ DL, x.1 ≠ u)
    (hO0 : O [] = objs) (hOF : ∀ L, (∀ i, i < m → i ∈ L) → O L = objsF)
    (henv : ∀ t, (∀ j, j < m → dstIs ops j t = false) → ∀ a, look envF t = some a → ∃ b, look env0 t = some b ∧ VLe b a)
    (hK : ASat P f n C (.inRegion ops (List.range' m (ops.size - m)) :: k) envG objsF R) {id : Nat} : ASat P f n C (.code (.region id ops true) :: k) env0 objs R := by
  obtain ⟨hms, hback, hsc, hap⟩ : m ≤ ops.size ∧ backB ops = true ∧ (m < ops.size → sinkTB ops m = true ∧ chainTB ops m = true) ∧ apartB ops m = true := by
    simp only [drawZ, drawB, Bool.or_eq_true, Bool.and_eq_true, decide_eq_true_eq] at hB
    rcases hB with ⟨⟨⟨⟨h1, h2⟩, h3⟩, h4⟩, h5⟩ | ⟨⟨h1, h2⟩, h5⟩
    · exact ⟨by omega, h2, fun _ => ⟨h3, h4⟩, h5⟩
    · exact ⟨by omega, h2, fun h => by omega, h5⟩
  have hap : ∀ j o, j < m → ops[j]? = some o → (∀ k, k < m → k ≠ j → ∀ d, o.dst = some d → dstIs ops k d = false) ∧ ∀ k, k < m → ∀ t ∈ o.looksAt ops, dstIs ops k t = true → waitsB ops j k = true := by
    intro j o hj ho
    have h1 := List.all_eq_true.1 hap j (List.mem_range.2 hj)
    rw [ho] at h1
    have h2 : ∀ k, k < m → ((decide (k = j) || dstFree ops o k) = true ∧ (o.looksAt ops).all (fun t => !dstIs ops k t || waitsB ops j k) = true) := fun k hk => by
      have := List.all_eq_true.1 h1 k (List.mem_range.2 hk)
      simpa only [Bool.and_eq_true] using this
    refine ⟨fun k hk hne d hd => ?_, fun k hk t ht hd => ?_⟩
    · have := (h2 k hk).1
      unfold dstFree at this
      rw [hd] at this
      simpa [hne] using this
    · have := List.all_eq_true.1 (h2 k hk).2 t ht
      simpa [hd] using this
  intro π w tmps0 hn hm hh he
  have hl1 : Later w { w with drawn := w.drawn + 1 } := ⟨rfl, rfl, ⟨rfl, dr_le _ _⟩, Nat.le_refl _, fun _ _ => rfl⟩
  have htr1 := hl1.tr hm
  have key : ∀ (fuel t : Nat) (listed : Array Bool) (L : List Nat) (tmps : Array Value) (w' : World) (π : List Value), Lst ops m L listed → L.length + fuel = ops.size → Mem C.X π (O L) w' → Hist C.π C.objs C.w π (O L) w' → tmps.size = n →
      (∀ j ∈ L, ∀ o, ops[j]? = some o → ∀ d, o.dst = some d → dyB DL L d = false → ∃ b, look envF d = some b ∧ RelV w' (okOf C.X π (O L)) π b (tmps.getD d undef)) →
      (∀ t, (∀ j, j < m → dstIs ops j t = false) → ∀ a, look envF t = some a → RelV w' (okOf C.X π (O L)) π a (tmps.getD t undef)) →
      Sat P f C.ds (.inRegion ops (Region.linearise.go .any ops fuel t listed []) :: k) tmps w' (APost C R) := by
    have fin : ∀ (L : List Nat) (tmps : Array Value) (w' : World) (π : List Value), (∀ i, i < m → i ∈ L) → Mem C.X π (O L) w' → Hist C.π C.objs C.w π (O L) w' → tmps.size = n →
        (∀ j ∈ L, ∀ o, ops[j]? = some o → ∀ d, o.dst = some d → dyB DL L d = false → ∃ b, look envF d = some b ∧ RelV w' (okOf C.X π (O L)) π b (tmps.getD d undef)) →
        (∀ t, (∀ j, j < m → dstIs ops j t = false) → ∀ a, look envF t = some a → RelV w' (okOf C.X π (O L)) π a (tmps.getD t undef)) →
        Sat P f C.ds (.inRegion ops (List.range' m (ops.size - m)) :: k) tmps w' (APost C R) := by
      intro L tmps w' π hall hm hh hsz hdone hrest
      rw [hOF L hall] at hm hh hdone hrest
      refine hK π w' tmps hsz hm hh fun u a hu0 => ?_
      obtain ⟨hu, hud⟩ := hG u a hu0
      by_cases hd : ∃ j, j < m ∧ dstIs ops j u = true
      · obtain ⟨j, hj, hd⟩ := hd
        obtain ⟨o, ho, hdo⟩ := dstIs_iff.1 hd
        obtain ⟨b, hb, hr⟩ := hdone j (hall j hj) o ho u hdo (dyB_no hud)
        rw [hu] at hb
        cases hb
        exact hr
      · have hd' : ∀ j, j < m → dstIs ops j u = false := fun j hj => by
          cases hx : dstIs ops j u with
          | false => rfl
          | true => exact absurd ⟨j, hj, hx⟩ hd
        exact hrest u hd' a hu
    intro fuel
    induction fuel with
    | zero =>
      intro t listed L tmps w' π hL hlen hm hh hsz hdone hrest
      have hLm := nodup_le hL.nd (b := List.range m) fun y hy => List.mem_range.2 (hL.lt y hy)
      rw [List.length_range] at hLm
      have hall : ∀ i, i < m → i ∈ L := fun i hi => by
        apply Classical.byContradiction
        intro hiL
        have := nodup_le (List.nodup_cons.2 ⟨hiL, hL.nd⟩) (b := List.range m) fun y hy => by
          rcases List.mem_cons.1 hy with rfl | hy
          · exact List.mem_range.2 hi
          · exact List.mem_range.2 (hL.lt y hy)
        rw [List.length_range, List.length_cons] at this
        omega
      have := fin L tmps w' π hall hm hh hsz hdone hrest
      rw [show ops.size - m = 0 by omega] at this
      simpa [Region.linearise.go] using this
    | succ fuel ih =>
      intro t listed L tmps w' π hL hlen hm hh hsz hdone hrest
      have hLm := nodup_le hL.nd (b := List.range m) fun y hy => List.mem_range.2 (hL.lt y hy)
      rw [List.length_range] at hLm
      by_cases hall : ∀ i, i < m → i ∈ L
      · have hml := nodup_le (List.nodup_range (n := m)) (b := L) fun y hy => hall y (List.mem_range.1 hy)
        rw [List.length_range] at hml
        have hfu : fuel + 1 = ops.size - m := by omega
        obtain ⟨hsink, hchain⟩ := hsc (by omega)
        rw [hfu]
        have hg := go_chain hback hchain (ops.size - m) t listed (.inl (by omega)) (by omega) hL.size (fun i hi => by
          rw [hL.mem i hi, show ops.size - (ops.size - m) = m by omega]
          exact ⟨fun h => hL.lt i h, fun h => hall i h⟩)
        rw [hg, show ops.size - (ops.size - m) = m by omega]
        exact fin L tmps w' π hall hm hh hsz hdone hrest
      · have hex : ∃ i, i ∈ Region.ready .any ops listed := by
          have hmin : ∀ q i, i ≤ q → i < m → i ∉ L → ∃ j, j < m ∧ j ∉ L ∧ ∀ j', j' < j → j' ∈ L := by
            intro q
            induction q with
            | zero => intro i hi hm hL; exact ⟨i, hm, hL, by omega⟩
            | succ q ihq =>
              intro i hi him hiL
              by_cases hx : ∃ j', j' < i ∧ j' ∉ L
              · obtain ⟨j', h1, h2⟩ := hx
                exact ihq j' (by omega) (by omega) h2
              · exact ⟨i, him, hiL, fun j' hj' => Decidable.byContradiction fun h2 => hx ⟨j', hj', h2⟩⟩
          obtain ⟨i, hi⟩ := Classical.not_forall.1 hall
          have hi1 : i < m := Classical.byContradiction fun h => hi fun h2 => absurd h2 h
          have hi2 : i ∉ L := fun h => hi fun _ => h
          obtain ⟨j, h1, h2, h3⟩ := hmin i i (Nat.le_refl _) hi1 hi2
          refine ⟨j, (ready_iff (by omega) hL).2 ⟨by omega, h2, ops[j], Array.getElem?_eq_getElem (by omega), fun e hee hb => ?_⟩⟩
          have hlt := backB_spec hback (Array.getElem?_eq_getElem (by omega : j < ops.size)) hee hb
          exact (hL.mem e.on (by omega)).2 (h3 e.on hlt)
        rw [go_succ]
        have hlen2 : 0 < (Region.ready .any ops listed).length := List.length_pos_of_mem hex.choose_spec
        have hmod : t % (Region.ready .any ops listed).length < (Region.ready .any ops listed).length := Nat.mod_lt _ hlen2
        rw [List.getElem?_eq_getElem hmod]
        simp only
        have hir : (Region.ready .any ops listed)[t % (Region.ready .any ops listed).length] ∈ Region.ready .any ops listed := List.getElem_mem hmod
        generalize (Region.ready .any ops listed)[t % (Region.ready .any ops listed).length] = i at hir
        have him : i < m := by
          apply Classical.byContradiction
          intro hge
          have hilt : i < ops.size := ((ready_iff (by omega) hL).1 hir).1
          obtain ⟨hsink, hchain⟩ := hsc (by omega)
          exact hall (all_listed (by omega) hsink hback hL (by omega) hchain hir).2
        obtain ⟨his, hiL, o, ho, hdeps⟩ := (ready_iff (by omega) hL).1 hir
        obtain ⟨ha1, ha2⟩ := hap i o him ho
        have hlooks : ∀ u ∈ o.looksAt ops, ∀ a, look envF u = some a → RelV w' (okOf C.X π (O L)) π a (tmps.getD u undef) := by
          intro u hu a hua
          by_cases hd : ∃ j, j < m ∧ dstIs ops j u = true
          · obtain ⟨j, hj, hd⟩ := hd
            have hw := ha2 j hj u hu hd
            obtain ⟨o2, ho2, e, hee, hb, heq⟩ := waitsB_spec hw
            rw [ho] at ho2
            cases ho2
            have hjL := listed_of hL (hdeps e hee hb)
            rw [heq] at hjL
            obtain ⟨oj, hoj, hdj⟩ := dstIs_iff.1 hd
            obtain ⟨b, hb2, hr⟩ := hdone j hjL oj hoj u hdj (dy_looks hdy him ho hu hiL)
            rw [hua] at hb2
            cases hb2
            exact hr
          · have hd' : ∀ j, j < m → dstIs ops j u = false := fun j hj => by
              cases hx : dstIs ops j u with
              | false => rfl
              | true => exact absurd ⟨j, hj, hx⟩ hd
            exact hrest u hd' a hua
        have hL' : Lst ops m (i :: L) (listed.setIfInBounds i true) := by
          refine ⟨by simpa using hL.size, fun j hj => ?_, List.nodup_cons.2 ⟨hiL, hL.nd⟩, fun j hj => ?_, fun j hj oj hoj e hee hb => ?_⟩
          · by_cases e : i = j
            · subst e
              rw [show (listed.setIfInBounds i true).getD i false = true by simp [hL.size, hj]]
              simp
            · rw [show (listed.setIfInBounds i true).getD j false = listed.getD j false by simp [Array.getElem?_setIfInBounds, e]]
              rw [hL.mem j hj, List.mem_cons]
              exact ⟨.inr, fun h => h.resolve_left fun h2 => e h2.symm⟩
          · rcases List.mem_cons.1 hj with rfl | hj
            · exact him
            · exact hL.lt j hj
          · rcases List.mem_cons.1 hj with rfl | hj
            · rw [ho] at hoj
              cases hoj
              exact List.mem_cons_of_mem _ (listed_of hL (hdeps e hee hb))
            · exact List.mem_cons_of_mem _ (hL.cl j hj oj hoj e hee hb)
        have hdeps2 : ∀ q, waitsB ops i q = true → q ∈ L := by
          intro q hq
          obtain ⟨o2, ho2, e, hee, hb, heq⟩ := waitsB_spec hq
          rw [ho] at ho2
          cases ho2
          rw [← heq]
          exact listed_of hL (hdeps e hee hb)
        have hcl2 : ∀ q ∈ L, ∀ q', waitsB ops q q' = true → q' ∈ L := by
          intro q hqL q' hq
          obtain ⟨o2, ho2, e, hee, hb, heq⟩ := waitsB_spec hq
          rw [← heq]
          exact hL.cl q hqL o2 ho2 e hee hb
        have next : ∀ (v : Value) (w2 : World) (π' : List Value), StepK C O envF DL L i π w' π' w2 → PutOk n w2 (okOf C.X π' (O (i :: L))) π' envF o v → Sat P f C.ds (.inRegion ops (Region.linearise.go .any ops fuel (t / (Region.ready .any ops listed).length) (listed.setIfInBounds i true) []) :: k) (putT o.dst v tmps) w2 (APost C R) := by
          intro v w2 π' hst hput
          refine ih _ _ (i :: L) _ w2 π' hL' (by simp only [List.length_cons]; omega) hst.mem (hst.hist hh) ?_ ?_ ?_
          · cases hd : o.dst with
            | none => exact hsz
            | some d => simpa [putT] using hsz
          · intro j hj0 oj hoj d hd hdyn
            rcases List.mem_cons.1 hj0 with e | hj
            · subst e
              rw [ho] at hoj
              cases hoj
              obtain ⟨h1, b, h2, h3⟩ := hput d hd
              refine ⟨b, h2, ?_⟩
              rw [hd, getD_putT, if_pos ⟨rfl, by rw [hsz]; exact h1⟩]
              exact h3
            · obtain ⟨b, h2, h3⟩ := hdone j hj oj hoj d hd (dyB_cons hdyn)
              refine ⟨b, h2, ?_⟩
              have hne : ∀ d', o.dst = some d' → d' ≠ d := by
                rintro d' hd' rfl
                have := ha1 j (hL.lt j hj) (fun e => hiL (e ▸ hj)) d' hd'
                rw [dstIs_iff.2 ⟨oj, hoj, hd⟩] at this
                cases this
              cases hdo : o.dst with
              | none => exact hst.keep _ _ _ h2 hdyn h3
              | some d' =>
                rw [getD_putT, if_neg fun hh => hne d' hdo hh.1]
                exact hst.keep _ _ _ h2 hdyn h3
          · intro u hu a hua
            have h3 := hst.keep _ _ _ hua (dy_rest hdy hu _) (hrest u hu a hua)
            cases hdo : o.dst with
            | none => exact h3
            | some d' =>
              rw [getD_putT, if_neg fun hh => ?_]
              · exact h3
              · have := hu i him
                rw [dstIs_iff.2 ⟨o, ho, by rw [hdo, hh.1]⟩] at this
                cases this
        rcases hops i o him ho L (fun q hq => hL.lt q hq) hiL hdeps2 hcl2 π w' tmps hsz hm hlooks with ⟨hw, hput⟩ | ⟨hw, ⟨v, w2, π', hrun, hst, hput⟩ | ⟨w2, π', hrun, hst, hput⟩ | ⟨g, args, hrun, hcall⟩⟩
        · obtain ⟨π', hst, hput⟩ := hput
          exact .opSkip ho hw (next undef w' π' hst hput)
        · exact .opVal ho hw hrun (next v w2 π' hst hput)
        · exact .opUnit ho hw hrun (next undef w2 π' hst hput)
        · exact .opCall ho hw hrun (hcall.mono fun e w2 ⟨v, π', h1, h2, h3⟩ => ⟨v, h1, next v w2 π' h2 h3⟩)
  refine .step (fun cs => step_region_draw) ?_
  simp only [Region.schedule, hmx, Bool.true_or, if_true]
  subst hO0
  refine key ops.size _ _ [] tmps0 _ π ⟨by simp, fun i hi => ?_, List.nodup_nil, by simp, by simp⟩ (by simp) htr1.mem (hist_tr hh htr1) hn (by simp) (fun u hu a hua => ?_)
  · simp [hi]
  · obtain ⟨b, hb, hle⟩ := henv u hu a hua
    exact rel_later hl1 (hle _ _ _ _ (he u b hb))
end
end Ab
set_option linter.unusedSimpArgs false
set_option linter.unusedVariables false
namespace Ab
open Go
theorem fill_keeps {X : Nat → Prop} {π : List Value} {objs : List (Option AObj)} {w w' : World} (m : Mem X π objs w) {p : Nat} (hp : nth objs p = some (some HD)) (hw : ∀ b, b < w.heap.size → w'.heap[b]? = w.heap[b]?) (h : Value) (o : AObj) (hh : ∀ b, blk h = some b → w.heap.size ≤ b) :
    Keeps w (okOf X π objs) w' (okOf X (setNth π p h) (setNth objs p (some o))) := by
  intro b off u h1 h2
  have hb : b < w.heap.size := cell_lt h2
  refine ⟨⟨h1.1, fun i o' h' a1 a2 hc => ?_⟩, ?_⟩
  · rw [nth_setIf] at a1 a2
    by_cases e : p = i
    · rw [if_pos e] at a2
      split at a2
      · cases a2
        have := hh _ hc
        omega
      · cases a2
    · rw [if_neg e] at a1 a2
      exact h1.2 i o' h' a1 a2 hc
  · unfold World.cell? at h2 ⊢
    rw [hw b hb]
    exact h2
section
variable {P : Program} {T : Tab} {f : FuncId} {fn : Func} {n m : Nat} {C : Cx} {R : AV → List (Option AObj) → Prop} {todo todo' k : List Item} {env env0 env' envF : Env} {objs objs' : List (Option AObj)} {nd : Prop} {ops : Array Oper} {l : List Oper} {K : Env → Prop} {X : Nat → Prop}

/-- What is read is copied into a slice of the call's own. -/
theorem headH_app0 {O : List Nat → List (Option AObj)} {j p d s0 : Nat} {o : Oper} {t t2 e e2 : TypeId} {rest : List TypeId} {so xo : Operand} {x : AV} {E : Env} {r re r2 : TRow} {ys : List D} {rd2 : Nat → D} (hT : TabOk P T)
    (hw : wantE ops (restr E (o.looksAt ops)) o = .yes) (hE : ∀ t ∈ o.looksAt ops, ∀ b, look E t = some b → look envF t = some b) (hop : o.op = .call { callee := .builtin .append, args := ⟨[so, xo]⟩, argTypes := ⟨t :: t2 :: rest⟩ })
    (hs : opnd (restr E (o.looksAt ops)) so = some (.e0 s0)) (hx : opnd (restr E (o.looksAt ops)) xo = some x) (hel : ∀ L, elemsOf (O L) re.size x = some (ys, rd2))
    (h1 : tlook T t = some r) (h2 : r.kd = .slice e) (h3 : tlook T e = some re) (h4 : tlook T t2 = some r2) (h5 : r2.kd = .slice e2) (hb0 : Nat.beq re.bytes 0 = false) (hroom : ys.length * re.bytes ≤ 140737488355328)
    (hdst : o.dst = some d) (hdn : Nat.blt d n = true) (hlook : look envF d = some (.gs p)) (hple : C.π.length ≤ p)
    (hO0 : ∀ L, j ∉ L → (∀ q ∈ L, ∀ q', waitsB ops q q' = true → q' ∈ L) → nth (O L) p = some (some HD))
    (hO : ∀ L, j ∉ L → (∀ q ∈ L, ∀ q', waitsB ops q q' = true → q' ∈ L) → O (j :: L) = setNth (O L) p (some (.grow e re.size ys rd2))) : HeadH P n C O m ops envF j o := by
  intro L _ hjL _ hcl π w tmps hsz hm hlk
  have he : EnvRel w (okOf C.X π (O L)) π (restr E (o.looksAt ops)) tmps := fun t b ht => by
    obtain ⟨a1, a2⟩ := look_restr ht
    exact hlk t a1 b (hE t a1 b a2)
  have hsv := opnd_rel (ds := []) he hs
  have hxv := opnd_rel (ds := []) he hx
  obtain ⟨A, hA⟩ : ∃ A, Act.eval ⟨tmps, []⟩ so = .slice A 0 0 := by
    revert hsv
    generalize Act.eval ⟨tmps, []⟩ so = v
    intro h
    cases h
    exact ⟨_, rfl⟩
  obtain ⟨A2, c2, us, hX, hEl, hload, hrd2⟩ := elems_rel (P := P) hm (hel L) hxv
  rw [hX] at hload
  have ht := slice_elem hT h1 h2
  have ht2 := slice_elem hT h4 h5
  obtain ⟨inf, dd0, hi, hd0, hisz, hby, hz0, _⟩ := (tab_row hT h3).ex
  obtain ⟨z, hzr, hzc, hzf, _, _⟩ := (tab_row hT h3).zero
  have hzl : z.cells.size = re.size := by
    have := (tab_row hT h3).zl
    rw [← hzc] at this
    simpa using this
  have hz : inf.zero = some z := by
    have := hzr w
    simp only [zeroValue, Sem.run_bind, run_typeInfo w hi, Result.andThen_ok] at this
    cases h : inf.zero with
    | none => rw [h] at this; simp [unsupported, Sem.run] at this
    | some z' => rw [h] at this; simp at this; rw [this]
  have hb0' : inf.bytes ≠ 0 := by
    rw [hby]
    intro e
    rw [e] at hb0
    cases hb0
  have hml : maxLen = 9223372036854775807 := rfl
  have hbound : ys.length ≤ maxLen := by
    have : ys.length * 1 ≤ ys.length * re.bytes := Nat.mul_le_mul_left _ (by rw [← hby]; omega)
    omega
  have hexec : ∀ {v : Value} {w2 : World}, (Builtin.append_ ⟨t :: t2 :: rest⟩ o.type #[.slice A 0 0, .slice A2 ys.length c2]).run P w = .ok v w2 → (execOp (Act.eval ⟨tmps, []⟩) o).run P w = .ok (.value v) w2 := by
    intro v w2 h
    unfold execOp
    simp only [hop]
    simp [resolve, invoke, builtin, hA, hX, h]
  have fin : ∀ (h : Value) (w2 : World), (∃ A n c, h = .slice A n c) → (execOp (Act.eval ⟨tmps, []⟩) o).run P w = .ok (.value h) w2 → w2.os = w.os → w2.tape = w.tape → (w2.output = w.output ∧ dr w ≤ dr w2) → w.heap.size ≤ w2.heap.size → (∀ b, b < w.heap.size → w2.heap[b]? = w.heap[b]?) →
      (∀ b, blk h = some b → w.heap.size ≤ b) → RelO w2 (okOf C.X (setNth π p h) (setNth (O L) p (some (.grow e re.size ys rd2)))) (setNth π p h) (.grow e re.size ys rd2) h →
      ∃ v w2 π', (execOp (Act.eval ⟨tmps, []⟩) o).run P w = .ok (.value v) w2 ∧ StepH C O L j π w π' w2 ∧ PutOk n w2 (okOf C.X π' (O (j :: L))) π' envF o v := by
    intro h w2 hsh hr a1 a2 a3 a4 a5 a6 a7
    have hpl : p < (O L).length := nth_lt (hO0 L hjL hcl)
    have hml : π.length = (O L).length := hm.len
    have hf := fill (w' := w2) hm (hO0 L hjL hcl) a1 a2 a3 a4 a5 h (.grow e re.size ys rd2) a6 a7
    refine ⟨h, w2, setNth π p h, hr, ⟨?_, ?_, ?_⟩, ?_⟩
    · rw [hO L hjL hcl]; exact hf.1
    · rw [hO L hjL hcl]; exact hf.2.1 hple
    · rw [hO L hjL hcl]; exact hf.2.2
    · intro d' hd'
      rw [hdst] at hd'
      cases hd'
      refine ⟨by simpa [Nat.blt_eq] using hdn, _, hlook, ?_⟩
      rw [hO L hjL hcl]
      have hpp : p < π.length := by omega
      obtain ⟨A', n', c', rfl⟩ := hsh
      exact .gs (by rw [nth_setIf, if_pos rfl, if_pos hpp])
  refine .inr ⟨(wanted_of he).1 hw, .inl ?_⟩
  by_cases h0 : ys.length = 0
  · have hy : ys = [] := List.eq_nil_of_length_eq_zero h0
    subst hy
    have hus : us = [] := by cases hEl; rfl
    subst hus
    have := run_append_in (P := P) (w := w) (w' := w) (ty := o.type) (rest := rest) ht ⟨_, ht2⟩ hi (A := A) (n := 0) (c := 0) (m := 0) (A2 := A2) (c2 := c2) (us := []) (by omega) (by rw [hisz]; exact hload w (Ext.refl w)) (by cases A <;> simp [storeCells])
    exact fin _ w ⟨_, _, _, rfl⟩ (hexec this) rfl rfl ⟨rfl, Nat.le_refl _⟩ (Nat.le_refl _) (fun _ _ => rfl) (by intro b e; cases A <;> cases e) .gnil
  · obtain ⟨cap, w1, q1, q2, q3, q4, q5, q6, q7⟩ := run_append_grow (P := P) (w := w) (ty := o.type) (rest := rest) ht ⟨_, ht2⟩ hi hz (A := A) (n := 0) (c := 0) (m := ys.length) (A2 := A2) (c2 := c2) (us1 := []) (us := us) (by omega) (by rw [hby, Nat.zero_add]; exact hroom) (by rw [Nat.zero_add]; exact hbound) hb0'
      (fun w' _ => by cases A <;> simp [Builtin.firstCells, loadCells, loadCellsFrom]) (fun w' hw => by rw [hisz]; exact hload w' hw)
    obtain ⟨cap', rfl⟩ : ∃ k, cap = k + 1 := ⟨cap - 1, by omega⟩
    simp only [List.nil_append, Nat.zero_add] at q7 q1
    have hh : ∀ b, blk (.slice (some ⟨w.heap.size, 0, none⟩) ys.length (cap' + 1)) = some b → w.heap.size ≤ b := by intro b e; cases e; exact Nat.le_refl _
    have hext : ∀ b, b < w.heap.size → (w1.alloc (.cells (us ++ (Builtin.zeroCells z.cells (cap' + 1 - ys.length)).toList).toArray e)).heap[b]? = w.heap[b]? := by
      intro b hb
      rw [alloc_heap, q3, Array.getElem?_push, if_neg (Nat.ne_of_lt hb)]
    have hk2 := fill_keeps (p := p) hm (hO0 L hjL hcl) hext (.slice (some ⟨w.heap.size, 0, none⟩) ys.length (cap' + 1)) (.grow e re.size ys rd2) hh
    exact fin _ _ ⟨_, _, _, rfl⟩ (hexec q7) q4 q5 q6 (by rw [alloc_heap, q3]; simp) hext hh (grow_new (P := P) hk2 q3 hEl rfl q1 q2 (by simp [zeroCells_len, hzl]) hrd2)

/-- A plain operation. -/
theorem headH_pure {O : List Nat → List (Option AObj)} {j : Nat} {o : Oper} {E : Env} {a : AV} {d : Nat} (hT : TabOk P T) (hw : wantE ops (restr E (o.looksAt ops)) o = .yes) (hE : ∀ t ∈ o.looksAt ops, ∀ b, look E t = some b → look envF t = some b)
    (hs : ∀ L, pstep T o (restr E (o.looksAt ops)) (O L) = .ok a) (hO : ∀ L, O (j :: L) = O L) (hdst : o.dst = some d) (hdn : Nat.blt d n = true) (hlook : look envF d = some a) : HeadH P n C O m ops envF j o := by
  refine headH_of (fun L => hO L) fun L => ?_
  intro π w tmps hsz hm hlk
  have he : EnvRel w (okOf C.X π (O L)) π (restr E (o.looksAt ops)) tmps := fun t b ht => by
    obtain ⟨h1, h2⟩ := look_restr ht
    exact hlk t h1 b (hE t h1 b h2)
  have hdo := pstep_ok (ds := []) hT hm he o
  rw [hs L] at hdo
  obtain ⟨v, d1, d2⟩ := hdo
  refine .inr ⟨(wanted_of he).1 hw, .inl ⟨v, w, d2 w (.refl w), .refl w, fun d' hd => ?_⟩⟩
  rw [hdst] at hd
  cases hd
  exact ⟨by simpa [Nat.blt_eq] using hdn, a, hlook, d1⟩

/-- A slice of the call's own is appended to, and read from then on: what told it dies. -/
theorem headK_eat {O O1 : List Nat → List (Option AObj)} {DL : List (Tmp × Nat)} {j p d s : Nat} {e : TypeId} {xs : List D} {rd : Nat → D} {o : Oper} {E : Env} {c : Option Prop} (hT : TabOk P T) (hw : wantE ops (restr E (o.looksAt ops)) o = .yes) (hE : ∀ t ∈ o.looksAt ops, ∀ b, look E t = some b → look envF t = some b)
    (hs : ∀ L, j ∉ L → (∀ q, waitsB ops j q = true → q ∈ L) → estep T o (restr E (o.looksAt ops)) (O L) = some ⟨c, false, .gs p, some p, O1 L⟩) (hc : cond c)
    (hg : ∀ L, j ∉ L → (∀ q, waitsB ops j q = true → q ∈ L) → nth (O1 L) p = some (some (.grow e s xs rd))) (hO : ∀ L, j ∉ L → (∀ q, waitsB ops j q = true → q ∈ L) → O (j :: L) = frzO p (.sl s xs rd) 0 (O1 L))
    (hfz : ∀ t a, look envF t = some a → dyB DL [j] t = false → (a.drop p).frz p (.sl s xs rd) = a)
    (hdst : o.dst = some d) (hdn : Nat.blt d n = true) (hlook : look envF d = some (.d (.sl s xs rd))) : HeadK P n C O m ops envF DL j o := by
  intro L _ hjL hdeps _ π w tmps hsz hm hlk
  have he : EnvRel w (okOf C.X π (O L)) π (restr E (o.looksAt ops)) tmps := fun t b ht => by
    obtain ⟨h1, h2⟩ := look_restr ht
    exact hlk t h1 b (hE t h1 b h2)
  have hst := estep_ok (ds := []) hT hm he o
  rw [hs L hjL hdeps] at hst
  obtain ⟨v, w', π', h1, h2, h3⟩ := hst hc
  have h3 := h3 rfl
  have fz : ∀ (a : AV) (u : Value), RelV w' (okOf C.X π' (O1 L)) π' a u → Mem C.X π' (frzO p (.sl s xs rd) 0 (O1 L)) w' ∧ Hist π' (O1 L) w' π' (frzO p (.sl s xs rd) 0 (O1 L)) w' ∧ RelV w' (okOf C.X π' (frzO p (.sl s xs rd) 0 (O1 L))) π' (a.frz p (.sl s xs rd)) u := by
    intro a u hu
    obtain ⟨q1, q2, _, q3⟩ := freeze_core (C := ⟨C.X, π', O1 L, w', []⟩) (env := []) (tmps := #[]) p (hg L hjL hdeps) h2.mem (Hist.refl _ _ _) (fun t a ht => by simp [look] at ht) (.cons hu .nil)
    cases q3 with | cons q3 _ => exact ⟨q1, q2, q3⟩
  obtain ⟨m1, m2, m3⟩ := fz _ _ h3
  refine .inr ⟨(wanted_of he).1 hw, .inl ⟨v, w', π', h1, ⟨by rw [hO L hjL hdeps]; exact m1, fun hh => by rw [hO L hjL hdeps]; exact (hh.trans h2.hist).trans m2, fun t a u ht hdy hu => ?_⟩, fun d' hd' => ?_⟩⟩
  · have k1 := h2.keep a u hu
    have k2 := (fz _ _ k1).2.2
    have : dyB DL [j] t = false := by
      unfold dyB at hdy ⊢
      rw [List.any_eq_false] at hdy ⊢
      intro x hx hxx
      refine hdy x hx ?_
      rw [Bool.and_eq_true] at hxx ⊢
      exact ⟨hxx.1, memB_iff.2 (by have := memB_iff.1 hxx.2; rw [List.mem_singleton] at this; rw [this]; exact List.mem_cons_self ..)⟩
    rw [show keepQ (some p) a = a.drop p from rfl, hfz t a ht this] at k2
    rw [hO L hjL hdeps]
    exact k2
  · rw [hdst] at hd'
    cases hd'
    refine ⟨by simpa [Nat.blt_eq] using hdn, _, hlook, ?_⟩
    rw [hO L hjL hdeps]
    simpa [AV.frz] using m3

theorem look_memE : ∀ {env : Env} {t : Tmp} {a : AV}, look env t = some a → (t, a) ∈ env
  | [], _, _, h => by simp [look] at h
  | (k, b) :: r, t, a, h => by
    simp only [look] at h
    split at h
    · rename_i e
      have e2 : k = t := by simpa using e
      cases h
      subst e2
      exact List.mem_cons_self ..
    · exact List.mem_cons_of_mem _ (look_memE h)
theorem frz_env {env : Env} {DL : List (Tmp × Nat)} {j p : Nat} {v : D} (h : ∀ x ∈ env, dyB DL [j] x.1 = false → (x.2.drop p).frz p v = x.2) : ∀ t a, look env t = some a → dyB DL [j] t = false → (a.drop p).frz p v = a := fun t a h1 h2 => h _ (look_memE h1) h2

def dropDL (DL : List (Tmp × Nat)) : Env → Env
  | [] => []
  | (t, a) :: r => match DL.any fun y => Nat.beq y.1 t with | true => dropDL DL r | false => (t, a) :: dropDL DL r
theorem look_dropDL {DL : List (Tmp × Nat)} : ∀ {env : Env} {u : Tmp} {a : AV}, look (dropDL DL env) u = some a → look env u = some a ∧ ∀ x ∈ DL, x.1 ≠ u
  | [], _, _, h => by simp [dropDL, look] at h
  | (t, b) :: r, u, a, h => by
    simp only [dropDL] at h
    split at h
    · rename_i hd
      obtain ⟨h1, h2⟩ := look_dropDL h
      refine ⟨?_, h2⟩
      simp only [look]
      split
      · rename_i e
        obtain ⟨y, hy, hyt⟩ := List.any_eq_true.1 hd
        have e1 : y.1 = t := Nat.eq_of_beq_eq_true hyt
        have e2 : t = u := by simpa using e
        exact absurd (e1.trans e2) (h2 y hy)
      · exact h1
    · rename_i hd
      simp only [look] at h ⊢
      split at h
      · rename_i e
        have e2 : t = u := by simpa using e
        subst e2
        refine ⟨h, fun x hx e1 => ?_⟩
        rw [List.any_eq_false] at hd
        exact hd x hx (by simp [e1])
      · exact look_dropDL h

/-- The region: its quiet operations shown together, those that act one by one; what dies in it is not known behind it. -/
theorem sat_drawK (m kk : Nat) (A : Acts) (DL : List (Tmp × Nat)) (O : List Nat → List (Option AObj)) (E : Env) {id : Nat} {objsF : List (Option AObj)} (hT : TabOk P T) (hf : P.funcs[f]? = some fn) (hmx : P.follows .mixedOrders = true) (h : srun T n fn.results.toList 2000 True todo env objs = .draw nd id ops k env' objs') (hn : nd)
    (hB : drawZ ops m = true) (hsee : seeB ops m A = true) (hO0 : O [] = objs' ++ List.replicate kk (some HD)) (hOF : ∀ L, (∀ i, i < m → i ∈ L) → O L = objsF) (hOj : ∀ j L, actB A j = false → O (j :: L) = O L)
    (hAm : (A.all fun x => Nat.blt x.1 m) = true) (hdy : dyOk ops m DL = true) (hD : ∀ L, DSat P n C.X (O L) ops (fun x => x = E) (quietOps ops m A) env')
    (hA : ∀ x ∈ A, ∃ oe, ops[x.1]? = some oe ∧ oe.dst = x.2.map (·.1) ∧ HeadK P n C O m ops (actE A ++ E) DL x.1 oe)
    (hk : ASat P f n C (.inRegion ops (List.range' m (ops.size - m)) :: k) (dropDL DL (actE A ++ E)) objsF R) : ASat P f n C todo env objs R := by
  have hq : ∀ {j : Nat} {o : Oper}, j < m → actB A j = false → ops[j]? = some o → o ∈ quietOps ops m A := by
    intro j o hj hb ho
    unfold quietOps
    rw [List.mem_filterMap]
    exact ⟨j, List.mem_filter.2 ⟨List.mem_range.2 hj, by rw [hb]; rfl⟩, ho⟩
  have hns : ∀ {j : Nat} {o : Oper}, j < m → actB A j = false → ops[j]? = some o → ∀ x ∈ actE A, x.1 ∉ o.looksAt ops ∧ o.dst ≠ some x.1 := by
    intro j o hj hb ho x hx
    have h1 := List.all_eq_true.1 hsee j (List.mem_range.2 hj)
    rw [hb, ho] at h1
    have h1' : ((actE A).all fun x => !(o.looksAt ops).contains x.1 && o.dst != some x.1) = true := by simpa only [Bool.false_or] using h1
    have h2 := List.all_eq_true.1 h1' x hx
    simpa using h2
  suffices hcc : Cont P f n C R (.draw nd id ops k env' objs') from (run_sound hT hf 2000 True todo env objs (by rw [h]; exact hcc)).2
  refine ⟨hn, sat_pad kk (drawn_soundK (envF := actE A ++ E) (DL := DL) hmx hB ?_ hdy (fun u a hu => look_dropDL hu) hO0 hOF ?_ hk)⟩
  · intro j o hj ho
    cases hb : actB A j with
    | false =>
      refine HeadH.toK DL (headH_of (fun L => hOj j L hb) fun L => ?_)
      obtain ⟨E0, a1, a2, a3, rfl⟩ := hD L
      have hn2 := hns hj hb ho
      refine headOp_env (fun t ht => look_skip fun x hx e => (hn2 x hx).1 (e ▸ ht)) (fun d hd => look_skip fun x hx e => (hn2 x hx).2 (e ▸ hd)) (a3 o (hq hj hb ho))
    | true =>
      obtain ⟨x, hx, hxe⟩ := List.any_eq_true.1 hb
      obtain rfl : x.1 = j := Nat.eq_of_beq_eq_true hxe
      obtain ⟨oe, h1, _, h3⟩ := hA x hx
      rw [ho] at h1
      cases h1
      exact h3
  · intro t ht a ha
    have hne : ∀ x ∈ actE A, x.1 ≠ t := by
      rintro x hx rfl
      obtain ⟨y, hy, hyx⟩ := List.mem_filterMap.1 hx
      obtain ⟨oe, h1, h2, _⟩ := hA y hy
      rw [hyx] at h2
      have hym := List.all_eq_true.1 hAm y hy
      have := ht y.1 (by simpa [Nat.blt_eq] using hym)
      rw [dstIs_iff.2 ⟨oe, h1, by simpa using h2⟩] at this
      cases this
    rw [look_skip hne] at ha
    obtain ⟨E0, a1, a2, a3, rfl⟩ := hD []
    refine a1 t (fun o ho hd => ?_) a ha
    unfold quietOps at ho
    rw [List.mem_filterMap] at ho
    obtain ⟨j, hj, ho⟩ := ho
    have hj := List.mem_range.1 (List.mem_filter.1 hj).1
    have := ht j hj
    rw [dstIs_iff.2 ⟨o, ho, hd⟩] at this
    cases this
end
end Ab
namespace Go.Proofs.YtcenfhcemmlaeaaGreatDoor
open Go Ab
set_option maxRecDepth 100000
set_option linter.unusedVariables false
set_option linter.unusedSimpArgs false
set_option maxHeartbeats 4000000

/-! ### A line more -/
section
variable {l : List Nd} {x : Nd}
theorem nd_app {j : Nat} (h : j < l.length) : nd (l ++ [x]) j = nd l j := by
  simp [List.getD_eq_getElem?_getD, List.getElem?_append_left h]
theorem nd_new : nd (l ++ [x]) l.length = x := by simp [List.getD_eq_getElem?_getD]
theorem ln_app {a : Int} (h1 : 1 ≤ a) (h2 : a ≤ l.length) : ln (l ++ [x]) a = ln l a := nd_app (by omega)
theorem allL_app (op : List UInt8) : ∀ n, n ≤ l.length → allL (l ++ [x]) op n = allL l op n
  | 0, _ => rfl
  | n + 1, h => by rw [allL_succ, allL_succ, allL_app op n (by omega), nd_app (by omega)]
theorem len_app : (l ++ [x]).length = l.length + 1 := by simp
theorem allL_more {op : List UInt8} (h : x.op ≠ op) : allL (l ++ [x]) op (l ++ [x]).length = allL l op l.length := by
  rw [len_app, allL_succ, allL_app op _ (Nat.le_refl _), nd_new, if_neg h, List.append_nil]
theorem more_state (ty : Ty (l ++ [x])) : x.op ≠ kState := fun e => by
  obtain ⟨j, h1, h2, h3⟩ := ty.ty.nx l.length (by rw [len_app]; omega) (by rw [nd_new]; exact e)
  have hk := ty.node j h1
  have hal : (nd (l ++ [x]) j).a.length = 2 := by rw [hk.al, h2]; decide
  have := (hk.ab _ (getD_mem (i := 0) 0 (by omega))).2
  rw [h3] at this
  rw [len_app] at h1
  omega
theorem more_next (t0 : Ty l) (ty : Ty (l ++ [x])) : x.op ≠ kNext := fun e => by
  have hn : l.length < (l ++ [x]).length := by rw [len_app]; omega
  have hk := ty.node l.length hn
  have hl := ty.ty.ln l.length hn
  rw [nd_new] at hk hl
  have hal : x.a.length = 2 := by rw [hk.al, e]; decide
  obtain ⟨b1, b2⟩ := hk.ab _ (getD_mem (i := 0) 0 (by omega))
  have hst := hl.st (.inr e)
  rw [ln_app b1 (by omega)] at hst
  obtain ⟨j, q1, q2, q3⟩ := t0.ty.nx (x.a.getD 0 0 - 1).toNat (by omega) hst
  refine (hl.ask.inx (.inr e)).2 ⟨j, q1, ?_, ?_⟩
  · rw [nd_app q1, q2, e]
  · rw [nd_app q1, q3]
    omega
theorem wd_app {y : Nd} (h1 : 1 ≤ y.s) (h2 : y.s ≤ l.length) : wdN (l ++ [x]) y = wdN l y := by
  unfold wdN
  rw [nd_app (by omega)]
theorem line_s (ty : Ty l) {a : Int} (h1 : 1 ≤ a) (h2 : a ≤ l.length) (hv : isVal (ln l a).op = true) : 1 ≤ (ln l a).s ∧ (ln l a).s ≤ l.length := by
  have := (val_s ty (j := (a - 1).toNat) (by omega) hv).2
  exact ⟨this.lo, this.hi⟩
theorem fitB_more (t0 : Ty l) {op : List UInt8} (ho : isVal op = true) (h : x.op ≠ op) (r : List Vr) : fitB (l ++ [x]) op r = fitB l op r := by
  unfold fitB
  rw [allL_more h]
  cases hd : decide ((allL l op l.length).length = r.length) with
  | false => rfl
  | true =>
    have hd := of_decide_eq_true hd
    simp only [Bool.true_and]
    rw [Bool.eq_iff_iff, List.all_eq_true, List.all_eq_true]
    have key : ∀ i ∈ List.range r.length, fitAt (l ++ [x]) (allL l op l.length) r i = fitAt l (allL l op l.length) r i := fun i hi => by
      have hi := List.mem_range.1 hi
      obtain ⟨a1, a2, a3⟩ := allL_val t0 ho (i := i) (by omega)
      obtain ⟨s1, s2⟩ := line_s t0 a1 a2 a3
      unfold fitAt
      rw [ln_app a1 a2, wd_app s1 s2]
    exact ⟨fun h i hi => (key i hi) ▸ h i hi, fun h i hi => (key i hi).symm ▸ h i hi⟩
theorem valL_more (st inp : List (Nat × Nat)) : ∀ n, n ≤ l.length → valL (l ++ [x]) st inp n = valL l st inp n
  | 0, _ => rfl
  | n + 1, h => by
    have e1 := allL_app (l := l) (x := x) kState n (by omega)
    have e2 := allL_app (l := l) (x := x) kInput n (by omega)
    rw [valL, valL, valL_more st inp n (by omega), val1, val1, cnt, cnt, cnt, cnt, e1, e2, nd_app (by omega)]
theorem valL_last (st inp : List (Nat × Nat)) : ∃ p, valL (l ++ [x]) st inp (l ++ [x]).length = valL l st inp l.length ++ [p] := by
  rw [len_app, valL, valL_more st inp _ (Nat.le_refl _)]
  exact ⟨_, rfl⟩
theorem ofV_more (h : x.op ≠ kNext) (s : Int) : ofV (l ++ [x]) kNext s = ofV l kNext s := by
  unfold ofV
  cases hj : ofJ l kNext s with
  | none =>
    have h0 := ofJ_none' hj
    rw [ofJ_none fun q hq hh => by
      rw [len_app] at hq
      rcases Nat.lt_or_ge q l.length with h2 | h2
      · rw [nd_app h2] at hh
        exact h0 ⟨q, h2, hh⟩
      · obtain rfl : q = l.length := by omega
        rw [nd_new] at hh
        exact h hh.1]
  | some j =>
    obtain ⟨a1, a2, a3⟩ := ofJ_spec hj
    have a4 : ∀ q, q < j → ¬ ((nd l q).op = kNext ∧ (nd l q).a.getD 0 0 = s) := by
      unfold ofJ at hj
      rw [List.find?_range_eq_some] at hj
      intro q hq hh
      have := hj.2.2 q hq
      rw [decide_eq_true hh] at this
      cases this
    rw [ofJ_some (j := j) (by rw [len_app]; omega) (by rw [nd_app a1]; exact a2) (by rw [nd_app a1]; exact a3) fun q hq => by rw [nd_app (by omega)]; exact a4 q hq]
    simp only
    rw [nd_app a1]
theorem nextL_more (t0 : Ty l) (ty : Ty (l ++ [x])) {v : List (Nat × Nat)} (hv : v.length = l.length) (p : Nat × Nat) : nextL (l ++ [x]) (v ++ [p]) = nextL l v := by
  unfold nextL
  rw [allL_more (more_state ty)]
  refine List.map_congr_left fun s hs => ?_
  obtain ⟨a1, a2, _⟩ := next_line t0 hs
  rw [ofV_more (more_next t0 ty)]
  exact (nm_app hv).1 _ (by omega)
theorem mdB_more (hm : MdB l) (hx : NdB x) (hl : l.length < 2000000000000) : MdB (l ++ [x]) := ⟨by rw [len_app]; unfold maxLen; omega, fun y hy => by
  rcases List.mem_append.1 hy with h | h
  · exact hm.nd y h
  · rw [List.mem_singleton.1 h]
    exact hx⟩
end
end Go.Proofs.YtcenfhcemmlaeaaGreatDoor
namespace Go.Proofs.YtcenfhcemmlaeaaGreatDoor
open Go Ab
set_option maxRecDepth 100000
set_option linter.unusedVariables false
set_option linter.unusedSimpArgs false
set_option maxHeartbeats 4000000

def selO (e : Nat) (L : List Nat) (o h : Option AObj) : Option AObj := if e ∈ L then o else h
theorem selO_self (e : Nat) (L : List Nat) (o h : Option AObj) : selO e (e :: L) o h = o := if_pos (List.mem_cons_self ..)
theorem selO_ne {e j : Nat} (hne : j ≠ e) (L : List Nat) (o h : Option AObj) : selO e (j :: L) o h = selO e L o h := by
  unfold selO
  simp only [List.mem_cons, hne.symm, false_or]
theorem selO_no {e : Nat} {L : List Nat} (hn : e ∉ L) (o h : Option AObj) : selO e L o h = h := if_neg hn
theorem selO_yes {e : Nat} {L : List Nat} (hn : e ∈ L) (o h : Option AObj) : selO e L o h = o := if_pos hn

@[reducible] def wmIn (l : List Nd) (x : Nd) (st inp : List Vr) : D := .ag [eNds l, dSL x.op, eI x.s, eIs x.a, eIs x.n, dSL x.t, eRow st, eRow inp]

theorem WordMore_law (l : List Nd) (x : Nd) (st inp : List Vr) (hm : MdB l) (hx : NdB x) (hl : l.length * 88 ≤ 140737488351232) (hq : ∀ a ∈ st, QVr a) (hi : ∀ a ∈ inp, QVr a) : ACall Tryz.prog 8 [.d (wmIn l x st inp)] [] (fun r o => r = vB true) := by
  refine acall_enter Tryz.func8 rfl rfl (Nat.le_of_ble_eq_true rfl) fun C hC hCl hDs => ?_
  refine sat_call tabOk Tryz.func8 rfl trivial shown15_call (.refl _) rfl ⟨_, rfl⟩ (by rintro r o rfl; rfl) ?_
  rintro _ o rfl
  have hpl : C.π.length = 0 := by rw [hCl, hC]; rfl
  refine sat_drawK 9 2 [(3, some (31, .gs 3)), (6, some (34, .d (.sl 5 (l.map eNd ++ [eNd x]) (catRd (l.map eNd).length (fun i => eNd (l.getD i default)) (litRd [eNd x]))))), (7, some (35, .d (.ag [.sl 5 (l.map eNd ++ [eNd x]) (catRd (l.map eNd).length (fun i => eNd (l.getD i default)) (litRd [eNd x]))]))), (8, some (8, .ptr 4 0))] [(31, 6)]
    (fun L => [some (.cells 74 [.d (eNds l), .d (dSL x.op), .d (eI x.s), .d (eIs x.a), .d (eIs x.n), .d (dSL x.t), .d (eRow st), .d (eRow inp)]), some (bBt l), some (bNd x), selO 6 L none (selO 3 L (some (.grow 67 5 (l.map eNd) (fun i => eNd (l.getD i default)))) (some HD)), some (sel 8 L (.cells 24 [.d (.v (.slice none 0 0))]) HD)]) _
    (objsF := [some (.cells 74 [.d (eNds l), .d (dSL x.op), .d (eI x.s), .d (eIs x.a), .d (eIs x.n), .d (dSL x.t), .d (eRow st), .d (eRow inp)]), some (bBt l), some (bNd x), none, some (.cells 24 [.d (.v (.slice none 0 0))])])
    tabOk Tryz.func8 rfl rfl trivial (by kernel_rfl) (by kernel_rfl) ?_ ?_ ?_ rfl (by kernel_rfl) (fun L => by
      refine ds_lit tabOk rfl rfl rfl rfl rfl rfl rfl ?_
      refine ds_ok tabOk rfl rfl rfl rfl rfl ?_
      refine ds_ok tabOk rfl rfl rfl rfl rfl ?_
      refine ds_ok tabOk rfl rfl rfl rfl rfl ?_
      refine ds_lit tabOk rfl rfl rfl rfl rfl rfl rfl ?_
      exact ds_done tabOk rfl trivial rfl) ?_ ?_
  · rfl
  · intro L hL
    simp only [sel_yes (hL 8 (by decide)), selO_yes (hL 6 (by decide))]
  · intro j L hb
    simp only [actB, List.any_cons, List.any_nil, Bool.or_false, Bool.or_eq_false_iff] at hb
    have n3 := Nat.ne_of_beq_eq_false hb.1
    have n6 := Nat.ne_of_beq_eq_false hb.2.1
    have n8 := Nat.ne_of_beq_eq_false hb.2.2.2
    simp only [sel_ne (fun e => n8 e.symm), selO_ne (fun e => n6 e.symm), selO_ne (fun e => n3 e.symm)]
  · refine List.forall_mem_cons.2 ⟨⟨_, rfl, rfl, ?_⟩, List.forall_mem_cons.2 ⟨⟨_, rfl, rfl, ?_⟩, List.forall_mem_cons.2 ⟨⟨_, rfl, rfl, ?_⟩, List.forall_mem_cons.2 ⟨⟨_, rfl, rfl, ?_⟩, fun x h => by cases h⟩⟩⟩⟩
    · refine HeadH.toK _ (headH_app0 (p := 3) (ys := l.map eNd) (rd2 := fun i => eNd (l.getD i default)) tabOk rfl (fun _ _ _ h => h) rfl rfl rfl (fun L => rfl) rfl rfl rfl rfl rfl rfl ?_ rfl rfl rfl (by omega) ?_ ?_)
      · rw [List.length_map]
        show l.length * 88 ≤ _
        omega
      · intro L h3 hc
        have h6 : 6 ∉ L := fun h => h3 (hc 6 h 3 (by kernel_rfl))
        show some (selO 6 L _ (selO 3 L _ _)) = _
        rw [selO_no h6, selO_no h3]
      · intro L h3 hc
        have h6 : 6 ∉ L := fun h => h3 (hc 6 h 3 (by kernel_rfl))
        have h6' : 6 ∉ 3 :: L := by simp only [List.mem_cons, not_or]; exact ⟨by decide, h6⟩
        simp only [selO_no h6, selO_no h6', selO_self, sel_ne (show (3 : Nat) ≠ 8 by decide)]
        rfl
    · refine headK_eat (c := some (((l.map eNd).length + [eNd x].length) * 88 ≤ 140737488355328)) (p := 3) (s := 5) (e := 67) (xs := l.map eNd ++ [eNd x]) (rd := catRd (l.map eNd).length (fun i => eNd (l.getD i default)) (litRd [eNd x])) (O1 := fun L => [some (.cells 74 [.d (eNds l), .d (dSL x.op), .d (eI x.s), .d (eIs x.a), .d (eIs x.n), .d (dSL x.t), .d (eRow st), .d (eRow inp)]), some (bBt l), some (bNd x), some (.grow 67 5 (l.map eNd ++ [eNd x]) (catRd (l.map eNd).length (fun i => eNd (l.getD i default)) (litRd [eNd x]))), some (sel 8 L (.cells 24 [.d (.v (.slice none 0 0))]) HD)]) tabOk rfl (fun _ _ _ h => h) ?_ ?_ (fun L _ _ => rfl) ?_ ?_ rfl rfl rfl
      · intro L h6 hw
        have h3 := hw 3 (by kernel_rfl)
        simp only [selO_no h6, selO_yes h3]
        cases h8 : decide (8 ∈ L) with
        | true => simp only [sel_yes (of_decide_eq_true h8)]; rfl
        | false => simp only [sel_no (of_decide_eq_false h8)]; rfl
      · show ((l.map eNd).length + 1) * 88 ≤ _
        rw [List.length_map]
        omega
      · intro L h6 hw
        simp only [selO_self, sel_ne (show (6 : Nat) ≠ 8 by decide)]
        cases h8 : decide (8 ∈ L) with
        | true => simp only [sel_yes (of_decide_eq_true h8)]; rfl
        | false => simp only [sel_no (of_decide_eq_false h8)]; rfl
      · refine frz_env ?_
        repeat (refine List.forall_mem_cons.2 ⟨?_, ?_⟩; first | exact fun _ => rfl | exact fun h => (by have h2 : true = false := h; cases h2))
        intro x h
        exact absurd h List.not_mem_nil
    · refine HeadH.toK _ (headH_pure tabOk rfl (fun _ _ _ h => h) (fun L => rfl) (fun L => ?_) rfl rfl rfl)
      simp only [sel_ne (show (7 : Nat) ≠ 8 by decide), selO_ne (show (7 : Nat) ≠ 6 by decide), selO_ne (show (7 : Nat) ≠ 3 by decide)]
    · refine HeadH.toK _ (headH_allocC (p := 4) tabOk rfl rfl rfl rfl rfl rfl (by omega) ?_ ?_)
      · intro L h8 hc
        show some (some (sel 8 L _ _)) = _
        rw [sel_no h8]
      · intro L h8 hc
        simp only [sel_self, selO_ne (show (8 : Nat) ≠ 6 by decide), selO_ne (show (8 : Nat) ≠ 3 by decide)]
        rfl
  have hB : VLe (.d (.ag [.sl 5 (l.map eNd ++ [eNd x]) (catRd (l.map eNd).length (fun i => eNd (l.getD i default)) (litRd [eNd x]))])) (.d (eBt (l ++ [x]))) := .dag ⟨DLe.slR (by rw [List.map_append]; rfl) (map_rd eNd default (l ++ [x])), trivial⟩
  have hln : l.length < 2000000000000 := by omega
  have hm' := mdB_more hm hx hln
  refine sat_call tabOk Tryz.func8 rfl trivial (typed14_call l hm 40 (by decide) hln) (.refl _) rfl ⟨_, rfl⟩ (by rintro r o ⟨b, rfl, -⟩; rfl) ?_
  rintro r o ⟨b, rfl, hb⟩
  refine sat_branch tabOk Tryz.func8 rfl trivial (fun h1 => ?_) (fun h1 => ?_)
  · refine sat_branch tabOk Tryz.func8 rfl trivial (fun _ => ?_) (fun h => by cases h)
    refine sat_branch tabOk Tryz.func8 rfl trivial (fun _ => ?_) (fun h => by cases h)
    refine sat_branch tabOk Tryz.func8 rfl trivial (fun _ => ?_) (fun h => by cases h)
    exact sat_ret tabOk Tryz.func8 rfl trivial rfl
  have t0 := (hb (by simpa using h1)).2
  have hlb := t0.small
  refine sat_call tabOk Tryz.func8 rfl trivial (typed14_call (l ++ [x]) hm' 41 (by decide) (by rw [len_app]; omega)) ⟨hB, .refl _, trivial⟩ rfl ⟨_, rfl⟩ (by rintro r o ⟨b, rfl, -⟩; rfl) ?_
  rintro r o ⟨b1, rfl, hb1⟩
  refine sat_branch tabOk Tryz.func8 rfl trivial (fun h1 => ?_) (fun h1 => ?_)
  · refine sat_branch tabOk Tryz.func8 rfl trivial (fun _ => ?_) (fun h => by cases h)
    refine sat_branch tabOk Tryz.func8 rfl trivial (fun _ => ?_) (fun h => by cases h)
    exact sat_ret tabOk Tryz.func8 rfl trivial rfl
  have ty := (hb1 (by simpa using h1)).2
  refine sat_call tabOk Tryz.func8 rfl trivial (Few_call [st, inp] 2 (by decide)) ⟨VLe.eL_c (CLes.refl _), .refl _, trivial⟩ rfl ⟨_, rfl⟩ (by rintro r o ⟨b, rfl, -⟩; rfl) ?_
  rintro r o ⟨b2, rfl, -⟩
  refine sat_branch tabOk Tryz.func8 rfl trivial (fun h2 => ?_) (fun h2 => ?_)
  · refine sat_branch tabOk Tryz.func8 rfl trivial (fun _ => ?_) (fun h => by cases h)
    exact sat_ret tabOk Tryz.func8 rfl trivial rfl
  refine sat_branch tabOk Tryz.func8 rfl trivial (fun h3 => ?_) (fun h3 => ?_)
  · exact sat_ret tabOk Tryz.func8 rfl trivial rfl
  have hin : x.op ≠ kInput := by
    have h3 : ((⟨x.op.toArray⟩ : ByteArray).toList == (⟨#[105, 110, 112, 117, 116]⟩ : ByteArray).toList) = false := h3
    rw [show ((⟨#[105, 110, 112, 117, 116]⟩ : ByteArray)) = ⟨kInput.toArray⟩ from rfl, strB] at h3
    exact of_decide_eq_false h3
  have hst := more_state ty
  have hF' : (fitB (l ++ [x]) kState st && fitB (l ++ [x]) kInput inp) = (fitB l kState st && fitB l kInput inp) := by
    rw [fitB_more t0 rfl hst, fitB_more t0 rfl hin]
  cases hF : (fitB l kState st && fitB l kInput inp) with
  | false =>
    rw [hF] at hF'
    refine sat_call tabOk Tryz.func8 rfl trivial (Values_no l hm t0 st inp hq hi hF) (.refl _) rfl ⟨_, rfl⟩ (by rintro r o rfl; rfl) ?_
    rintro _ o rfl
    refine sat_call tabOk Tryz.func8 rfl trivial (Values_no (l ++ [x]) hm' ty st inp hq hi hF') ⟨hB, .refl _, .refl _, trivial⟩ rfl ⟨_, rfl⟩ (by rintro r o rfl; rfl) ?_
    rintro _ o rfl
    refine sat_call tabOk Tryz.func8 rfl trivial (Step_no l hm t0 st inp hq hi hF) (.refl _) rfl ⟨_, rfl⟩ (by rintro r o rfl; rfl) ?_
    rintro _ o rfl
    refine sat_call tabOk Tryz.func8 rfl trivial (Step_no (l ++ [x]) hm' ty st inp hq hi hF') ⟨hB, .refl _, .refl _, trivial⟩ rfl ⟨_, rfl⟩ (by rintro r o rfl; rfl) ?_
    rintro _ o rfl
    refine sat_branch tabOk Tryz.func8 rfl trivial (fun _ => ?_) (fun h => by cases h)
    refine sat_branch tabOk Tryz.func8 rfl trivial (fun _ => ?_) (fun h => by cases h)
    refine sat_branch tabOk Tryz.func8 rfl trivial (fun _ => ?_) (fun h => by cases h)
    exact sat_ret tabOk Tryz.func8 rfl trivial rfl
  | true =>
    rw [hF] at hF'
    rw [Bool.and_eq_true] at hF hF'
    obtain ⟨e1, f1⟩ := fit_nums hq hF.1
    obtain ⟨e2, f2⟩ := fit_nums hi hF.2
    obtain ⟨-, g1⟩ := fit_nums hq hF'.1
    obtain ⟨-, g2⟩ := fit_nums hi hF'.2
    have hv := valL_ok t0 f1 f2 l.length (Nat.le_refl _)
    have c1 := Values_ok l hm t0 _ _ f1 f2
    have d1 := Values_ok (l ++ [x]) hm' ty _ _ g1 g2
    have c2 := Step_ok l hm t0 _ _ f1 f2
    have d2 := Step_ok (l ++ [x]) hm' ty _ _ g1 g2
    have hvs := vok_ns t0 hv
    have hnl := nextL_len l (valL l (numsOf st) (numsOf inp) l.length)
    have hns := fit_ns (next_fit t0 hv)
    have hal := allL_len l kState l.length
    obtain ⟨p, hp⟩ := valL_last (l := l) (x := x) (numsOf st) (numsOf inp)
    unfold stepA at c2 d2
    rw [hp] at d1 d2
    rw [nextL_more t0 ty hv.len] at d2
    rw [e1, e2, eRow_nums, eRow_nums]
    generalize flagL (l ++ [x]) kBad _ _ = b1 at *
    generalize flagL (l ++ [x]) kConstraint _ _ = b3 at *
    generalize valL l (numsOf st) (numsOf inp) l.length = v at *
    generalize flagL l kBad v l.length = b4 at *
    generalize flagL l kConstraint v l.length = b5 at *
    generalize nextL l v = nx at *
    have hvl := hv.len
    refine sat_call tabOk Tryz.func8 rfl trivial c1 (.refl _) rfl ⟨_, rfl⟩ (by rintro r o rfl; rfl) ?_
    rintro _ o rfl
    refine sat_call tabOk Tryz.func8 rfl trivial d1 ⟨hB, .refl _, .refl _, trivial⟩ rfl ⟨_, rfl⟩ (by rintro r o rfl; rfl) ?_
    rintro _ o rfl
    refine sat_call tabOk Tryz.func8 rfl trivial c2 (.refl _) rfl ⟨_, rfl⟩ (by rintro r o rfl; rfl) ?_
    rintro _ o rfl
    refine sat_call tabOk Tryz.func8 rfl trivial d2 ⟨hB, .refl _, .refl _, trivial⟩ rfl ⟨_, rfl⟩ (by rintro r o rfl; rfl) ?_
    rintro _ o rfl
    refine sat_branch tabOk Tryz.func8 rfl trivial (fun h => by cases h) (fun _ => ?_)
    refine sat_branch tabOk Tryz.func8 rfl trivial (fun h => by cases h) (fun _ => ?_)
    refine sat_branch tabOk Tryz.func8 rfl trivial (fun _ => ?_) (fun h => by cases h)
    refine sat_branch tabOk Tryz.func8 rfl trivial (fun h4 => ?_) (fun h4 => ?_)
    · refine sat_call tabOk Tryz.func8 rfl ?nd (Vecs_self hvs (by omega)) ⟨VLe.eL ?ls, .refl _, trivial⟩ rfl ⟨_, rfl⟩ (by rintro r o rfl; rfl) ?kk
      case nd =>
        simp only [List.length_map, List.length_append, List.length_cons, List.length_nil, andP]
        exact ⟨by omega, trivial⟩
      case ls =>
        show List.take (((List.map (fun p : Nat × Nat => vN p.1 p.2) v).length : Int) - 0).toNat (List.map (fun p : Nat × Nat => vN p.1 p.2) (v ++ [p])) = List.map (fun p : Nat × Nat => vN p.1 p.2) v
        rw [Int.sub_zero, Int.toNat_natCast, List.map_append, List.take_left]
      case kk =>
      rintro _ o rfl
      refine sat_branch tabOk Tryz.func8 rfl trivial (fun _ => ?_) (fun h => by cases h)
      refine sat_call tabOk Tryz.func8 rfl trivial (Vecs_self hns (by omega)) (.refl _) rfl ⟨_, rfl⟩ (by rintro r o rfl; rfl) ?_
      rintro _ o rfl
      exact sat_ret tabOk Tryz.func8 rfl trivial rfl
    · exfalso
      have h4 : (((List.map (fun p : Nat × Nat => vN p.1 p.2) (v ++ [p])).length : Int) == IntKind.i64.wrap (((List.map (fun p : Nat × Nat => vN p.1 p.2) v).length : Int) + 1)) = false := h4
      rw [List.length_map, List.length_map, wrap_id (by omega) (by omega), List.length_append] at h4
      simp at h4
end Go.Proofs.YtcenfhcemmlaeaaGreatDoor
