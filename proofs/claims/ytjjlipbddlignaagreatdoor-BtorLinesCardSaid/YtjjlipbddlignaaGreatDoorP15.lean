/- A part of the proof: N38, Ab77, Ab67, Ab68, Ab69, Ab70, Ab71, N25, N34, N27, N32, N33, N29. -/
import Derived.Test.YtjjlipbddlignaaGreatDoorP14
import Derived.Lib.ItoaLen
import Derived.Recover
set_option linter.unusedVariables false
set_option linter.unusedSimpArgs false
namespace Go.Proofs.YtjjlipbddlignaaGreatDoor
open Go Ab Go.Lib
set_option maxRecDepth 100000
set_option linter.unusedVariables false
set_option linter.unusedSimpArgs false

/-! ### How long texts are; texts that are the same -/
theorem numT_len {n : Int} (h0 : -9223372036854775808 ≤ n) (h1 : n ≤ 9223372036854775807) : (numT n).length ≤ 24 := by
  have := Go.Lib.itoa_length_le n h0 h1
  simp only [numT, tItoa, List.length_cons]
  omega
theorem nums_len : ∀ (l : List Int), (∀ n ∈ l, 0 ≤ n ∧ n ≤ 100000) → (l.flatMap numT).length ≤ 24 * l.length
  | [], _ => Nat.le_refl _
  | n :: r, h => by
    have h1 := h n List.mem_cons_self
    have := numT_len (n := n) (by omega) (by omega)
    have ih := nums_len r fun m hm => h m (List.mem_cons_of_mem _ hm)
    rw [List.flatMap_cons, List.length_append, List.length_cons]
    omega
theorem nodeB_nums {id : Int} {x : Nd} (hid : id ≤ 100000) (h : nodeB id x = true) : (0 ≤ x.s ∧ x.s ≤ 100000) ∧ (∀ n ∈ x.a, 0 ≤ n ∧ n ≤ 100000) ∧ (∀ n ∈ x.n, 0 ≤ n ∧ n ≤ 100000) := by
  unfold nodeB at h
  simp only [Bool.and_eq_true] at h
  obtain ⟨⟨⟨⟨h1, h2⟩, h3⟩, h4⟩, h5⟩ := h
  unfold aOk at h4
  unfold nOk at h5
  simp only [Bool.and_eq_true, decide_eq_true_eq, List.all_eq_true] at h4 h5
  refine ⟨?_, fun n hn => ?_, fun n hn => ?_⟩
  · unfold sOk at h2
    split at h2
    · have := of_decide_eq_true h2
      omega
    · have := of_decide_eq_true h2
      omega
  · have := h4.2 n hn
    omega
  · have := h5.2 n hn
    omega
end Go.Proofs.YtjjlipbddlignaaGreatDoor
set_option linter.unusedSimpArgs false
set_option linter.unusedVariables false
set_option linter.unusedSectionVars false
namespace Ab
open Go
variable [Draws]

section
variable {P : Program} [Globals P] {T : Tab} {f : FuncId} {fn : Func} {n m : Nat} {C : Cx} {R : AV → List (Option AObj) → Prop} {todo todo' k : List Item} {env env0 env' envF : Env} {objs objs' objs1 objs2 : List (Option AObj)} {nd : Prop} {ops : Array Oper} {l : List Oper} {K : Env → Prop} {X : Nat → Prop} {O : List Nat → List (Option AObj)}

/-- A call that is lent objects. -/
theorem headX_callQ {e : Nat} {E : Env} (ι : List Nat) {oe : Oper} {d : Tmp} {g : FuncId} {az bs : List AV} {objs0 : List (Option AObj)} {R' : AV → List (Option AObj) → Prop} {r0 : AV}
    (hE : ∀ t ∈ oe.looksAt ops, ∀ b, look E t = some b → look envF t = some b) (hdr : dropSE (memN ι) envF = envF)
    (hO0 : ∀ L, e ∉ L → O L = objs') (hO1 : ∀ L, e ∉ L → O (e :: L) = objs1)
    (hdst : oe.dst = some d) (hdn : Nat.blt d n = true) (hlook : look envF d = some r0) (hw : wantE ops (restr E (oe.looksAt ops)) oe = .yes) (hco : callOf (restr E (oe.looksAt ops)) oe = some (g, az)) (hen : ∀ args w, (callFunc g args).run P w = .ok (.enter g args) w)
    (hc : ACall P g bs objs0 R') (hs : subR (rho ι objs'.length) objs' ι objs0) (hv : VLs az (AV.rens (rho ι objs'.length) bs)) (hnd : nodupB ι = true) (hd : refsBs ι.length bs = true) (hro : refsO ι.length objs0 = true)
    (hr : ∀ r o, R' r o → r.ren (rho ι objs'.length) = r0 ∧ mergeO ι o objs' = objs1) : HeadX P n X O m ops envF e oe := by
  intro L hLm heL hdeps hcl π w tmps hsz hm hgk hlk
  have hOL := hO0 L heL
  have hOj := hO1 L heL
  rw [hOL] at hm hgk hlk
  have he : EnvRel w (okOf X π objs') π (restr E (oe.looksAt ops)) tmps := fun t b ht => by
    obtain ⟨h1, h2⟩ := look_restr ht
    exact hlk t h1 b (hE t h1 b h2)
  obtain ⟨vs, c1, c2⟩ := callOf_run he hco
  refine .inr ⟨(wanted_of he).1 hw, .inr (.inr ⟨g, vs.toArray, by rw [c2, hen], ?_⟩)⟩
  have hargs : RelVs w (okOf (lendX X π objs' ι) (lendP π ι) objs0) (lendP π ι) bs vs := by
    refine RelVs.unren (m := ι.length) (lend_keeps hm hs) ?_ bs hd (hv.rel c1)
    intro j' h' hj' hh'
    obtain ⟨i', hi'⟩ : ∃ i', nth ι j' = some i' := by
      rw [nth_eq]; exact ⟨ι[j'], List.getElem?_eq_getElem hj'⟩
    rw [rho_in hi'] at hh'
    rw [lendP_nth hi' (nth_lt hh')]
    exact hh'
  rcases hc _ _ w vs (lend_gok hgk hm hs) (lend_mem hm hs hnd hro) hargs with ⟨_, hcl2⟩ | ⟨v, w', hcl2, _⟩
  · refine hcl2.mono ?_
    rintro e2 w2 ⟨v, r, o, π', rfl, hR, hm', hrel, hhist⟩
    have L2 := lended hm hs hnd hm' hhist
    obtain ⟨e3, e4⟩ := hr r o hR
    have hmem := L2.mem
    have hhst := L2.hist
    have hkp := L2.keep
    have hbk := L2.back _ _ hrel
    rw [e4] at hmem hhst hkp hbk
    rw [e3] at hbk
    refine ⟨v, mergeP ι π' π, rfl, ⟨by rw [hOj]; exact hmem, by rw [hOL, hOj]; exact hhst, fun t a u ht hlv hau => ?_⟩, fun d' hd' => ?_⟩
    · rw [hOL] at hau
      have := hkp a u hau
      rw [dropSE_look hdr ht] at this
      rw [hOj]
      exact this
    · rw [hdst] at hd'
      cases hd'
      exact ⟨by simpa [Nat.blt_eq] using hdn, r0, hlook, by rw [hOj]; exact hbk⟩
  · rw [hen] at hcl2
    cases hcl2

/-- The objects ahead of a call, and behind it. -/
def oneO (e : Nat) (o0 o1 : List (Option AObj)) (L : List Nat) : List (Option AObj) := if e ∈ L then o1 else o0
theorem oneO_Q {p : List (Option AObj) → Prop} {e : Nat} {o0 o1 : List (Option AObj)} {L : List Nat} (h0 : p o0) (h1 : p o1) : p (oneO e o0 o1 L) := by
  rw [oneO]
  split
  · exact h1
  · exact h0
theorem oneO_ne {e j : Nat} {o0 o1 : List (Option AObj)} {L : List Nat} (h : j ≠ e) : oneO e o0 o1 (j :: L) = oneO e o0 o1 L := by
  simp only [oneO, List.mem_cons, Ne.symm h, false_or]
/-- A drawn region: a call in the head is lent objects; some of the head sees what it tells. -/
theorem sat_drawX1 (m e : Nat) (A : Acts) (objs1 : List (Option AObj)) (E : Env) {id : Nat} (hT : TabOk P T) (hf : P.funcs[f]? = some fn) (hmx : P.follows .mixedOrders = true) (h : srun T n fn.results.toList 2000 True todo env objs = .draw nd id ops k env' objs') (hn : nd)
    (hB : drawB ops m = true) (hsee : seeB ops m A = true) (hem : Nat.blt e m = true) (hae : actB A e = true)
    (hAm : (A.all fun x => Nat.blt x.1 m) = true) (hD0 : DSat P n C.X objs' ops (fun x => x = E) (quietOps ops m A) env') (hD1 : DSat P n C.X objs1 ops (fun x => x = E) (quietOps ops m A) env')
    (hA : ∀ x ∈ A, ∃ oe, ops[x.1]? = some oe ∧ oe.dst = x.2.map (·.1) ∧ HeadX P n C.X (oneO e objs' objs1) m ops (actE A ++ E) x.1 oe)
    (hk : ASat P f n C (.inRegion ops (List.range' m (ops.size - m)) :: k) (actE A ++ E) objs1 R) (hGk : GOk P C.π C.objs C.w := by with_reducible assumption) : ASat P f n C todo env objs R := by
  refine sat_drawX m A (oneO e objs' objs1) E hT hf hmx h hn hB hsee (by simp [oneO]) (fun L hL => by rw [oneO, if_pos (hL e (by simpa [Nat.blt_eq] using hem))]) (fun j L hj => ?_) hAm (fun L => ?_) hA hk
  · refine oneO_ne ?_
    rintro rfl
    rw [hae] at hj
    cases hj
  · exact oneO_Q (p := fun o => DSat P n C.X o ops (fun x => x = E) (quietOps ops m A) env') hD0 hD1
theorem headX_val1 {j e : Nat} {o : Oper} {E : Env} {a : AV} {c : Option Prop} {d : Nat} {objs0 : List (Option AObj)} (hT : TabOk P T) (hw : wantE ops (restr E (o.looksAt ops)) o = .yes) (hE : ∀ t ∈ o.looksAt ops, ∀ b, look E t = some b → look envF t = some b)
    (hs0 : estep T o (restr E (o.looksAt ops)) objs0 = some ⟨c, false, a, none, objs0⟩) (hs1 : estep T o (restr E (o.looksAt ops)) objs1 = some ⟨c, false, a, none, objs1⟩) (hj : j ≠ e) (hc : cond c) (hdst : o.dst = some d) (hdn : Nat.blt d n = true) (hlook : look envF d = some a) : HeadX P n X (oneO e objs0 objs1) m ops envF j o :=
  headX_val hT hw hE (fun L => oneO_Q (p := fun ob => estep T o (restr E (o.looksAt ops)) ob = some ⟨c, false, a, none, ob⟩) hs0 hs1) (fun L => oneO_ne hj) hc hdst hdn hlook
theorem headX_call1 {e : Nat} {E : Env} (ι : List Nat) {oe : Oper} {d : Tmp} {g : FuncId} {az bs : List AV} {objs0 : List (Option AObj)} {R' : AV → List (Option AObj) → Prop} {r0 : AV}
    (hE : ∀ t ∈ oe.looksAt ops, ∀ b, look E t = some b → look envF t = some b) (hdr : dropSE (memN ι) envF = envF)
    (hdst : oe.dst = some d) (hdn : Nat.blt d n = true) (hlook : look envF d = some r0) (hw : wantE ops (restr E (oe.looksAt ops)) oe = .yes) (hco : callOf (restr E (oe.looksAt ops)) oe = some (g, az)) (hen : ∀ args w, (callFunc g args).run P w = .ok (.enter g args) w)
    (hc : ACall P g bs objs0 R') (hs : subR (rho ι objs'.length) objs' ι objs0) (hv : VLs az (AV.rens (rho ι objs'.length) bs)) (hnd : nodupB ι = true) (hd : refsBs ι.length bs = true) (hro : refsO ι.length objs0 = true)
    (hr : ∀ r o, R' r o → r.ren (rho ι objs'.length) = r0 ∧ mergeO ι o objs' = objs1) : HeadX P n X (oneO e objs' objs1) m ops envF e oe :=
  headX_callQ ι hE hdr (fun L h => by rw [oneO, if_neg h]) (fun L h => by rw [oneO, if_pos (List.mem_cons_self ..)]) hdst hdn hlook hw hco hen hc hs hv hnd hd hro hr
end
end Ab
set_option linter.unusedSimpArgs false
set_option linter.unusedVariables false
set_option linter.unusedSectionVars false
namespace Ab
open Go
variable [Draws]
section
variable {P : Program} [Globals P] {T : Tab} {f : FuncId} {fn : Func} {n m : Nat} {C : Cx} {R : AV → List (Option AObj) → Prop} {todo todo' k : List Item} {env env0 env' envF : Env} {objs objs' : List (Option AObj)} {nd : Prop} {ops : Array Oper} {l : List Oper} {K : Env → Prop} {X : Nat → Prop}

def memB (L : List Nat) (q : Nat) : Bool := L.any fun a => Nat.beq a q
/-- Is a temporary dead, when so much is done? It dies with the operation that is named beside it. -/
def dyB (DL : List (Tmp × Nat)) (L : List Nat) (t : Tmp) : Bool := DL.any fun x => Nat.beq x.1 t && memB L x.2
theorem memB_iff {L : List Nat} {q : Nat} : memB L q = true ↔ q ∈ L := by
  unfold memB
  rw [List.any_eq_true]
  exact ⟨fun ⟨a, h1, h2⟩ => (Nat.eq_of_beq_eq_true h2) ▸ h1, fun h => ⟨q, h, by simp⟩⟩
theorem dyB_no {DL : List (Tmp × Nat)} {L : List Nat} {t : Tmp} (h : ∀ x ∈ DL, x.1 ≠ t) : dyB DL L t = false := by
  unfold dyB
  rw [List.any_eq_false]
  intro x hx
  have := h x hx
  simp [this]
theorem dyB_cons {DL : List (Tmp × Nat)} {L : List Nat} {j : Nat} {t : Tmp} (h : dyB DL (j :: L) t = false) : dyB DL L t = false := by
  unfold dyB at h ⊢
  rw [List.any_eq_false] at h ⊢
  intro x hx h2
  refine h x hx ?_
  rw [Bool.and_eq_true] at h2 ⊢
  exact ⟨h2.1, memB_iff.2 (List.mem_cons_of_mem _ (memB_iff.1 h2.2))⟩
/-- A temporary that dies is told in the head, and looked at by none but the operation with which it dies. -/
def dyOk (ops : Array Oper) (m : Nat) (DL : List (Tmp × Nat)) : Bool := DL.all fun x => ((List.range m).any fun j => dstIs ops j x.1) && (List.range m).all fun j => Nat.beq j x.2 || (match ops[j]? with | some o => !(o.looksAt ops).contains x.1 | none => true)
theorem dy_looks {DL : List (Tmp × Nat)} {L : List Nat} {i : Nat} {o : Oper} {u : Tmp} (h : dyOk ops m DL = true) (hi : i < m) (ho : ops[i]? = some o) (hu : u ∈ o.looksAt ops) (hiL : i ∉ L) : dyB DL L u = false := by
  unfold dyB
  rw [List.any_eq_false]
  intro x hx h2
  rw [Bool.and_eq_true] at h2
  obtain rfl : x.1 = u := Nat.eq_of_beq_eq_true h2.1
  have h3 := List.all_eq_true.1 h x hx
  rw [Bool.and_eq_true] at h3
  have h4 := List.all_eq_true.1 h3.2 i (List.mem_range.2 hi)
  rw [ho, Bool.or_eq_true] at h4
  rcases h4 with h4 | h4
  · obtain rfl : i = x.2 := Nat.eq_of_beq_eq_true h4
    exact hiL (memB_iff.1 h2.2)
  · have : (o.looksAt ops).contains x.1 = true := List.contains_iff_mem.2 hu
    simp only [this, Bool.not_true] at h4
    cases h4
theorem dy_rest {DL : List (Tmp × Nat)} {u : Tmp} (h : dyOk ops m DL = true) (hu : ∀ j, j < m → dstIs ops j u = false) (L : List Nat) : dyB DL L u = false := dyB_no fun x hx e => by
  have h3 := List.all_eq_true.1 h x hx
  rw [Bool.and_eq_true] at h3
  obtain ⟨j, hj, hd⟩ := List.any_eq_true.1 h3.1
  rw [e, hu j (List.mem_range.1 hj)] at hd
  cases hd
structure StepK (C : Cx) (O : List Nat → List (Option AObj)) (envF : Env) (DL : List (Tmp × Nat)) (L : List Nat) (j : Nat) (π : List Value) (w : World) (π' : List Value) (w2 : World) : Prop where
  mem : Mem C.X π' (O (j :: L)) w2
  hist : Hist C.π C.objs C.w π (O L) w → Hist C.π C.objs C.w π' (O (j :: L)) w2
  keep : ∀ t a v, look envF t = some a → dyB DL (j :: L) t = false → RelV w (okOf C.X π (O L)) π a v → RelV w2 (okOf C.X π' (O (j :: L))) π' a v
/-- What an operation does, whenever it is come to, whatever acted ahead of it. -/
def HeadK (P : Program) [Globals P] (n : Nat) (C : Cx) (O : List Nat → List (Option AObj)) (m : Nat) (ops : Array Oper) (envF : Env) (DL : List (Tmp × Nat)) (j : Nat) (o : Oper) : Prop :=
  ∀ L, (∀ q ∈ L, q < m) → j ∉ L → (∀ q, waitsB ops j q = true → q ∈ L) → (∀ q ∈ L, ∀ q', waitsB ops q q' = true → q' ∈ L) → ∀ π w tmps, tmps.size = n → Mem C.X π (O L) w → GOk P π (O L) w → (∀ t ∈ o.looksAt ops, ∀ a, look envF t = some a → RelV w (okOf C.X π (O L)) π a (tmps.getD t undef)) →
    (Region.wanted o (yielded ops tmps) = false ∧ ∃ π', StepK C O envF DL L j π w π' w ∧ PutOk n w (okOf C.X π' (O (j :: L))) π' envF o undef) ∨
    (Region.wanted o (yielded ops tmps) = true ∧
      ((∃ v w2 π', (execOp (Act.eval ⟨tmps, []⟩) o).run P w = .ok (.value v) w2 ∧ StepK C O envF DL L j π w π' w2 ∧ PutOk n w2 (okOf C.X π' (O (j :: L))) π' envF o v) ∨
       (∃ w2 π', (execOp (Act.eval ⟨tmps, []⟩) o).run P w = .ok .skip w2 ∧ StepK C O envF DL L j π w π' w2 ∧ PutOk n w2 (okOf C.X π' (O (j :: L))) π' envF o undef) ∨
       (∃ g args, (execOp (Act.eval ⟨tmps, []⟩) o).run P w = .ok (.enter g args) w ∧ Calls P g args w fun e w2 => ∃ v π', e = .returned v ∧ StepK C O envF DL L j π w π' w2 ∧ PutOk n w2 (okOf C.X π' (O (j :: L))) π' envF o v)))
theorem HeadH.toK {O : List Nat → List (Option AObj)} {j : Nat} {o : Oper} (DL : List (Tmp × Nat)) (h : HeadH P n C O m ops envF j o) : HeadK P n C O m ops envF DL j o := by
  have st : ∀ {L : List Nat} {π π' : List Value} {w w2 : World}, StepH C O L j π w π' w2 → StepK C O envF DL L j π w π' w2 := fun s => ⟨s.mem, s.hist, fun t a v _ _ hv => s.keep a v hv⟩
  intro L a1 a2 a3 a4 π w tmps hs hm hgk hl
  rcases h L a1 a2 a3 a4 π w tmps hs hm hgk hl with ⟨hw, π', hst, hp⟩ | ⟨hw, ⟨v, w2, π', hr, hst, hp⟩ | ⟨w2, π', hr, hst, hp⟩ | ⟨g, args, hr, hc⟩⟩
  · exact .inl ⟨hw, π', st hst, hp⟩
  · exact .inr ⟨hw, .inl ⟨v, w2, π', hr, st hst, hp⟩⟩
  · exact .inr ⟨hw, .inr (.inl ⟨w2, π', hr, st hst, hp⟩)⟩
  · exact .inr ⟨hw, .inr (.inr ⟨g, args, hr, hc.mono fun e w2 ⟨v, π', b1, b2, b3⟩ => ⟨v, π', b1, st b2, b3⟩⟩)⟩

theorem drawn_soundK {O : List Nat → List (Option AObj)} {objsF : List (Option AObj)} {DL : List (Tmp × Nat)} {envG : Env} (hmx : P.follows .mixedOrders = true) (hB : drawZ ops m = true) (hops : ∀ j o, j < m → ops[j]? = some o → HeadK P n C O m ops envF DL j o) (hdy : dyOk ops m DL = true) (hG : ∀ u a, look envG u = some a → look envF u = some a ∧ ∀ x ∈ DL, x.1 ≠ u)
    (hO0 : O [] = objs) (hOF : ∀ L, (∀ i, i < m → i ∈ L) → O L = objsF)
    (henv : ∀ t, (∀ j, j < m → dstIs ops j t = false) → ∀ a, look envF t = some a → ∃ b, look env0 t = some b ∧ VLe b a)
    (hK : ASat P f n C (.inRegion ops (List.range' m (ops.size - m)) :: k) envG objsF R) {id : Nat} (hGk : GOk P C.π C.objs C.w := by with_reducible assumption) : ASat P f n C (.code (.region id ops true) :: k) env0 objs R := by
  obtain ⟨hms, hback, hsc, hap⟩ : m ≤ ops.size ∧ backB ops = true ∧ (m < ops.size → sinkTB ops m = true ∧ chainTB ops m = true) ∧ apartB ops m = true := by
    simp only [drawZ, drawB, Bool.or_eq_true, Bool.and_eq_true, decide_eq_true_eq] at hB
    rcases hB with ⟨⟨⟨⟨h1, h2⟩, h3⟩, h4⟩, h5⟩ | ⟨⟨h1, h2⟩, h5⟩
    · exact ⟨by omega, h2, fun _ => ⟨h3, h4⟩, h5⟩
    · exact ⟨by omega, h2, fun h => by omega, h5⟩
  have hap : ∀ j o, j < m → ops[j]? = some o → (∀ k, k < m → k ≠ j → ∀ d, o.dst = some d → dstIs ops k d = false) ∧ ∀ k, k < m → ∀ t ∈ o.looksAt ops, dstIs ops k t = true → waitsB ops j k = true := by
    intro j o hj ho
    have h1 := List.all_eq_true.1 hap j (List.mem_range.2 hj)
    rw [ho] at h1
    have h2 : ∀ k, k < m → ((decide (k = j) || dstFree ops o k) = true ∧ (o.looksAt ops).all (fun t => !dstIs ops k t || waitsB ops j k) = true) := fun k hk => by
      have := List.all_eq_true.1 h1 k (List.mem_range.2 hk)
      simpa only [Bool.and_eq_true] using this
    refine ⟨fun k hk hne d hd => ?_, fun k hk t ht hd => ?_⟩
    · have := (h2 k hk).1
      unfold dstFree at this
      rw [hd] at this
      simpa [hne] using this
    · have := List.all_eq_true.1 (h2 k hk).2 t ht
      simpa [hd] using this
  intro π w tmps0 hn hm hh he
  have hl1 : Later w { w with drawn := w.drawn + 1 } := ⟨rfl, rfl, ⟨rfl, dr_mono (Nat.le_succ _)⟩, Nat.le_refl _, fun _ _ => rfl⟩
  have htr1 := hl1.tr hm
  have key : ∀ (fuel t : Nat) (listed : Array Bool) (L : List Nat) (tmps : Array Value) (w' : World) (π : List Value), Lst ops m L listed → L.length + fuel = ops.size → Mem C.X π (O L) w' → Hist C.π C.objs C.w π (O L) w' → tmps.size = n →
      (∀ j ∈ L, ∀ o, ops[j]? = some o → ∀ d, o.dst = some d → dyB DL L d = false → ∃ b, look envF d = some b ∧ RelV w' (okOf C.X π (O L)) π b (tmps.getD d undef)) →
      (∀ t, (∀ j, j < m → dstIs ops j t = false) → ∀ a, look envF t = some a → RelV w' (okOf C.X π (O L)) π a (tmps.getD t undef)) →
      Sat P f C.ds (.inRegion ops (Region.linearise.go .any ops fuel t listed []) :: k) tmps w' (APost C R) := by
    have fin : ∀ (L : List Nat) (tmps : Array Value) (w' : World) (π : List Value), (∀ i, i < m → i ∈ L) → Mem C.X π (O L) w' → Hist C.π C.objs C.w π (O L) w' → tmps.size = n →
        (∀ j ∈ L, ∀ o, ops[j]? = some o → ∀ d, o.dst = some d → dyB DL L d = false → ∃ b, look envF d = some b ∧ RelV w' (okOf C.X π (O L)) π b (tmps.getD d undef)) →
        (∀ t, (∀ j, j < m → dstIs ops j t = false) → ∀ a, look envF t = some a → RelV w' (okOf C.X π (O L)) π a (tmps.getD t undef)) →
        Sat P f C.ds (.inRegion ops (List.range' m (ops.size - m)) :: k) tmps w' (APost C R) := by
      intro L tmps w' π hall hm hh hsz hdone hrest
      rw [hOF L hall] at hm hh hdone hrest
      refine hK π w' tmps hsz hm hh fun u a hu0 => ?_
      obtain ⟨hu, hud⟩ := hG u a hu0
      by_cases hd : ∃ j, j < m ∧ dstIs ops j u = true
      · obtain ⟨j, hj, hd⟩ := hd
        obtain ⟨o, ho, hdo⟩ := dstIs_iff.1 hd
        obtain ⟨b, hb, hr⟩ := hdone j (hall j hj) o ho u hdo (dyB_no hud)
        rw [hu] at hb
        cases hb
        exact hr
      · have hd' : ∀ j, j < m → dstIs ops j u = false := fun j hj => by
          cases hx : dstIs ops j u with
          | false => rfl
          | true => exact absurd ⟨j, hj, hx⟩ hd
        exact hrest u hd' a hu
    intro fuel
    induction fuel with
    | zero =>
      intro t listed L tmps w' π hL hlen hm hh hsz hdone hrest
      have hLm := nodup_le hL.nd (b := List.range m) fun y hy => List.mem_range.2 (hL.lt y hy)
      rw [List.length_range] at hLm
      have hall : ∀ i, i < m → i ∈ L := fun i hi => by
        apply Classical.byContradiction
        intro hiL
        have := nodup_le (List.nodup_cons.2 ⟨hiL, hL.nd⟩) (b := List.range m) fun y hy => by
          rcases List.mem_cons.1 hy with rfl | hy
          · exact List.mem_range.2 hi
          · exact List.mem_range.2 (hL.lt y hy)
        rw [List.length_range, List.length_cons] at this
        omega
      have := fin L tmps w' π hall hm hh hsz hdone hrest
      rw [show ops.size - m = 0 by omega] at this
      simpa [Region.linearise.go] using this
    | succ fuel ih =>
      intro t listed L tmps w' π hL hlen hm hh hsz hdone hrest
      have hLm := nodup_le hL.nd (b := List.range m) fun y hy => List.mem_range.2 (hL.lt y hy)
      rw [List.length_range] at hLm
      by_cases hall : ∀ i, i < m → i ∈ L
      · have hml := nodup_le (List.nodup_range (n := m)) (b := L) fun y hy => hall y (List.mem_range.1 hy)
        rw [List.length_range] at hml
        have hfu : fuel + 1 = ops.size - m := by omega
        obtain ⟨hsink, hchain⟩ := hsc (by omega)
        rw [hfu]
        have hg := go_chain hback hchain (ops.size - m) t listed (.inl (by omega)) (by omega) hL.size (fun i hi => by
          rw [hL.mem i hi, show ops.size - (ops.size - m) = m by omega]
          exact ⟨fun h => hL.lt i h, fun h => hall i h⟩)
        rw [hg, show ops.size - (ops.size - m) = m by omega]
        exact fin L tmps w' π hall hm hh hsz hdone hrest
      · have hex : ∃ i, i ∈ Region.ready .any ops listed := by
          have hmin : ∀ q i, i ≤ q → i < m → i ∉ L → ∃ j, j < m ∧ j ∉ L ∧ ∀ j', j' < j → j' ∈ L := by
            intro q
            induction q with
            | zero => intro i hi hm hL; exact ⟨i, hm, hL, by omega⟩
            | succ q ihq =>
              intro i hi him hiL
              by_cases hx : ∃ j', j' < i ∧ j' ∉ L
              · obtain ⟨j', h1, h2⟩ := hx
                exact ihq j' (by omega) (by omega) h2
              · exact ⟨i, him, hiL, fun j' hj' => Decidable.byContradiction fun h2 => hx ⟨j', hj', h2⟩⟩
          obtain ⟨i, hi⟩ := Classical.not_forall.1 hall
          have hi1 : i < m := Classical.byContradiction fun h => hi fun h2 => absurd h2 h
          have hi2 : i ∉ L := fun h => hi fun _ => h
          obtain ⟨j, h1, h2, h3⟩ := hmin i i (Nat.le_refl _) hi1 hi2
          refine ⟨j, (ready_iff (by omega) hL).2 ⟨by omega, h2, ops[j], Array.getElem?_eq_getElem (by omega), fun e hee hb => ?_⟩⟩
          have hlt := backB_spec hback (Array.getElem?_eq_getElem (by omega : j < ops.size)) hee hb
          exact (hL.mem e.on (by omega)).2 (h3 e.on hlt)
        rw [go_succ]
        have hlen2 : 0 < (Region.ready .any ops listed).length := List.length_pos_of_mem hex.choose_spec
        have hmod : t % (Region.ready .any ops listed).length < (Region.ready .any ops listed).length := Nat.mod_lt _ hlen2
        rw [List.getElem?_eq_getElem hmod]
        simp only
        have hir : (Region.ready .any ops listed)[t % (Region.ready .any ops listed).length] ∈ Region.ready .any ops listed := List.getElem_mem hmod
        generalize (Region.ready .any ops listed)[t % (Region.ready .any ops listed).length] = i at hir
        have him : i < m := by
          apply Classical.byContradiction
          intro hge
          have hilt : i < ops.size := ((ready_iff (by omega) hL).1 hir).1
          obtain ⟨hsink, hchain⟩ := hsc (by omega)
          exact hall (all_listed (by omega) hsink hback hL (by omega) hchain hir).2
        obtain ⟨his, hiL, o, ho, hdeps⟩ := (ready_iff (by omega) hL).1 hir
        obtain ⟨ha1, ha2⟩ := hap i o him ho
        have hlooks : ∀ u ∈ o.looksAt ops, ∀ a, look envF u = some a → RelV w' (okOf C.X π (O L)) π a (tmps.getD u undef) := by
          intro u hu a hua
          by_cases hd : ∃ j, j < m ∧ dstIs ops j u = true
          · obtain ⟨j, hj, hd⟩ := hd
            have hw := ha2 j hj u hu hd
            obtain ⟨o2, ho2, e, hee, hb, heq⟩ := waitsB_spec hw
            rw [ho] at ho2
            cases ho2
            have hjL := listed_of hL (hdeps e hee hb)
            rw [heq] at hjL
            obtain ⟨oj, hoj, hdj⟩ := dstIs_iff.1 hd
            obtain ⟨b, hb2, hr⟩ := hdone j hjL oj hoj u hdj (dy_looks hdy him ho hu hiL)
            rw [hua] at hb2
            cases hb2
            exact hr
          · have hd' : ∀ j, j < m → dstIs ops j u = false := fun j hj => by
              cases hx : dstIs ops j u with
              | false => rfl
              | true => exact absurd ⟨j, hj, hx⟩ hd
            exact hrest u hd' a hua
        have hL' : Lst ops m (i :: L) (listed.setIfInBounds i true) := by
          refine ⟨by simpa using hL.size, fun j hj => ?_, List.nodup_cons.2 ⟨hiL, hL.nd⟩, fun j hj => ?_, fun j hj oj hoj e hee hb => ?_⟩
          · by_cases e : i = j
            · subst e
              rw [show (listed.setIfInBounds i true).getD i false = true by simp [hL.size, hj]]
              simp
            · rw [show (listed.setIfInBounds i true).getD j false = listed.getD j false by simp [Array.getElem?_setIfInBounds, e]]
              rw [hL.mem j hj, List.mem_cons]
              exact ⟨.inr, fun h => h.resolve_left fun h2 => e h2.symm⟩
          · rcases List.mem_cons.1 hj with rfl | hj
            · exact him
            · exact hL.lt j hj
          · rcases List.mem_cons.1 hj with rfl | hj
            · rw [ho] at hoj
              cases hoj
              exact List.mem_cons_of_mem _ (listed_of hL (hdeps e hee hb))
            · exact List.mem_cons_of_mem _ (hL.cl j hj oj hoj e hee hb)
        have hdeps2 : ∀ q, waitsB ops i q = true → q ∈ L := by
          intro q hq
          obtain ⟨o2, ho2, e, hee, hb, heq⟩ := waitsB_spec hq
          rw [ho] at ho2
          cases ho2
          rw [← heq]
          exact listed_of hL (hdeps e hee hb)
        have hcl2 : ∀ q ∈ L, ∀ q', waitsB ops q q' = true → q' ∈ L := by
          intro q hqL q' hq
          obtain ⟨o2, ho2, e, hee, hb, heq⟩ := waitsB_spec hq
          rw [← heq]
          exact hL.cl q hqL o2 ho2 e hee hb
        have next : ∀ (v : Value) (w2 : World) (π' : List Value), StepK C O envF DL L i π w' π' w2 → PutOk n w2 (okOf C.X π' (O (i :: L))) π' envF o v → Sat P f C.ds (.inRegion ops (Region.linearise.go .any ops fuel (t / (Region.ready .any ops listed).length) (listed.setIfInBounds i true) []) :: k) (putT o.dst v tmps) w2 (APost C R) := by
          intro v w2 π' hst hput
          refine ih _ _ (i :: L) _ w2 π' hL' (by simp only [List.length_cons]; omega) hst.mem (hst.hist hh) ?_ ?_ ?_
          · cases hd : o.dst with
            | none => exact hsz
            | some d => simpa [putT] using hsz
          · intro j hj0 oj hoj d hd hdyn
            rcases List.mem_cons.1 hj0 with e | hj
            · subst e
              rw [ho] at hoj
              cases hoj
              obtain ⟨h1, b, h2, h3⟩ := hput d hd
              refine ⟨b, h2, ?_⟩
              rw [hd, getD_putT, if_pos ⟨rfl, by rw [hsz]; exact h1⟩]
              exact h3
            · obtain ⟨b, h2, h3⟩ := hdone j hj oj hoj d hd (dyB_cons hdyn)
              refine ⟨b, h2, ?_⟩
              have hne : ∀ d', o.dst = some d' → d' ≠ d := by
                rintro d' hd' rfl
                have := ha1 j (hL.lt j hj) (fun e => hiL (e ▸ hj)) d' hd'
                rw [dstIs_iff.2 ⟨oj, hoj, hd⟩] at this
                cases this
              cases hdo : o.dst with
              | none => exact hst.keep _ _ _ h2 hdyn h3
              | some d' =>
                rw [getD_putT, if_neg fun hh => hne d' hdo hh.1]
                exact hst.keep _ _ _ h2 hdyn h3
          · intro u hu a hua
            have h3 := hst.keep _ _ _ hua (dy_rest hdy hu _) (hrest u hu a hua)
            cases hdo : o.dst with
            | none => exact h3
            | some d' =>
              rw [getD_putT, if_neg fun hh => ?_]
              · exact h3
              · have := hu i him
                rw [dstIs_iff.2 ⟨o, ho, by rw [hdo, hh.1]⟩] at this
                cases this
        rcases hops i o him ho L (fun q hq => hL.lt q hq) hiL hdeps2 hcl2 π w' tmps hsz hm (hGk.hist hh) hlooks with ⟨hw, hput⟩ | ⟨hw, ⟨v, w2, π', hrun, hst, hput⟩ | ⟨w2, π', hrun, hst, hput⟩ | ⟨g, args, hrun, hcall⟩⟩
        · obtain ⟨π', hst, hput⟩ := hput
          exact .opSkip ho hw (next undef w' π' hst hput)
        · exact .opVal ho hw hrun (next v w2 π' hst hput)
        · exact .opUnit ho hw hrun (next undef w2 π' hst hput)
        · exact .opCall ho hw hrun (hcall.mono fun e w2 ⟨v, π', h1, h2, h3⟩ => ⟨v, h1, next v w2 π' h2 h3⟩)
  refine .step (fun kd cs => step_draw) ?_
  simp only [Region.schedule, hmx, Bool.true_or, if_true]
  subst hO0
  refine key ops.size _ _ [] tmps0 _ π ⟨by simp, fun i hi => ?_, List.nodup_nil, by simp, by simp⟩ (by simp) htr1.mem (hist_tr hh htr1) hn (by simp) (fun u hu a hua => ?_)
  · simp [hi]
  · obtain ⟨b, hb, hle⟩ := henv u hu a hua
    exact rel_later hl1 (hle _ _ _ _ (he u b hb))
end
end Ab
set_option linter.unusedSimpArgs false
set_option linter.unusedVariables false
set_option linter.unusedSectionVars false
namespace Ab
open Go
variable [Draws]
theorem fill_keeps {X : Nat → Prop} {π : List Value} {objs : List (Option AObj)} {w w' : World} (m : Mem X π objs w) {p : Nat} (hp : nth objs p = some (some HD)) (hw : ∀ b, b < w.heap.size → w'.heap[b]? = w.heap[b]?) (h : Value) (o : AObj) (hh : ∀ b, blk h = some b → w.heap.size ≤ b) :
    Keeps w (okOf X π objs) w' (okOf X (setNth π p h) (setNth objs p (some o))) := by
  intro b off u h1 h2
  have hb : b < w.heap.size := cell_lt h2
  refine ⟨⟨h1.1, fun i o' h' a1 a2 hc => ?_⟩, ?_⟩
  · rw [nth_setIf] at a1 a2
    by_cases e : p = i
    · rw [if_pos e] at a2
      split at a2
      · cases a2
        have := hh _ hc
        omega
      · cases a2
    · rw [if_neg e] at a1 a2
      exact h1.2 i o' h' a1 a2 hc
  · unfold World.cell? at h2 ⊢
    rw [hw b hb]
    exact h2
section
variable {P : Program} [Globals P] {T : Tab} {f : FuncId} {fn : Func} {n m : Nat} {C : Cx} {R : AV → List (Option AObj) → Prop} {todo todo' k : List Item} {env env0 env' envF : Env} {objs objs' : List (Option AObj)} {nd : Prop} {ops : Array Oper} {l : List Oper} {K : Env → Prop} {X : Nat → Prop}

/-- What is read is copied into a slice of the call's own. -/
theorem headH_app0 {O : List Nat → List (Option AObj)} {j p d s0 : Nat} {o : Oper} {t t2 e e2 : TypeId} {rest : List TypeId} {so xo : Operand} {x : AV} {E : Env} {r re r2 : TRow} {ys : List D} {rd2 : Nat → D} (hT : TabOk P T)
    (hw : wantE ops (restr E (o.looksAt ops)) o = .yes) (hE : ∀ t ∈ o.looksAt ops, ∀ b, look E t = some b → look envF t = some b) (hop : o.op = .call { callee := .builtin .append, args := ⟨[so, xo]⟩, argTypes := ⟨t :: t2 :: rest⟩ })
    (hs : opnd (restr E (o.looksAt ops)) so = some (.e0 s0)) (hx : opnd (restr E (o.looksAt ops)) xo = some x) (hel : ∀ L, elemsOf (O L) re.size x = some (ys, rd2))
    (h1 : tlook T t = some r) (h2 : r.kd = .slice e) (h3 : tlook T e = some re) (h4 : tlook T t2 = some r2) (h5 : r2.kd = .slice e2) (hb0 : Nat.beq re.bytes 0 = false) (hroom : ys.length * re.bytes ≤ 140737488355328)
    (hdst : o.dst = some d) (hdn : Nat.blt d n = true) (hlook : look envF d = some (.gs p)) (hple : C.π.length ≤ p)
    (hO0 : ∀ L, j ∉ L → (∀ q ∈ L, ∀ q', waitsB ops q q' = true → q' ∈ L) → nth (O L) p = some (some HD))
    (hO : ∀ L, j ∉ L → (∀ q ∈ L, ∀ q', waitsB ops q q' = true → q' ∈ L) → O (j :: L) = setNth (O L) p (some (.grow e re.size ys rd2))) : HeadH P n C O m ops envF j o := by
  intro L _ hjL _ hcl π w tmps hsz hm hgk hlk
  have he : EnvRel w (okOf C.X π (O L)) π (restr E (o.looksAt ops)) tmps := fun t b ht => by
    obtain ⟨a1, a2⟩ := look_restr ht
    exact hlk t a1 b (hE t a1 b a2)
  have hsv := opnd_rel (ds := []) he hs
  have hxv := opnd_rel (ds := []) he hx
  obtain ⟨A, hA⟩ : ∃ A, Act.eval ⟨tmps, []⟩ so = .slice A 0 0 := by
    revert hsv
    generalize Act.eval ⟨tmps, []⟩ so = v
    intro h
    cases h
    exact ⟨_, rfl⟩
  obtain ⟨A2, c2, us, hX, hEl, hload, hrd2⟩ := elems_rel (P := P) hm (hel L) hxv
  rw [hX] at hload
  have ht := slice_elem hT h1 h2
  have ht2 := slice_elem hT h4 h5
  obtain ⟨inf, dd0, hi, hd0, hisz, hby, hz0, _⟩ := (tab_row hT h3).ex
  obtain ⟨z, hzr, hzc, hzf, _, _⟩ := (tab_row hT h3).zero
  have hzl : z.cells.size = re.size := by
    have := (tab_row hT h3).zl
    rw [← hzc] at this
    simpa using this
  have hz : inf.zero = some z := by
    have := hzr w
    simp only [zeroValue, Sem.run_bind, run_typeInfo w hi, Result.andThen_ok] at this
    cases h : inf.zero with
    | none => rw [h] at this; simp [unsupported, Sem.run] at this
    | some z' => rw [h] at this; simp at this; rw [this]
  have hb0' : inf.bytes ≠ 0 := by
    rw [hby]
    intro e
    rw [e] at hb0
    cases hb0
  have hml : maxLen = 9223372036854775807 := rfl
  have hbound : ys.length ≤ maxLen := by
    have : ys.length * 1 ≤ ys.length * re.bytes := Nat.mul_le_mul_left _ (by rw [← hby]; omega)
    omega
  have hexec : ∀ {v : Value} {w2 : World}, (Builtin.append_ ⟨t :: t2 :: rest⟩ o.type #[.slice A 0 0, .slice A2 ys.length c2]).run P w = .ok v w2 → (execOp (Act.eval ⟨tmps, []⟩) o).run P w = .ok (.value v) w2 := by
    intro v w2 h
    unfold execOp
    simp only [hop]
    simp [resolve, invoke, builtin, hA, hX, h]
  have fin : ∀ (h : Value) (w2 : World), (∃ A n c, h = .slice A n c) → (execOp (Act.eval ⟨tmps, []⟩) o).run P w = .ok (.value h) w2 → w2.os = w.os → w2.tape = w.tape → (w2.output = w.output ∧ dr w ≤ dr w2) → w.heap.size ≤ w2.heap.size → (∀ b, b < w.heap.size → w2.heap[b]? = w.heap[b]?) →
      (∀ b, blk h = some b → w.heap.size ≤ b) → RelO w2 (okOf C.X (setNth π p h) (setNth (O L) p (some (.grow e re.size ys rd2)))) (setNth π p h) (.grow e re.size ys rd2) h →
      ∃ v w2 π', (execOp (Act.eval ⟨tmps, []⟩) o).run P w = .ok (.value v) w2 ∧ StepH C O L j π w π' w2 ∧ PutOk n w2 (okOf C.X π' (O (j :: L))) π' envF o v := by
    intro h w2 hsh hr a1 a2 a3 a4 a5 a6 a7
    have hpl : p < (O L).length := nth_lt (hO0 L hjL hcl)
    have hml : π.length = (O L).length := hm.len
    have hf := fill (w' := w2) hm (hO0 L hjL hcl) a1 a2 a3 a4 a5 h (.grow e re.size ys rd2) a6 a7
    refine ⟨h, w2, setNth π p h, hr, ⟨?_, ?_, ?_⟩, ?_⟩
    · rw [hO L hjL hcl]; exact hf.1
    · rw [hO L hjL hcl]; exact hf.2.1 hple
    · rw [hO L hjL hcl]; exact hf.2.2
    · intro d' hd'
      rw [hdst] at hd'
      cases hd'
      refine ⟨by simpa [Nat.blt_eq] using hdn, _, hlook, ?_⟩
      rw [hO L hjL hcl]
      have hpp : p < π.length := by omega
      obtain ⟨A', n', c', rfl⟩ := hsh
      exact .gs (by rw [nth_setIf, if_pos rfl, if_pos hpp])
  refine .inr ⟨(wanted_of he).1 hw, .inl ?_⟩
  by_cases h0 : ys.length = 0
  · have hy : ys = [] := List.eq_nil_of_length_eq_zero h0
    subst hy
    have hus : us = [] := by cases hEl; rfl
    subst hus
    have := run_append_in (P := P) (w := w) (w' := w) (ty := o.type) (rest := rest) ht (.inl ⟨_, ht2⟩) hi (A := A) (n := 0) (c := 0) (m := 0) (x := .slice A2 0 c2) (us := []) (fun w' => by simp [Builtin.lenOf]) (by omega) (by rw [hisz]; exact hload w (Ext.refl w)) (by cases A <;> simp [storeCells])
    exact fin _ w ⟨_, _, _, rfl⟩ (hexec this) rfl rfl ⟨rfl, dr_mono (Nat.le_refl _)⟩ (Nat.le_refl _) (fun _ _ => rfl) (by intro b e; cases A <;> cases e) .gnil
  · obtain ⟨cap, w1, q1, q2, q3, q4, q5, q6, q7⟩ := run_append_grow (P := P) (w := w) (ty := o.type) (rest := rest) ht (.inl ⟨_, ht2⟩) hi hz (A := A) (n := 0) (c := 0) (m := ys.length) (x := .slice A2 ys.length c2) (us1 := []) (us := us) (fun w' => by simp [Builtin.lenOf]) (by omega) (by rw [hby, Nat.zero_add]; exact hroom) (by rw [Nat.zero_add]; exact hbound) hb0'
      (fun w' _ => by cases A <;> simp [Builtin.firstCells, loadCells, loadCellsFrom]) (fun w' hw => by rw [hisz]; exact hload w' hw)
    obtain ⟨cap', rfl⟩ : ∃ k, cap = k + 1 := ⟨cap - 1, by omega⟩
    simp only [List.nil_append, Nat.zero_add] at q7 q1
    have hh : ∀ b, blk (.slice (some ⟨w.heap.size, 0, none⟩) ys.length (cap' + 1)) = some b → w.heap.size ≤ b := by intro b e; cases e; exact Nat.le_refl _
    have hext : ∀ b, b < w.heap.size → (w1.alloc (.cells (us ++ (Builtin.zeroCells z.cells (cap' + 1 - ys.length)).toList).toArray e)).heap[b]? = w.heap[b]? := by
      intro b hb
      rw [alloc_heap, q3, Array.getElem?_push, if_neg (Nat.ne_of_lt hb)]
    have hk2 := fill_keeps (p := p) hm (hO0 L hjL hcl) hext (.slice (some ⟨w.heap.size, 0, none⟩) ys.length (cap' + 1)) (.grow e re.size ys rd2) hh
    exact fin _ _ ⟨_, _, _, rfl⟩ (hexec q7) q4 q5 q6 (by rw [alloc_heap, q3]; simp) hext hh (grow_new (P := P) hk2 q3 hEl rfl q1 q2 (by simp [zeroCells_len, hzl]) hrd2)

/-- A plain operation. -/
theorem headH_pure {O : List Nat → List (Option AObj)} {j : Nat} {o : Oper} {E : Env} {a : AV} {d : Nat} (hT : TabOk P T) (hw : wantE ops (restr E (o.looksAt ops)) o = .yes) (hE : ∀ t ∈ o.looksAt ops, ∀ b, look E t = some b → look envF t = some b)
    (hs : ∀ L, pstep T o (restr E (o.looksAt ops)) (O L) = .ok a) (hO : ∀ L, O (j :: L) = O L) (hdst : o.dst = some d) (hdn : Nat.blt d n = true) (hlook : look envF d = some a) : HeadH P n C O m ops envF j o := by
  refine headH_of (fun L => hO L) fun L => ?_
  intro π w tmps hsz hm hgk hlk
  have he : EnvRel w (okOf C.X π (O L)) π (restr E (o.looksAt ops)) tmps := fun t b ht => by
    obtain ⟨h1, h2⟩ := look_restr ht
    exact hlk t h1 b (hE t h1 b h2)
  have hdo := pstep_ok (ds := []) hT hm he o
  rw [hs L] at hdo
  obtain ⟨v, d1, d2⟩ := hdo
  refine .inr ⟨(wanted_of he).1 hw, .inl ⟨v, w, d2 w (.refl w), .refl w, fun d' hd => ?_⟩⟩
  rw [hdst] at hd
  cases hd
  exact ⟨by simpa [Nat.blt_eq] using hdn, a, hlook, d1⟩

/-- A slice of the call's own is appended to, and read from then on: what told it dies. -/
theorem headK_eat {O O1 : List Nat → List (Option AObj)} {DL : List (Tmp × Nat)} {j p d s : Nat} {e : TypeId} {xs : List D} {rd : Nat → D} {o : Oper} {E : Env} {c : Option Prop} (hT : TabOk P T) (hw : wantE ops (restr E (o.looksAt ops)) o = .yes) (hE : ∀ t ∈ o.looksAt ops, ∀ b, look E t = some b → look envF t = some b)
    (hs : ∀ L, j ∉ L → (∀ q, waitsB ops j q = true → q ∈ L) → estep T o (restr E (o.looksAt ops)) (O L) = some ⟨c, false, .gs p, some p, O1 L⟩) (hc : cond c)
    (hg : ∀ L, j ∉ L → (∀ q, waitsB ops j q = true → q ∈ L) → nth (O1 L) p = some (some (.grow e s xs rd))) (hO : ∀ L, j ∉ L → (∀ q, waitsB ops j q = true → q ∈ L) → O (j :: L) = frzO p (.sl s xs rd) 0 (O1 L))
    (hfz : ∀ t a, look envF t = some a → dyB DL [j] t = false → (a.drop p).frz p (.sl s xs rd) = a)
    (hdst : o.dst = some d) (hdn : Nat.blt d n = true) (hlook : look envF d = some (.d (.sl s xs rd))) : HeadK P n C O m ops envF DL j o := by
  intro L _ hjL hdeps _ π w tmps hsz hm hgk hlk
  have he : EnvRel w (okOf C.X π (O L)) π (restr E (o.looksAt ops)) tmps := fun t b ht => by
    obtain ⟨h1, h2⟩ := look_restr ht
    exact hlk t h1 b (hE t h1 b h2)
  have hst := estep_ok (ds := []) hT hm he o
  rw [hs L hjL hdeps] at hst
  obtain ⟨v, w', π', h1, h2, h3⟩ := hst hc
  have h3 := h3 rfl
  have fz : ∀ (a : AV) (u : Value), RelV w' (okOf C.X π' (O1 L)) π' a u → Mem C.X π' (frzO p (.sl s xs rd) 0 (O1 L)) w' ∧ Hist π' (O1 L) w' π' (frzO p (.sl s xs rd) 0 (O1 L)) w' ∧ RelV w' (okOf C.X π' (frzO p (.sl s xs rd) 0 (O1 L))) π' (a.frz p (.sl s xs rd)) u := by
    intro a u hu
    obtain ⟨q1, q2, _, q3⟩ := freeze_core (C := ⟨C.X, π', O1 L, w', [], fun _ => False⟩) (env := []) (tmps := #[]) p (hg L hjL hdeps) h2.mem (Hist.refl _ _ _) (fun t a ht => by simp [look] at ht) (.cons hu .nil)
    cases q3 with | cons q3 _ => exact ⟨q1, q2, q3⟩
  obtain ⟨m1, m2, m3⟩ := fz _ _ h3
  refine .inr ⟨(wanted_of he).1 hw, .inl ⟨v, w', π', h1, ⟨by rw [hO L hjL hdeps]; exact m1, fun hh => by rw [hO L hjL hdeps]; exact (hh.trans h2.hist).trans m2, fun t a u ht hdy hu => ?_⟩, fun d' hd' => ?_⟩⟩
  · have k1 := h2.keep a u hu
    have k2 := (fz _ _ k1).2.2
    have : dyB DL [j] t = false := by
      unfold dyB at hdy ⊢
      rw [List.any_eq_false] at hdy ⊢
      intro x hx hxx
      refine hdy x hx ?_
      rw [Bool.and_eq_true] at hxx ⊢
      exact ⟨hxx.1, memB_iff.2 (by have := memB_iff.1 hxx.2; rw [List.mem_singleton] at this; rw [this]; exact List.mem_cons_self ..)⟩
    rw [show keepQ (some p) a = a.drop p from rfl, hfz t a ht this] at k2
    rw [hO L hjL hdeps]
    exact k2
  · rw [hdst] at hd'
    cases hd'
    refine ⟨by simpa [Nat.blt_eq] using hdn, _, hlook, ?_⟩
    rw [hO L hjL hdeps]
    simpa [AV.frz] using m3

theorem look_memE : ∀ {env : Env} {t : Tmp} {a : AV}, look env t = some a → (t, a) ∈ env
  | [], _, _, h => by simp [look] at h
  | (k, b) :: r, t, a, h => by
    simp only [look] at h
    split at h
    · rename_i e
      have e2 : k = t := by simpa using e
      cases h
      subst e2
      exact List.mem_cons_self ..
    · exact List.mem_cons_of_mem _ (look_memE h)
theorem frz_env {env : Env} {DL : List (Tmp × Nat)} {j p : Nat} {v : D} (h : ∀ x ∈ env, dyB DL [j] x.1 = false → (x.2.drop p).frz p v = x.2) : ∀ t a, look env t = some a → dyB DL [j] t = false → (a.drop p).frz p v = a := fun t a h1 h2 => h _ (look_memE h1) h2

def dropDL (DL : List (Tmp × Nat)) : Env → Env
  | [] => []
  | (t, a) :: r => match DL.any fun y => Nat.beq y.1 t with | true => dropDL DL r | false => (t, a) :: dropDL DL r
theorem look_dropDL {DL : List (Tmp × Nat)} : ∀ {env : Env} {u : Tmp} {a : AV}, look (dropDL DL env) u = some a → look env u = some a ∧ ∀ x ∈ DL, x.1 ≠ u
  | [], _, _, h => by simp [dropDL, look] at h
  | (t, b) :: r, u, a, h => by
    simp only [dropDL] at h
    split at h
    · rename_i hd
      obtain ⟨h1, h2⟩ := look_dropDL h
      refine ⟨?_, h2⟩
      simp only [look]
      split
      · rename_i e
        obtain ⟨y, hy, hyt⟩ := List.any_eq_true.1 hd
        have e1 : y.1 = t := Nat.eq_of_beq_eq_true hyt
        have e2 : t = u := by simpa using e
        exact absurd (e1.trans e2) (h2 y hy)
      · exact h1
    · rename_i hd
      simp only [look] at h ⊢
      split at h
      · rename_i e
        have e2 : t = u := by simpa using e
        subst e2
        refine ⟨h, fun x hx e1 => ?_⟩
        rw [List.any_eq_false] at hd
        exact hd x hx (by simp [e1])
      · exact look_dropDL h

/-- The region: its quiet operations shown together, those that act one by one; what dies in it is not known behind it. -/
theorem sat_drawK (m kk : Nat) (A : Acts) (DL : List (Tmp × Nat)) (O : List Nat → List (Option AObj)) (E : Env) {id : Nat} {objsF : List (Option AObj)} (hT : TabOk P T) (hf : P.funcs[f]? = some fn) (hmx : P.follows .mixedOrders = true) (h : srun T n fn.results.toList 2000 True todo env objs = .draw nd id ops k env' objs') (hn : nd)
    (hB : drawZ ops m = true) (hsee : seeB ops m A = true) (hO0 : O [] = objs' ++ List.replicate kk (some HD)) (hOF : ∀ L, (∀ i, i < m → i ∈ L) → O L = objsF) (hOj : ∀ j L, actB A j = false → O (j :: L) = O L)
    (hAm : (A.all fun x => Nat.blt x.1 m) = true) (hdy : dyOk ops m DL = true) (hD : ∀ L, DSat P n C.X (O L) ops (fun x => x = E) (quietOps ops m A) env')
    (hA : ∀ x ∈ A, ∃ oe, ops[x.1]? = some oe ∧ oe.dst = x.2.map (·.1) ∧ HeadK P n C O m ops (actE A ++ E) DL x.1 oe)
    (hk : ASat P f n C (.inRegion ops (List.range' m (ops.size - m)) :: k) (dropDL DL (actE A ++ E)) objsF R) (hGk : GOk P C.π C.objs C.w := by with_reducible assumption) : ASat P f n C todo env objs R := by
  have hq : ∀ {j : Nat} {o : Oper}, j < m → actB A j = false → ops[j]? = some o → o ∈ quietOps ops m A := by
    intro j o hj hb ho
    unfold quietOps
    rw [List.mem_filterMap]
    exact ⟨j, List.mem_filter.2 ⟨List.mem_range.2 hj, by rw [hb]; rfl⟩, ho⟩
  have hns : ∀ {j : Nat} {o : Oper}, j < m → actB A j = false → ops[j]? = some o → ∀ x ∈ actE A, x.1 ∉ o.looksAt ops ∧ o.dst ≠ some x.1 := by
    intro j o hj hb ho x hx
    have h1 := List.all_eq_true.1 hsee j (List.mem_range.2 hj)
    rw [hb, ho] at h1
    have h1' : ((actE A).all fun x => !(o.looksAt ops).contains x.1 && o.dst != some x.1) = true := by simpa only [Bool.false_or] using h1
    have h2 := List.all_eq_true.1 h1' x hx
    simpa using h2
  suffices hcc : Cont P f n C R (.draw nd id ops k env' objs') from (run_sound hT hf 2000 True todo env objs (by rw [h]; exact hcc)).2
  refine ⟨hn, sat_pad kk (drawn_soundK (envF := actE A ++ E) (DL := DL) hmx hB ?_ hdy (fun u a hu => look_dropDL hu) hO0 hOF ?_ hk)⟩
  · intro j o hj ho
    cases hb : actB A j with
    | false =>
      refine HeadH.toK DL (headH_of (fun L => hOj j L hb) fun L => ?_)
      obtain ⟨E0, a1, a2, a3, rfl⟩ := hD L
      have hn2 := hns hj hb ho
      refine headOp_env (fun t ht => look_skip fun x hx e => (hn2 x hx).1 (e ▸ ht)) (fun d hd => look_skip fun x hx e => (hn2 x hx).2 (e ▸ hd)) (a3 o (hq hj hb ho))
    | true =>
      obtain ⟨x, hx, hxe⟩ := List.any_eq_true.1 hb
      obtain rfl : x.1 = j := Nat.eq_of_beq_eq_true hxe
      obtain ⟨oe, h1, _, h3⟩ := hA x hx
      rw [ho] at h1
      cases h1
      exact h3
  · intro t ht a ha
    have hne : ∀ x ∈ actE A, x.1 ≠ t := by
      rintro x hx rfl
      obtain ⟨y, hy, hyx⟩ := List.mem_filterMap.1 hx
      obtain ⟨oe, h1, h2, _⟩ := hA y hy
      rw [hyx] at h2
      have hym := List.all_eq_true.1 hAm y hy
      have := ht y.1 (by simpa [Nat.blt_eq] using hym)
      rw [dstIs_iff.2 ⟨oe, h1, by simpa using h2⟩] at this
      cases this
    rw [look_skip hne] at ha
    obtain ⟨E0, a1, a2, a3, rfl⟩ := hD []
    refine a1 t (fun o ho hd => ?_) a ha
    unfold quietOps at ho
    rw [List.mem_filterMap] at ho
    obtain ⟨j, hj, ho⟩ := ho
    have hj := List.mem_range.1 (List.mem_filter.1 hj).1
    have := ht j hj
    rw [dstIs_iff.2 ⟨o, ho, hd⟩] at this
    cases this
end
end Ab
set_option linter.unusedSimpArgs false
set_option linter.unusedVariables false
set_option linter.unusedSectionVars false
namespace Ab
open Go
variable [Draws]

/-- What a call does that returns or panics. -/
def ACallP (P : Program) [Globals P] (f : FuncId) (az : List AV) (objs : List (Option AObj)) (R : AV → List (Option AObj) → Prop) (Pn : D → Prop) : Prop :=
  ∀ X π w vs, GOk P π objs w → Mem X π objs w → RelVs w (okOf X π objs) π az vs → Invokes P f vs.toArray w (APost ⟨X, π, objs, w, [], Pn⟩ R)
theorem ACallP.mono {P : Program} [Globals P] {f : FuncId} {az : List AV} {objs : List (Option AObj)} {R R' : AV → List (Option AObj) → Prop} {Pn Pn' : D → Prop} (h : ACallP P f az objs R Pn) (hr : ∀ r o, R r o → R' r o) (hp : ∀ x, Pn x → Pn' x) : ACallP P f az objs R' Pn' :=
  fun X π w vs g m hv => (h X π w vs g m hv).mono fun e w' hq => hq.imp (fun ⟨v, r, o, π', h1, h2, h3⟩ => ⟨v, r, o, π', h1, hr _ _ h2, h3⟩) (fun ⟨v, x, o, π', h1, h2, h3⟩ => ⟨v, x, o, π', h1, hp _ h2, h3⟩)
section
variable {P : Program} [Globals P] {T : Tab} {f : FuncId} {fn : Func} {n : Nat} {C : Cx} {R : AV → List (Option AObj) → Prop} {todo todo' : List Item} {env env' : Env} {objs objs' : List (Option AObj)} {nd : Prop}

end
end Ab
set_option linter.unusedSimpArgs false
set_option linter.unusedVariables false
set_option linter.unusedSectionVars false
namespace Ab
open Go
variable [Draws]

section
variable {P : Program} [Globals P] {T : Tab} {f : FuncId} {fn : Func} {n : Nat} {C : Cx} {R : AV → List (Option AObj) → Prop} {todo todo' k : List Item} {env env' : Env} {objs objs' : List (Option AObj)} {nd : Prop}

end

section
variable {P : Program} [Globals P]
end
end Ab
set_option linter.unusedSimpArgs false
set_option linter.unusedVariables false
set_option linter.unusedSectionVars false
namespace Ab
open Go
variable [Draws]

section
variable {P : Program} [Globals P] {T : Tab} {f : FuncId} {fn : Func} {n : Nat} {C : Cx} {R : AV → List (Option AObj) → Prop} {todo todo' k : List Item} {env env' : Env} {objs objs' : List (Option AObj)} {nd : Prop}

end
end Ab
namespace Ab
open Go
end Ab
namespace Ab
open Go
variable [Draws]
theorem OLe.cellsV {e : TypeId} {cs ds : List AV} (h : VLs cs ds) : OLe (.cells e cs) (.cells e ds) := by
  intro w ok π v hv
  cases hv with
  | cells hb h1 hf => exact .cells hb (h.rel h1) hf
theorem VLe.dead {a : AV} : VLe a .dead := fun _ _ _ _ _ => .dead
theorem VLe.tp {cs ds : List AV} (h : VLs cs ds) : VLe (.tp cs) (.tp ds) := by
  intro w ok π v hv
  cases hv with
  | tp h1 => exact .tp (h.rel h1)
end Ab
namespace Go.Proofs.YtjjlipbddlignaaGreatDoor
open Go Ab Go.RowKit Go.Lib
set_option maxRecDepth 100000
set_option linter.unusedVariables false
set_option linter.unusedSimpArgs false
set_option maxHeartbeats 4000000

@[reducible] def gI (l : List Int) : AObj := .grow 3 1 (l.map eI) (fun i => eI (l.getD i 0))
@[reducible] def zNd : AObj := .cells 43 [.d (dSL []), .d (eI 0), .d (.v (.slice none 0 0)), .d (.v (.slice none 0 0)), .d (dSL [])]
@[reducible] def xNd (x : Nd) (i j : Nat) : AObj := .cells 43 [.d (dSL x.op), .d (eI x.s), .gs i, .gs j, .d (dSL x.t)]
@[reducible] def rdC (b : List UInt8) (st : Rs) : AObj := .cells 67 [.d (eBy b), vI .i64 st.1, vI .i64 st.2]
@[reducible] def ndO (b f : List UInt8) (p : Nat) (q : Nd × Rs) : List (Option AObj) := [some (rdC b q.2), some zNd, some (xNd q.1 4 5), some (.siter ⟨f.toArray⟩ p), some (gI q.1.a), some (gI q.1.n)]
theorem letS_len {b : List UInt8} {id : Int} (q : Nd × Rs) (c : UInt8) (hc : c ≠ 119) : (letS b id q c).1.a.length ≤ q.1.a.length + 1 ∧ (letS b id q c).1.n.length ≤ q.1.n.length + 1 := by
  unfold letS
  simp only
  repeat' split
  all_goals first | (simp only [List.length_append, List.length_cons, List.length_nil]; omega) | (exfalso; exact hc (by assumption)) | (simp only; omega)
theorem fold_len {b : List UInt8} {id : Int} : ∀ (f : List UInt8) (q : Nd × Rs), 119 ∉ f → (f.foldl (letS b id) q).1.a.length ≤ q.1.a.length + f.length ∧ (f.foldl (letS b id) q).1.n.length ≤ q.1.n.length + f.length
  | [], q, _ => ⟨Nat.le_refl _, Nat.le_refl _⟩
  | c :: f, q, h => by
    have h1 := letS_len (b := b) (id := id) q c (fun e => h (by rw [e]; exact List.mem_cons_self))
    have h2 := fold_len (b := b) (id := id) f (letS b id q c) (fun e => h (List.mem_cons_of_mem _ e))
    rw [List.foldl_cons, List.length_cons]
    omega
theorem form_w (op : List UInt8) : frm op = [119] ∨ 119 ∉ frm op := by
  rcases form_cases op with ⟨_, e⟩ | ⟨_, e⟩
  · rw [e]
    exact .inr List.not_mem_nil
  · rcases e with e | e | e | e | e | e | e | e | e <;> rw [e] <;> decide
theorem dle_nil {s : Nat} {rd : Nat → D} : DLe (.v (.slice none 0 0)) (.sl s [] rd) := fun _ _ _ h => by
  cases h
  exact .nil (Nat.zero_le _)
theorem catS (a b : List UInt8) : (⟨a.toArray⟩ : ByteArray) ++ ⟨b.toArray⟩ = ⟨(a ++ b).toArray⟩ := by
  apply ByteArray.ext
  simp
theorem node_call (b : List UInt8) (id : Int) (st : Rs) (hp : Pl b st) (hb : b.length ≤ 1000000) (hi : 0 ≤ id ∧ id ≤ 1000000) : ACall Tryz.prog 33 [.ptr 0 0, vI .i64 id] (rdO b st) (fun r o => r = .d (eNd (nodeS b id st).1) ∧ o = rdO b (nodeS b id st).2) := by
  refine acall_enter Tryz.func33 rfl rfl (Nat.le_of_ble_eq_true rfl) fun C hC hCl hDs hGk => ?_
  have hit := Go.Lib.itoa_length_le id (by omega) (by omega)
  refine sat_call tabOk Tryz.func33 rfl trivial (Itoa_call id (by omega) (by omega)) (.refl _) rfl ⟨_, rfl⟩ (by rintro r o rfl; rfl) ?_
  rintro _ o rfl
  refine sat_callG [0] tabOk Tryz.func33 rfl ?nd (word_call b (tItoa id ++ [32]) st hb (by rw [List.length_append]; show (Go.Lib.itoa id).length + 1 ≤ _; omega)) ⟨⟨_, rfl, .refl _⟩, trivial⟩ ⟨.refl _, .of ?vl, trivial⟩ rfl rfl rfl ⟨_, rfl⟩ ?_
  case nd =>
    rw [sizeBy]
    show (Go.Lib.itoa id).length + 1 ≤ _ ∧ True
    exact ⟨by omega, trivial⟩
  case vl => exact congrArg (fun z => AV.d (D.v (Value.string z))) (catS (tItoa id) [32])
  rintro r o ⟨rfl, rfl⟩
  have hp1 := wordS_pl (s := tItoa id ++ [32]) hp
  have hN : nodeS b id st = (fun r : Nd × Rs => (r.1, wordS b [10] r.2)) ((opS b (wordS b (tItoa id ++ [32]) st)).2.1.foldl (letS b id) (⟨(opS b (wordS b (tItoa id ++ [32]) st)).1, 0, [], [], []⟩, (opS b (wordS b (tItoa id ++ [32]) st)).2.2)) := rfl
  rw [hN]
  generalize wordS b (tItoa id ++ [32]) st = st1 at *
  refine sat_callG [0] tabOk Tryz.func33 rfl trivial (op_call b st1 hp1 hb) ⟨⟨_, rfl, .refl _⟩, trivial⟩ (.refl _) rfl rfl rfl ⟨_, rfl⟩ ?_
  rintro r o ⟨rfl, rfl⟩
  have hp2 := opS_pl hp1
  have hf : (opS b st1).2.1 = frm (opS b st1).1 := by
    unfold opS
    split
    · rfl
    · rfl
  rw [hf]
  have hasc := form_ascii (opS b st1).1
  have hfl := form_len (opS b st1).1
  have hfw := form_w (opS b st1).1
  generalize frm (opS b st1).1 = f at *
  generalize (opS b st1).2.2 = st2 at *
  generalize (opS b st1).1 = op at *
  refine sat_steps 30 tabOk Tryz.func33 rfl trivial ?_
  refine sat_rangeS (s := ⟨f.toArray⟩) tabOk rfl rfl rfl rfl rfl rfl rfl ?_
  refine sat_stop tabOk Tryz.func33 rfl trivial ?_
  have eid : IntKind.i64.wrap (id - 1) = id - 1 := wrap_id (by omega) (by omega)
  have eqc : ∀ c k : UInt8, ((c.toNat : Int) == (k.toNat : Int)) = decide (c = k) := fun c k => by
    rw [Bool.eq_iff_iff, beq_iff_eq, decide_eq_true_eq]
    exact ⟨fun h => UInt8.toNat_inj.1 (by omega), fun h => by rw [h]⟩
  rcases hfw with rfl | hfw
  · have hdec := decode_drop [119] 0
    rw [show ([119] : List UInt8).drop 0 = [119] from rfl, decL_ascii (by decide)] at hdec
    refine sat_le (env' := [(0, .ptr 0 0), (1, vI .i64 id), (4, .ptr 1 0), (5, .ptr 2 0), (23, .ptr 3 0)]) (objs' := [some (rdC b st2), some zNd, some (.cells 43 [.d (dSL op), .d (eI 0), .d (.v (.slice none 0 0)), .d (.v (.slice none 0 0)), .d (dSL [])]), some (.siter ⟨([119] : List UInt8).toArray⟩ 0)]) ?_ hC hCl ⟨⟨_, rfl, .refl _⟩, ⟨_, rfl, .refl _⟩, ⟨_, rfl, .refl _⟩, ⟨_, rfl, .refl _⟩, ⟨_, rfl, .refl _⟩, trivial⟩ ⟨.refl _, .refl _, .refl _, .refl _, trivial⟩ rfl rfl (Nat.le_of_ble_eq_true rfl)
    refine sat_loop1 ?_
    refine sat_steps 2 tabOk Tryz.func33 rfl trivial ?_
    refine sat_nextS (s := ⟨([119] : List UInt8).toArray⟩) (pos := 0) rfl rfl rfl rfl rfl (by decide) rfl ?_
    rw [hdec]
    refine sat_branch tabOk Tryz.func33 rfl trivial (fun _ => ?_) (fun h => by cases h)
    refine sat_branch tabOk Tryz.func33 rfl trivial (fun _ => ?_) (fun h => by cases h)
    refine sat_callG [0] tabOk Tryz.func33 rfl trivial (word_call b [32] st2 hb (by decide)) ⟨⟨_, rfl, .refl _⟩, trivial⟩ (.refl _) rfl rfl rfl ⟨_, rfl⟩ ?_
    rintro r o ⟨rfl, rfl⟩
    have hpw := wordS_pl (s := [32]) hp2
    have hlS : ([119] : List UInt8).foldl (letS b id) (⟨op, 0, [], [], []⟩, st2) = (⟨op, 0, [], [(widthS b (wordS b [32] st2)).1], []⟩, (widthS b (wordS b [32] st2)).2) := rfl
    rw [hlS]
    clear hlS
    generalize wordS b [32] st2 = st3 at *
    refine sat_branch tabOk Tryz.func33 rfl trivial (fun h => by cases h) (fun _ => ?_)
    refine sat_branch tabOk Tryz.func33 rfl trivial (fun h => by cases h) (fun _ => ?_)
    refine sat_branch tabOk Tryz.func33 rfl trivial (fun h => by cases h) (fun _ => ?_)
    refine sat_branch tabOk Tryz.func33 rfl trivial (fun _ => ?_) (fun h => by cases h)
    refine sat_callG [0] tabOk Tryz.func33 rfl trivial (width_call b st3 hpw hb) ⟨⟨_, rfl, .refl _⟩, trivial⟩ (.refl _) rfl rfl rfl ⟨_, rfl⟩ ?_
    rintro r o ⟨rfl, rfl⟩
    generalize (widthS b st3).1 = w
    generalize (widthS b st3).2 = st4
    refine sat_stop tabOk Tryz.func33 rfl trivial ?_
    refine sat_le (env' := [(0, .ptr 0 0), (1, vI .i64 id), (4, .ptr 1 0), (5, .ptr 2 0), (23, .ptr 3 0)]) (objs' := [some (rdC b st4), some zNd, some (.cells 43 [.d (dSL op), .d (eI 0), .d (.v (.slice none 0 0)), .d (eIs [w]), .d (dSL [])]), some (.siter ⟨([119] : List UInt8).toArray⟩ 1)]) ?_ hC hCl ⟨⟨_, rfl, .refl _⟩, ⟨_, rfl, .refl _⟩, ⟨_, rfl, .refl _⟩, ⟨_, rfl, .refl _⟩, ⟨_, rfl, .refl _⟩, trivial⟩ ⟨.refl _, .refl _, ?ow, .refl _, trivial⟩ rfl rfl (Nat.le_of_ble_eq_true rfl)
    case ow => exact OLe.cellsV ⟨.refl _, .refl _, .refl _, VLe.eL (l := [w]) rfl, .refl _, trivial⟩
    refine sat_in1 ?_
    refine sat_steps 2 tabOk Tryz.func33 rfl trivial ?_
    refine sat_nextE (s := ⟨([119] : List UInt8).toArray⟩) (pos := 1) rfl rfl rfl rfl rfl (by decide) rfl ?_
    refine sat_branch tabOk Tryz.func33 rfl trivial (fun h => by cases h) (fun _ => ?_)
    refine sat_callG [0] tabOk Tryz.func33 rfl trivial (word_call b [10] st4 hb (by decide)) ⟨⟨_, rfl, .refl _⟩, trivial⟩ (.refl _) rfl rfl rfl ⟨_, rfl⟩ ?_
    rintro r o ⟨rfl, rfl⟩
    exact sat_retL tabOk Tryz.func33 rfl trivial hC hCl (r2 := .d (eNd ⟨op, 0, [], [w], []⟩)) (VLe.dag ⟨.refl _, .refl _, dle_nil, .refl _, .refl _, trivial⟩) (o2 := rdO b (wordS b [10] st4)) ⟨.refl _, trivial⟩ rfl rfl (Nat.le_refl _) ⟨rfl, rfl⟩
  refine sat_ownCell 2 2 (e' := 3) (s := 1) (fun i => eI (([] : List Int).getD i 0)) rfl rfl ?_
  refine sat_ownCell 2 3 (e' := 3) (s := 1) (fun i => eI (([] : List Int).getD i 0)) rfl rfl ?_
  refine sat_while (α := Nat) (fun p => [(0, .ptr 0 0), (1, vI .i64 id), (4, .ptr 1 0), (5, .ptr 2 0), (23, .ptr 3 0)]) (fun p => ndO b f p ((f.take p).foldl (letS b id) (⟨op, 0, [], [], []⟩, st2))) (fun p => p ≤ f.length) (fun p => f.length - p) 0 (Nat.zero_le _) ?_ ?_
  · exact fun h => sat_le h hC hCl ⟨⟨_, rfl, .refl _⟩, ⟨_, rfl, .refl _⟩, ⟨_, rfl, .refl _⟩, ⟨_, rfl, .refl _⟩, ⟨_, rfl, .refl _⟩, trivial⟩ ⟨.refl _, .refl _, .refl _, .refl _, .refl _, .refl _, trivial⟩ rfl rfl (Nat.le_of_ble_eq_true rfl)
  rintro p hpl ih
  have hpf := fold_pl (b := b) (id := id) (f.take p) (⟨op, 0, [], [], []⟩, st2) hp2
  have hlen := fold_len (b := b) (id := id) (f.take p) (⟨op, 0, [], [], []⟩, st2) (fun h => hfw (List.mem_of_mem_take h))
  rw [List.length_take] at hlen
  simp only [List.length_nil] at hlen
  by_cases hlt : p < f.length
  · have hst : (f.take (p + 1)).foldl (letS b id) (⟨op, 0, [], [], []⟩, st2) = letS b id ((f.take p).foldl (letS b id) (⟨op, 0, [], [], []⟩, st2)) f[p] := by
      rw [List.take_succ_eq_append_getElem hlt, List.foldl_append]
      rfl
    have hc : f[p].toNat < 128 := hasc _ (List.getElem_mem hlt)
    have hcw : f[p] ≠ 119 := fun e => hfw (e ▸ List.getElem_mem hlt)
    have hdec := decode_drop f p
    rw [List.drop_eq_getElem_cons hlt, decL_ascii hc] at hdec
    have ih := ih (p + 1) (by omega) (by omega)
    rw [hst] at ih
    generalize (f.take p).foldl (letS b id) (⟨op, 0, [], [], []⟩, st2) = q at *
    obtain ⟨x, st⟩ := q
    simp only at hpf hlen
    generalize f[p] = c at *
    refine sat_steps 2 tabOk Tryz.func33 rfl trivial ?_
    refine sat_nextS (s := ⟨f.toArray⟩) (pos := p) rfl rfl rfl rfl rfl (by rw [sizeBy]; exact hlt) rfl ?_
    rw [hdec]
    have eqk : ∀ k : UInt8, ((c.toNat : Int) == (k.toNat : Int)) = true → c = k := fun k h => by rw [eqc] at h; exact of_decide_eq_true h
    have nek : ∀ k : UInt8, ((c.toNat : Int) == (k.toNat : Int)) = false → c ≠ k := fun k h => by rw [eqc] at h; exact of_decide_eq_false h
    refine sat_branch tabOk Tryz.func33 rfl trivial (fun _ => ?_) (fun h => by cases h)
    refine sat_branch tabOk Tryz.func33 rfl trivial (fun h0 => ?_) (fun h0 => ?_)
    rotate_left
    · have h0 : ((c.toNat : Int) != 109) = false := h0
      obtain rfl : c = 109 := eqk 109 (by simpa using h0)
      refine sat_branch tabOk Tryz.func33 rfl trivial (fun h => by cases h) (fun _ => ?_)
      refine sat_branch tabOk Tryz.func33 rfl trivial (fun h => by cases h) (fun _ => ?_)
      refine sat_branch tabOk Tryz.func33 rfl trivial (fun h => by cases h) (fun _ => ?_)
      refine sat_branch tabOk Tryz.func33 rfl trivial (fun h => by cases h) (fun _ => ?_)
      refine sat_branch tabOk Tryz.func33 rfl trivial (fun h => by cases h) (fun _ => ?_)
      refine sat_branch tabOk Tryz.func33 rfl trivial (fun _ => ?_) (fun h => by cases h)
      refine sat_callG [0] tabOk Tryz.func33 rfl trivial (name_call b st hb) ⟨⟨_, rfl, .refl _⟩, trivial⟩ (.refl _) rfl rfl rfl ⟨_, rfl⟩ ?_
      rintro r o ⟨rfl, rfl⟩
      refine sat_stop tabOk Tryz.func33 rfl trivial ?_
      exact sat_le ih hC hCl ⟨⟨_, rfl, .refl _⟩, ⟨_, rfl, .refl _⟩, ⟨_, rfl, .refl _⟩, ⟨_, rfl, .refl _⟩, ⟨_, rfl, .refl _⟩, trivial⟩ ⟨.refl _, .refl _, .refl _, .refl _, .refl _, .refl _, trivial⟩ rfl rfl (Nat.le_of_ble_eq_true rfl)
    have h0 : ((c.toNat : Int) != 109) = true := h0
    have n109 : c ≠ 109 := nek 109 (by simpa using h0)
    refine sat_callG [0] tabOk Tryz.func33 rfl trivial (word_call b [32] st hb (by decide)) ⟨⟨_, rfl, .refl _⟩, trivial⟩ (.refl _) rfl rfl rfl ⟨_, rfl⟩ ?_
    rintro r o ⟨rfl, rfl⟩
    have hpw := wordS_pl (s := [32]) hpf
    have hlS : letS b id (x, st) c = (fun st => if c = 115 then ({ x with s := (numS b 1 (id - 1) st).1 }, (numS b 1 (id - 1) st).2)
      else if c = 97 then ({ x with a := x.a ++ [(numS b 1 (id - 1) st).1] }, (numS b 1 (id - 1) st).2)
      else if c = 110 then ({ x with n := x.n ++ [(numS b 0 128 st).1] }, (numS b 0 128 st).2)
      else if c = 119 then ({ x with n := [(widthS b st).1] }, (widthS b st).2)
      else if c = 98 then ({ x with t := (bitsS b st).1 }, (bitsS b st).2)
      else if c = 109 then ({ x with t := (nameS b st).1 }, (nameS b st).2)
      else (x, st)) (wordS b [32] st) := by
      unfold letS
      simp only [if_neg n109]
    rw [hlS] at ih
    simp only at ih
    clear hlS
    generalize wordS b [32] st = st3 at *
    refine sat_branch tabOk Tryz.func33 rfl trivial (fun h => ?_) (fun h => ?_)
    · obtain rfl : c = 115 := eqk 115 h
      rw [if_pos rfl] at ih
      refine sat_callG [0] tabOk Tryz.func33 rfl trivial (number_call b st3 1 (id - 1) hb) ⟨⟨_, rfl, .refl _⟩, trivial⟩ ⟨.refl _, .refl _, .of (congrArg (fun z => vI .i64 z) eid), trivial⟩ rfl rfl rfl ⟨_, rfl⟩ ?_
      rintro r o ⟨rfl, rfl⟩
      refine sat_stop tabOk Tryz.func33 rfl trivial ?_
      exact sat_le ih hC hCl ⟨⟨_, rfl, .refl _⟩, ⟨_, rfl, .refl _⟩, ⟨_, rfl, .refl _⟩, ⟨_, rfl, .refl _⟩, ⟨_, rfl, .refl _⟩, trivial⟩ ⟨.refl _, .refl _, .refl _, .refl _, .refl _, .refl _, trivial⟩ rfl rfl (Nat.le_of_ble_eq_true rfl)
    rw [if_neg (nek 115 h)] at ih
    refine sat_branch tabOk Tryz.func33 rfl trivial (fun h => ?_) (fun h => ?_)
    · obtain rfl : c = 97 := eqk 97 h
      rw [if_pos rfl] at ih
      generalize hr0 : (numS b 1 (id - 1) st3).1 = r0 at ih
      refine sat_drawX1 7 5 [(6, some (47, .d (.sl 1 [eI r0] (litRd [eI r0])))), (5, some (46, vI .i64 r0))] [some (rdC b (numS b 1 (id - 1) st3).2), some zNd, some (xNd x 4 5), some (.siter ⟨f.toArray⟩ (p + 1)), some (gI x.a), some (gI x.n)] _ tabOk Tryz.func33 rfl rfl trivial (by kernel_rfl) (by kernel_rfl) rfl rfl rfl (ds_done tabOk rfl trivial rfl) (ds_done tabOk rfl trivial rfl) ?_ ?_
      · refine List.forall_mem_cons.2 ⟨⟨_, rfl, rfl, ?_⟩, List.forall_mem_cons.2 ⟨⟨_, rfl, rfl, ?_⟩, fun x h => by cases h⟩⟩
        · exact headX_val1 tabOk rfl (fun _ _ _ h => h) rfl rfl (show (6 : Nat) ≠ 5 by decide) trivial rfl rfl rfl
        · refine headX_call1 [0] (fun _ _ _ h => h) rfl rfl rfl rfl rfl rfl (callFunc_run Tryz.func49 rfl rfl) (number_call b st3 1 (id - 1) hb) ⟨⟨_, rfl, .refl _⟩, trivial⟩ ⟨.refl _, .refl _, .of (congrArg (fun z => vI .i64 z) eid), trivial⟩ rfl rfl rfl ?_
          rintro r o ⟨rfl, rfl⟩
          exact ⟨by rw [hr0]; rfl, rfl⟩
      refine sat_stop tabOk Tryz.func33 rfl ?nd ?_
      case nd =>
        rw [List.length_map]
        show (x.a.length + 1) * 8 ≤ 140737488355328 ∧ True
        exact ⟨by omega, trivial⟩
      refine sat_le ih hC hCl ⟨⟨_, rfl, .refl _⟩, ⟨_, rfl, .refl _⟩, ⟨_, rfl, .refl _⟩, ⟨_, rfl, .refl _⟩, ⟨_, rfl, .refl _⟩, trivial⟩ ⟨.refl _, .refl _, .refl _, .refl _, .grow ?_ (map_rd eI 0 _), .refl _, trivial⟩ rfl rfl (Nat.le_of_ble_eq_true rfl)
      rw [List.map_append]
      rfl
    rw [if_neg (nek 97 h)] at ih
    refine sat_branch tabOk Tryz.func33 rfl trivial (fun h => ?_) (fun h => ?_)
    · obtain rfl : c = 110 := eqk 110 h
      rw [if_pos rfl] at ih
      generalize hr0 : (numS b 0 128 st3).1 = r0 at ih
      refine sat_drawX1 5 3 [(4, some (56, .d (.sl 1 [eI r0] (litRd [eI r0])))), (3, some (55, vI .i64 r0))] [some (rdC b (numS b 0 128 st3).2), some zNd, some (xNd x 4 5), some (.siter ⟨f.toArray⟩ (p + 1)), some (gI x.a), some (gI x.n)] _ tabOk Tryz.func33 rfl rfl trivial (by kernel_rfl) (by kernel_rfl) rfl rfl rfl (ds_done tabOk rfl trivial rfl) (ds_done tabOk rfl trivial rfl) ?_ ?_
      · refine List.forall_mem_cons.2 ⟨⟨_, rfl, rfl, ?_⟩, List.forall_mem_cons.2 ⟨⟨_, rfl, rfl, ?_⟩, fun x h => by cases h⟩⟩
        · exact headX_val1 tabOk rfl (fun _ _ _ h => h) rfl rfl (show (4 : Nat) ≠ 3 by decide) trivial rfl rfl rfl
        · refine headX_call1 [0] (fun _ _ _ h => h) rfl rfl rfl rfl rfl rfl (callFunc_run Tryz.func49 rfl rfl) (number_call b st3 0 128 hb) ⟨⟨_, rfl, .refl _⟩, trivial⟩ (.refl _) rfl rfl rfl ?_
          rintro r o ⟨rfl, rfl⟩
          exact ⟨by rw [hr0]; rfl, rfl⟩
      refine sat_stop tabOk Tryz.func33 rfl ?nd ?_
      case nd =>
        rw [List.length_map]
        show (x.n.length + 1) * 8 ≤ 140737488355328 ∧ True
        exact ⟨by omega, trivial⟩
      refine sat_le ih hC hCl ⟨⟨_, rfl, .refl _⟩, ⟨_, rfl, .refl _⟩, ⟨_, rfl, .refl _⟩, ⟨_, rfl, .refl _⟩, ⟨_, rfl, .refl _⟩, trivial⟩ ⟨.refl _, .refl _, .refl _, .refl _, .refl _, .grow ?_ (map_rd eI 0 _), trivial⟩ rfl rfl (Nat.le_of_ble_eq_true rfl)
      rw [List.map_append]
      rfl
    rw [if_neg (nek 110 h)] at ih
    refine sat_branch tabOk Tryz.func33 rfl trivial (fun h => ?_) (fun h => ?_)
    · exact absurd (eqk 119 h) hcw
    rw [if_neg (nek 119 h)] at ih
    refine sat_branch tabOk Tryz.func33 rfl trivial (fun h => ?_) (fun h => ?_)
    · obtain rfl : c = 98 := eqk 98 h
      rw [if_pos rfl] at ih
      refine sat_callG [0] tabOk Tryz.func33 rfl trivial (bits_call b st3 hb) ⟨⟨_, rfl, .refl _⟩, trivial⟩ (.refl _) rfl rfl rfl ⟨_, rfl⟩ ?_
      rintro r o ⟨rfl, rfl⟩
      refine sat_stop tabOk Tryz.func33 rfl trivial ?_
      exact sat_le ih hC hCl ⟨⟨_, rfl, .refl _⟩, ⟨_, rfl, .refl _⟩, ⟨_, rfl, .refl _⟩, ⟨_, rfl, .refl _⟩, ⟨_, rfl, .refl _⟩, trivial⟩ ⟨.refl _, .refl _, .refl _, .refl _, .refl _, .refl _, trivial⟩ rfl rfl (Nat.le_of_ble_eq_true rfl)
    rw [if_neg (nek 98 h), if_neg n109] at ih
    refine sat_branch tabOk Tryz.func33 rfl trivial (fun h => ?_) (fun h => ?_)
    · exact absurd (eqk 109 h) n109
    refine sat_stop tabOk Tryz.func33 rfl trivial ?_
    exact sat_le ih hC hCl ⟨⟨_, rfl, .refl _⟩, ⟨_, rfl, .refl _⟩, ⟨_, rfl, .refl _⟩, ⟨_, rfl, .refl _⟩, ⟨_, rfl, .refl _⟩, trivial⟩ ⟨.refl _, .refl _, .refl _, .refl _, .refl _, .refl _, trivial⟩ rfl rfl (Nat.le_of_ble_eq_true rfl)
  · obtain rfl : p = f.length := by omega
    rw [List.take_length] at hpf ⊢
    generalize f.foldl (letS b id) (⟨op, 0, [], [], []⟩, st2) = q at *
    obtain ⟨x, st⟩ := q
    simp only at hpf
    refine sat_steps 2 tabOk Tryz.func33 rfl trivial ?_
    refine sat_nextE (s := ⟨f.toArray⟩) (pos := f.length) rfl rfl rfl rfl rfl (by rw [sizeBy]; exact hlt) rfl ?_
    refine sat_branch tabOk Tryz.func33 rfl trivial (fun h => by cases h) (fun _ => ?_)
    refine sat_callG [0] tabOk Tryz.func33 rfl trivial (word_call b [10] st hb (by decide)) ⟨⟨_, rfl, .refl _⟩, trivial⟩ (.refl _) rfl rfl rfl ⟨_, rfl⟩ ?_
    rintro r o ⟨rfl, rfl⟩
    refine sat_freeze 4 rfl ?_
    refine sat_freeze 5 rfl ?_
    exact sat_retL tabOk Tryz.func33 rfl trivial hC hCl (.refl _) (o2 := rdO b (wordS b [10] st)) ⟨.refl _, trivial⟩ rfl rfl (Nat.le_refl _) ⟨rfl, rfl⟩
end Go.Proofs.YtjjlipbddlignaaGreatDoor
namespace Go.Proofs.YtjjlipbddlignaaGreatDoor
open Go Ab Go.RowKit Go.Lib
set_option maxRecDepth 100000
set_option linter.unusedVariables false
set_option linter.unusedSimpArgs false
set_option maxHeartbeats 4000000

@[reducible] def gNds (l : List Nd) : AObj := .grow 43 5 (l.map eNd) (fun i => eNd (l.getD i default))
@[reducible] def zBt : AObj := .cells 24 [.d (.v (.slice none 0 0))]
@[reducible] def xBt (i : Nat) : AObj := .cells 24 [.gs i]
@[reducible] def paO (b : List UInt8) (l : List Nd) (st : Rs) : List (Option AObj) := [some zBt, some (rdC b st), some (xBt 3), some (gNds l)]
/-- What is read, and where, or what is wrong. -/
@[reducible] def parA (q : List Nd × Rs) : AV := tupOf [.d (eBt q.1), vI .i64 q.2.1, vI .i64 q.2.2]
theorem node_step {b : List UInt8} {id : Int} {st : Rs} (hp : Pl b st) (h : (nodeS b id st).2.2 = 0) : st.1 + 1 ≤ (nodeS b id st).2.1 ∧ (nodeS b id st).2.1 ≤ b.length := by
  obtain ⟨_, x, q, h1, h2, h3, h4⟩ := node_inv hp h
  rw [h1]
  have hl := congrArg List.length h4
  rw [List.length_drop, List.length_append, List.length_drop] at hl
  have hn : 0 < (nodeT id x).length := List.length_pos_iff.2 (nodeT_ne id x)
  have := hp.1
  have := hp.2.1
  show st.1 + 1 ≤ (q : Int) ∧ (q : Int) ≤ b.length
  omega
theorem bParse_call (b : List UInt8) (hb : b.length ≤ 1000000) : ACall Tryz.prog 18 [.d (eBy b)] [] (fun r o => r = parA (parM b)) := by
  refine acall_enter Tryz.func18 rfl rfl (Nat.le_of_ble_eq_true rfl) fun C hC hCl hDs hGk => ?_
  unfold parM
  refine sat_branch tabOk Tryz.func18 rfl trivial (fun h => ?_) (fun h => ?_)
  · have h : decide ((((b.map eU8).length : Nat) : Int) > 100000) = true := h
    rw [decide_eq_true_eq, List.length_map] at h
    rw [if_pos (by omega)]
    exact sat_retL tabOk Tryz.func18 rfl trivial hC hCl (r2 := parA ([], (0, 3))) (.tp ⟨.dag ⟨dle_nil, trivial⟩, .refl _, .refl _, trivial⟩) (o2 := []) trivial rfl rfl (Nat.le_refl _) rfl
  have h : decide ((((b.map eU8).length : Nat) : Int) > 100000) = false := h
  rw [decide_eq_false_iff_not, List.length_map] at h
  rw [if_neg (by omega)]
  generalize hq : parS b (b.length + 1) [] (0, 0) = q at *
  refine sat_stop tabOk Tryz.func18 rfl trivial ?_
  refine sat_ownCell 2 0 (e' := 43) (s := 5) (fun i => eNd (([] : List Nd).getD i default)) rfl rfl ?_
  apply letK (p := ∀ l st, (l, st) = q → ASat Tryz.prog 18 Tryz.f18.ntmps C _ [(0, .d (eBy b)), (2, .ptr 0 0), (5, .ptr 1 0), (6, .ptr 2 0), (3, vI .i64 0), (4, vI .i64 0)] (paO b l st) (fun r o => r = parA (if q.2.2 ≠ 0 then ([], q.2) else q)))
  · intro key
    refine sat_while (α := Nat × List Nd × Rs) (fun s => [(0, .d (eBy b)), (2, .ptr 0 0), (5, .ptr 1 0), (6, .ptr 2 0), (3, vI .i64 0), (4, vI .i64 0)]) (fun s => paO b s.2.1 s.2.2) (fun s => Pl b s.2.2 ∧ 1 ≤ s.1 ∧ s.2.1.length ≤ 5000 ∧ (s.2.2.2 = 0 → (b.length : Int) - s.2.2.1 < s.1) ∧ parS b s.1 s.2.1 s.2.2 = q) (fun s => s.1) (b.length + 1, [], (0, 0)) ⟨⟨Int.le_refl _, Int.natCast_nonneg _, .inl rfl⟩, Nat.le_add_left _ _, Nat.zero_le _, fun _ => by simp only; omega, hq⟩ ?_ ?_
    · exact fun h => sat_le h hC hCl ⟨⟨_, rfl, .refl _⟩, ⟨_, rfl, .refl _⟩, ⟨_, rfl, .refl _⟩, ⟨_, rfl, .refl _⟩, ⟨_, rfl, .refl _⟩, ⟨_, rfl, .refl _⟩, trivial⟩ ⟨.refl _, .refl _, .refl _, .refl _, trivial⟩ rfl rfl (Nat.zero_le _)
    rintro ⟨f, l, st⟩ ⟨hp, hf1, hl, hrem, hcl⟩ ih
    simp only at hp hf1 hl hrem hcl ih ⊢
    obtain ⟨f, rfl⟩ : ∃ k, f = k + 1 := ⟨f - 1, by omega⟩
    rw [parS] at hcl
    refine sat_branch tabOk Tryz.func18 rfl trivial (fun h1 => ?_) (fun h1 => ?_)
    rotate_left
    · have h1 : (st.2 == 0) = false := h1
      rw [beq_eq_false_iff_ne] at h1
      rw [if_neg (fun hh => h1 hh.1)] at hcl
      refine sat_branch tabOk Tryz.func18 rfl trivial (fun h => by cases h) (fun _ => ?_)
      refine sat_steps 2 tabOk Tryz.func18 rfl trivial ?_
      exact sat_le (key l st hcl) hC hCl ⟨⟨_, rfl, .refl _⟩, ⟨_, rfl, .refl _⟩, ⟨_, rfl, .refl _⟩, ⟨_, rfl, .refl _⟩, ⟨_, rfl, .refl _⟩, ⟨_, rfl, .refl _⟩, trivial⟩ ⟨.refl _, .refl _, .refl _, .refl _, trivial⟩ rfl rfl (Nat.zero_le _)
    have h1 : (st.2 == 0) = true := h1
    rw [beq_iff_eq] at h1
    refine sat_branch tabOk Tryz.func18 rfl trivial (fun h2 => ?_) (fun h2 => ?_)
    rotate_left
    · have h2 : decide (st.1 < (((b.map eU8).length : Nat) : Int)) = false := h2
      rw [decide_eq_false_iff_not, List.length_map] at h2
      rw [if_neg (fun hh => h2 hh.2)] at hcl
      refine sat_steps 2 tabOk Tryz.func18 rfl trivial ?_
      exact sat_le (key l st hcl) hC hCl ⟨⟨_, rfl, .refl _⟩, ⟨_, rfl, .refl _⟩, ⟨_, rfl, .refl _⟩, ⟨_, rfl, .refl _⟩, ⟨_, rfl, .refl _⟩, ⟨_, rfl, .refl _⟩, trivial⟩ ⟨.refl _, .refl _, .refl _, .refl _, trivial⟩ rfl rfl (Nat.zero_le _)
    have h2 : decide (st.1 < (((b.map eU8).length : Nat) : Int)) = true := h2
    rw [decide_eq_true_eq, List.length_map] at h2
    rw [if_pos ⟨h1, h2⟩] at hcl
    refine sat_branch tabOk Tryz.func18 rfl trivial (fun h3 => ?_) (fun h3 => ?_)
    · have h3 : ((((l.map eNd).length : Nat) : Int) == 5000) = true := h3
      rw [beq_iff_eq, List.length_map] at h3
      rw [if_pos (by omega)] at hcl
      refine sat_callG [1] tabOk Tryz.func18 rfl trivial (fails_call b st st.1 3) ⟨⟨_, rfl, .refl _⟩, trivial⟩ (.refl _) rfl rfl rfl ⟨_, rfl⟩ ?_
      rintro r o ⟨rfl, rfl⟩
      rw [if_pos h1]
      refine sat_steps 2 tabOk Tryz.func18 rfl trivial ?_
      exact sat_le (key l (st.1, 3) hcl) hC hCl ⟨⟨_, rfl, .refl _⟩, ⟨_, rfl, .refl _⟩, ⟨_, rfl, .refl _⟩, ⟨_, rfl, .refl _⟩, ⟨_, rfl, .refl _⟩, ⟨_, rfl, .refl _⟩, trivial⟩ ⟨.refl _, .refl _, .refl _, .refl _, trivial⟩ rfl rfl (Nat.zero_le _)
    have h3 : ((((l.map eNd).length : Nat) : Int) == 5000) = false := h3
    rw [beq_eq_false_iff_ne, List.length_map] at h3
    rw [if_neg (by omega)] at hcl
    have hw : IntKind.i64.wrap ((((l.map eNd).length : Nat) : Int) + 1) = (l.length : Int) + 1 := by
      rw [List.length_map, wrap_id (by omega) (by omega)]
    have hnc := node_call b ((l.length : Int) + 1) st hp hb (by omega)
    have hnp := nodeS_pl (id := (l.length : Int) + 1) hp
    have hns := fun h => node_step (id := (l.length : Int) + 1) hp h
    generalize nodeS b ((l.length : Int) + 1) st = nq at *
    obtain ⟨x, st'⟩ := nq
    simp only at hnc hnp hns hcl
    refine sat_drawX1 9 7 [(8, some (46, .d (.sl 5 [eNd x] (litRd [eNd x])))), (7, some (45, .d (eNd x)))] [some zBt, some (rdC b st'), some (xBt 3), some (gNds l)] _ tabOk Tryz.func18 rfl rfl trivial (by kernel_rfl) (by kernel_rfl) rfl rfl rfl (ds_done tabOk rfl trivial rfl) (ds_done tabOk rfl trivial rfl) ?_ ?_
    · refine List.forall_mem_cons.2 ⟨⟨_, rfl, rfl, ?_⟩, List.forall_mem_cons.2 ⟨⟨_, rfl, rfl, ?_⟩, fun x h => by cases h⟩⟩
      · exact headX_val1 tabOk rfl (fun _ _ _ h => h) rfl rfl (show (8 : Nat) ≠ 7 by decide) trivial rfl rfl rfl
      · refine headX_call1 [1] (fun _ _ _ h => h) rfl rfl rfl rfl rfl rfl (callFunc_run Tryz.func33 rfl rfl) hnc ⟨⟨_, rfl, .refl _⟩, trivial⟩ ⟨.refl _, .of (congrArg (fun z => vI .i64 z) hw), trivial⟩ rfl rfl rfl ?_
        rintro r o ⟨rfl, rfl⟩
        exact ⟨rfl, rfl⟩
    refine sat_stop tabOk Tryz.func18 rfl ?nd ?_
    case nd =>
      rw [List.length_map]
      show (l.length + 1) * 88 ≤ 140737488355328 ∧ True
      exact ⟨by omega, trivial⟩
    refine sat_le (ih (f, l ++ [x], st') ⟨hnp, ?_, ?_, ?_, hcl⟩ (Nat.lt_succ_self _)) hC hCl ⟨⟨_, rfl, .refl _⟩, ⟨_, rfl, .refl _⟩, ⟨_, rfl, .refl _⟩, ⟨_, rfl, .refl _⟩, ⟨_, rfl, .refl _⟩, ⟨_, rfl, .refl _⟩, trivial⟩ ⟨.refl _, .refl _, .refl _, .grow ?_ (map_rd eNd default _), trivial⟩ rfl rfl (Nat.zero_le _)
    · have := hrem h1
      simp only
      omega
    · simp only [List.length_append, List.length_cons, List.length_nil]
      omega
    · intro he
      have := hns he
      have := hrem h1
      simp only at this ⊢
      omega
    · rw [List.map_append]
      rfl
  rintro l st rfl
  refine sat_branch tabOk Tryz.func18 rfl trivial (fun h1 => ?_) (fun h1 => ?_)
  · have h1 : (st.2 != 0) = true := h1
    rw [bne_iff_ne] at h1
    rw [if_pos h1]
    refine sat_draw0S 11 9 0 (c := none) (a := .dead) (o2 := zBt) tabOk Tryz.func18 rfl rfl trivial (by kernel_rfl) (by kernel_rfl) rfl rfl (fun _ => ds_done tabOk rfl trivial rfl) rfl rfl rfl rfl trivial ?_
    exact sat_retL tabOk Tryz.func18 rfl trivial hC hCl (r2 := parA ([], st)) (.tp ⟨.dag ⟨dle_nil, trivial⟩, .refl _, .refl _, trivial⟩) (o2 := []) trivial rfl rfl (Nat.le_refl _) rfl
  · have h1 : (st.2 != 0) = false := h1
    rw [bne_eq_false_iff_eq] at h1
    rw [if_neg (not_not_intro h1)]
    refine sat_freeze 3 rfl ?_
    refine sat_draw0S 6 5 0 (c := none) (a := .dead) (o2 := bBt l) tabOk Tryz.func18 rfl rfl trivial (by kernel_rfl) (by kernel_rfl) rfl rfl (fun _ => ds_done tabOk rfl trivial rfl) rfl rfl rfl rfl trivial ?_
    refine sat_ret tabOk Tryz.func18 rfl trivial ?_
    obtain ⟨at_, e⟩ := st
    obtain rfl : e = 0 := h1
    rfl
end Go.Proofs.YtjjlipbddlignaaGreatDoor
namespace Go.Proofs.YtjjlipbddlignaaGreatDoor
open Go Ab Go.RowKit
set_option maxRecDepth 100000
set_option linter.unusedVariables false
set_option linter.unusedSimpArgs false
set_option maxHeartbeats 4000000

theorem joinX : Go.Proofs.Builder.Extra Tryz.prog Tryz.joinL_ren := {
  sizeBuilder := by kernel_rfl
  liesBuilder := by kernel_rfl
  t5 := Tryz.underlying5
  a5 := Tryz.isAgg5
  z5 := Tryz.sizeOf5
  v5 := Tryz.zeroValue5
  infoByte := by kernel_rfl
  cellsByte := by kernel_rfl
  sizeByte := by kernel_rfl
  neB5 := by decide }
theorem Join_call (xs : List (List UInt8)) (sep : List UInt8) (hne : xs ≠ []) (hN : xs.length ≤ 1000000) (hl : (Go.Lib.join xs sep).length ≤ 140737488355328) : ACall Tryz.prog 22 [.d (eSs xs), vTx sep] [] (fun r o => r = vTx (Go.Lib.join xs sep)) := by
  intro X π w us hgk m hv
  refine .inl ⟨callFunc_run Tryz.func22 rfl rfl _ _, ?_⟩
  cases hv with | cons hv ht => cases ht with | cons hv2 ht => cases ht with | nil =>
  cases hv2 with | d hv2 => cases hv2 with | v _ =>
  cases hv with | d hv =>
  have hv' : RelD w (okOf X π []) (.sl 1 (xs.map fun x => D.v (.string ⟨x.toArray⟩)) (fun i => dSL (xs.getD i []))) _ := hv
  generalize hxs : (xs.map fun x => D.v (Value.string ⟨x.toArray⟩)) = ys at hv'
  cases hv' with
  | nil hb => exact absurd (List.map_eq_nil_iff.1 hxs) hne
  | sl he hm hc hb hr =>
    rename_i b o c us
    subst hxs
    obtain rfl := relE_enc (enc := fun x : List UInt8 => Value.string ⟨x.toArray⟩) he
    have hcell : ∀ (j : Nat) x, (xs.map fun x => (⟨x.toArray⟩ : ByteArray))[j]? = some x → w.cell? ⟨b, o + j, none⟩ = some (.string x) := by
      intro j x hj
      rw [List.getElem?_map] at hj
      obtain ⟨y, hy, rfl⟩ := Option.map_eq_some_iff.1 hj
      have hjl := (List.getElem?_eq_some_iff.1 hy).1
      rw [(hm j (by simpa using hjl)).2, List.getElem?_map, hy]
      rfl
    have hpos : 0 < xs.length := List.length_pos_iff.2 hne
    have hb0 : b < w.heap.size := cell_lt (hcell 0 _ (by rw [List.getElem?_map, List.getElem?_eq_getElem hpos]; rfl))
    have hmm : (xs.map fun x => (⟨x.toArray⟩ : ByteArray)).map (·.data.toList) = xs := by
      rw [List.map_map]
      conv => rhs; rw [← List.map_id xs]
      exact List.map_congr_left fun x _ => rfl
    have hcall := Any.strings_Join Tryz.joinL joinX b o c (xs.map fun x => (⟨x.toArray⟩ : ByteArray)) ⟨sep.toArray⟩ w hcell hb0 (by rw [List.length_map]; omega) (by rw [List.length_map]; simpa using hc) (by rw [hmm]; exact hl)
    rw [hmm, List.length_map] at hcall
    have hll : (xs.map fun x => D.v (Value.string ⟨x.toArray⟩)).length = xs.length := by simp
    rw [hll]
    refine Calls.mono hcall ?_
    rintro e w' ⟨rfl, bl⟩
    have t := tr_plain m bl.os bl.tape ⟨bl.output, Nat.le_refl _⟩ bl.size bl.block
    exact ⟨_, _, [], π, rfl, rfl, t.mem, .d (.v rfl), t.hist⟩
end Go.Proofs.YtjjlipbddlignaaGreatDoor
namespace Go.Proofs.YtjjlipbddlignaaGreatDoor
open Go Ab Go.RowKit
set_option maxRecDepth 100000
set_option linter.unusedVariables false
set_option linter.unusedSimpArgs false
set_option maxHeartbeats 4000000

theorem Grow_call (n : Nat) (h1 : 1 ≤ n) (hn : n ≤ 1000000) (rd : Nat → D) : ACall Tryz.prog 35 [.d (.v (.slice none 0 0)), vI .i64 (n : Int)] [] (fun r o => r = .gs 0 ∧ o = [some (.grow 3 1 [] rd)]) := by
  intro X π w us hgk m hv
  refine .inl ⟨callFunc_run Tryz.func35 rfl rfl _ _, ?_⟩
  cases hv with | cons hv ht => cases ht with | cons hv2 ht => cases ht with | nil =>
  cases hv with | d hv => cases hv with | v _ =>
  cases hv2 with | d hv2 => cases hv2 with | v _ =>
  obtain rfl : π = [] := List.length_eq_zero_iff.1 m.len
  obtain ⟨i0, hi0, hz0, hs0, hb0⟩ : ∃ i0, Tryz.prog.info? (Tryz.growL_ren.t 25) = some i0 ∧ i0.zero = some (.int .i64 0) ∧ i0.size = 1 ∧ i0.bytes = 8 := by
    have h : (Tryz.prog.info? (Tryz.growL_ren.t 25)).map (fun i => (i.zero, i.size, i.bytes)) = some (some (.int .i64 0), 1, 8) := by kernel_rfl
    cases hi : Tryz.prog.info? (Tryz.growL_ren.t 25) with
    | none => rw [hi] at h; cases h
    | some i =>
      rw [hi] at h
      simp only [Option.map_some, Option.some.injEq, Prod.mk.injEq] at h
      exact ⟨i, rfl, h.1, h.2.1, h.2.2⟩
  have hcall := Any8.slices_Grow_grow Tryz.growL i0 (.int .i64 0) hi0 hz0 (by omega) none 0 0 n [] w (Nat.le_refl _) (by omega) (by rw [hb0]; omega) (by omega) (by simp) (fun _ => rfl) (fun a e => by cases e)
  refine Calls.mono hcall ?_
  rintro e w' ⟨rfl, rfl⟩
  have hG1 := grownCap_ge w (0 + n) 0 (Tryz.growL_ren.t 25)
  have hG2 := grownCap_le_maxLen w (0 + n) 0 (Tryz.growL_ren.t 25) (by have hml : maxLen = 9223372036854775807 := rfl; omega)
  generalize grownCap w (0 + n) 0 (Tryz.growL_ren.t 25) = G at *
  obtain ⟨c, rfl⟩ : ∃ c, G = c + 1 := ⟨G - 1, by omega⟩
  generalize hA : (#[] ++ Builtin.zeroCells (Value.int IntKind.i64 0).cells (0 + n - 0) ++ Builtin.zeroCells (Value.int IntKind.i64 0).cells (c + 1 - (0 + n)) : Array Value) = A
  have hAs : A.size = c + 1 := by
    rw [← hA]
    simp only [Array.size_append, zeroCells_len]
    show 0 + (0 + n - 0) * 1 + (c + 1 - (0 + n)) * 1 = c + 1
    omega
  obtain ⟨A⟩ := A
  have hAs : A.length = c + 1 := hAs
  have hnew : (w.drew.alloc (.cells A.toArray (Tryz.growL_ren.t 25))).heap[w.heap.size]? = some (.cells A.toArray 3 (0, 0)) := by
    show (w.heap.push _)[w.heap.size]? = _
    simp
    rfl
  have t := tr_newW (w' := w.drew.alloc (.cells A.toArray (Tryz.growL_ren.t 25))) m rfl rfl ⟨rfl, dr_mono (Nat.le_succ _)⟩ (by show w.heap.size ≤ (w.heap.push _).size; simp) (fun b hb => heap_push_old _ hb) (.slice (some ⟨w.heap.size, 0, none⟩) 0 (c + 1)) (.grow 3 1 [] rd)
    (by intro b e; cases e; exact Nat.le_refl _)
    (.grow (xs := []) (us := []) hnew (fun i _ h => by omega) .nil (fun i h => absurd h (Nat.not_lt_zero i)) (Nat.zero_le _) hG2 (by rw [hAs]; omega) (fun i h => absurd h (Nat.not_lt_zero i)))
  exact ⟨_, _, _, _, rfl, ⟨rfl, rfl⟩, t.mem, .gs rfl, t.hist⟩
end Go.Proofs.YtjjlipbddlignaaGreatDoor
namespace Go.Proofs.YtjjlipbddlignaaGreatDoor
open Go Ab Go.RowKit
set_option maxRecDepth 100000
set_option linter.unusedVariables false
set_option linter.unusedSimpArgs false
set_option maxHeartbeats 4000000

@[reducible] def eIss (l : List (List Int)) : D := eL 1 eIs [] l
theorem Grow0_call : ACall Tryz.prog 35 [.d (.v (.slice none 0 0)), vI .i64 0] [] (fun r o => r = .d (.v (.slice none 0 0))) :=
  below_acallT (fun _ _ => Nat.le_refl _) rfl (vs := [.slice none 0 0, .int .i64 0]) (fun w ok π us h => by
    cases h with | cons h1 h => cases h with | cons h2 h => cases h with | nil =>
    cases h1 with | d h1 => cases h1 with | v _ => cases h2 with | d h2 => cases h2 with | v _ => rfl) (fun args w => callFunc_run Tryz.func35 rfl rfl args w) fun w ht => (Any8.slices_Grow_room Tryz.growL none 0 0 0 w (Nat.le_refl _) (by omega) (by omega) (by omega)).mono fun e w' ⟨he, hw⟩ => ⟨he, hw ▸ ⟨rfl, rfl, rfl, Nat.le_refl _, fun b hb => rfl⟩⟩
theorem Concat_call (a b : List Int) (ha : a.length ≤ 100000) (hb : b.length ≤ 100000) : ACall Tryz.prog 20 [.d (eIss [a, b])] [] (fun r o => r = .d (eIs (a ++ b))) := by
  refine acall_enter Tryz.func20 rfl rfl (Nat.le_of_ble_eq_true rfl) fun C hC hCl hDs hGk => ?_
  refine sat_stop tabOk Tryz.func20 rfl trivial ?_
  have rows : ∀ i : Nat, i < 2 → (([a, b] : List (List Int)).getD i []).length ≤ 100000 := fun i hi => by
    rcases i with _ | _ | i
    · exact ha
    · exact hb
    · omega
  have hsum : ∀ i : Nat, i < 2 → (([a, b] : List (List Int)).take (i + 1)).flatten = (([a, b] : List (List Int)).take i).flatten ++ ([a, b] : List (List Int)).getD i [] := fun i hi => by
    rcases i with _ | _ | i
    · simp
    · simp
    · omega
  have hle : ∀ i : Nat, i ≤ 2 → (([a, b] : List (List Int)).take i).flatten.length ≤ 100000 * i := fun i hi => by
    rcases i with _ | _ | _ | i
    · simp
    · simpa using ha
    · simp; omega
    · omega
  generalize hL : ([a, b] : List (List Int)) = L at *
  have hLl : L.length = 2 := by rw [← hL]; rfl
  refine sat_while (α := Nat) (fun i => [(0, .d (eIss L)), (9, .d (eIss L)), (10, vI .i64 2), (11, vI .i64 (i : Int)), (3, vI .i64 (((L.take i).flatten.length : Nat) : Int))]) (fun i => []) (fun i => i ≤ 2) (fun i => 2 - i) 0 (Nat.zero_le _) ?_ ?_
  · exact fun h => sat_le h hC hCl ⟨⟨_, rfl, .refl _⟩, ⟨_, rfl, .refl _⟩, ⟨_, rfl, .of (by rw [List.length_map, hLl]; rfl)⟩, ⟨_, rfl, .refl _⟩, ⟨_, rfl, .of (by simp)⟩, trivial⟩ trivial rfl rfl (Nat.zero_le _)
  rintro i hi ih
  refine sat_branch tabOk Tryz.func20 rfl trivial (fun h => ?_) (fun h => ?_)
  · have h : decide ((i : Int) < 2) = true := h
    rw [decide_eq_true_eq] at h
    have h1 := rows i (by omega)
    have h2 := hsum i (by omega)
    have h3 := hle i hi
    have hw : IntKind.i64.wrap ((((L.take i).flatten.length : Nat) : Int) + ((((L.getD i []).map eI).length : Nat) : Int)) = (((L.take (i + 1)).flatten.length : Nat) : Int) := by
      rw [h2, List.length_append, List.length_map, wrap_id (by omega) (by omega)]
      omega
    refine sat_branch tabOk Tryz.func20 rfl ?nd (fun h4 => ?_) (fun h4 => ?_)
    case nd => exact ⟨⟨by omega, by rw [List.length_map, hLl]; omega⟩, trivial⟩
    · have h4 : decide (IntKind.i64.wrap ((((L.take i).flatten.length : Nat) : Int) + ((((L.getD i []).map eI).length : Nat) : Int)) < 0) = true := h4
      rw [hw, decide_eq_true_eq] at h4
      omega
    refine sat_stop tabOk Tryz.func20 rfl trivial ?_
    exact sat_le (ih (i + 1) (by omega) (by omega)) hC hCl ⟨⟨_, rfl, .refl _⟩, ⟨_, rfl, .refl _⟩, ⟨_, rfl, .refl _⟩, ⟨_, rfl, .of (by rw [wrap_id (by omega) (by omega)]; rfl)⟩, ⟨_, rfl, .of (by rw [← hw]; rfl)⟩, trivial⟩ trivial rfl rfl (Nat.zero_le _)
  have h : decide ((i : Int) < 2) = false := h
  rw [decide_eq_false_iff_not] at h
  obtain rfl : i = 2 := by omega
  have hf : (L.take 2).flatten = a ++ b := by rw [← hL]; simp
  apply letK (p := ASat Tryz.prog 20 Tryz.f20.ntmps C _ [(25, .d (eIss L)), (26, vI .i64 2), (27, vI .i64 0), (6, .gs 0)] [some (.grow 3 1 (([] : List Int).map eI) (fun i => eI (([] : List Int).getD i 0)))] (fun r o => r = .d (eIs (a ++ b))))
  · intro key
    by_cases hz : (L.take 2).flatten.length = 0
    · refine sat_call tabOk Tryz.func20 rfl trivial Grow0_call ⟨.refl _, .of (by rw [hz]; rfl), trivial⟩ rfl ⟨_, rfl⟩ (by rintro r o rfl; rfl) ?_
      rintro _ o rfl
      refine sat_stop tabOk Tryz.func20 rfl trivial ?_
      refine sat_own (t := 6) (e := 3) (s := 1) (.inl rfl) (fun i => eI (([] : List Int).getD i 0)) ?_
      exact sat_le key hC hCl ⟨⟨_, rfl, .refl _⟩, ⟨_, rfl, .of (by rw [List.length_map, hLl]; rfl)⟩, ⟨_, rfl, .refl _⟩, ⟨_, rfl, .refl _⟩, trivial⟩ ⟨.refl _, trivial⟩ rfl rfl (Nat.zero_le _)
    · refine sat_callG [] tabOk Tryz.func20 rfl trivial (Grow_call (L.take 2).flatten.length (by omega) (by have := hle 2 hi; omega) (fun i => eI (([] : List Int).getD i 0))) trivial (.refl _) rfl rfl rfl ⟨_, rfl⟩ ?_
      rintro _ o ⟨rfl, rfl⟩
      refine sat_stop tabOk Tryz.func20 rfl trivial ?_
      exact sat_le key hC hCl ⟨⟨_, rfl, .refl _⟩, ⟨_, rfl, .of (by rw [List.length_map, hLl]; rfl)⟩, ⟨_, rfl, .refl _⟩, ⟨_, rfl, .refl _⟩, trivial⟩ ⟨.refl _, trivial⟩ rfl rfl (Nat.zero_le _)
  refine sat_while (α := Nat) (fun i => [(25, .d (eIss L)), (26, vI .i64 2), (27, vI .i64 (i : Int)), (6, .gs 0)]) (fun i => [some (.grow 3 1 ((L.take i).flatten.map eI) (fun j => eI ((L.take i).flatten.getD j 0)))]) (fun i => i ≤ 2) (fun i => 2 - i) 0 (Nat.zero_le _) ?_ ?_
  · exact fun h => sat_le h hC hCl ⟨⟨_, rfl, .refl _⟩, ⟨_, rfl, .refl _⟩, ⟨_, rfl, .refl _⟩, ⟨_, rfl, .refl _⟩, trivial⟩ ⟨.of (by simp), trivial⟩ rfl rfl (Nat.zero_le _)
  rintro i hi ih
  refine sat_branch tabOk Tryz.func20 rfl trivial (fun h => ?_) (fun h => ?_)
  · have h : decide ((i : Int) < 2) = true := h
    rw [decide_eq_true_eq] at h
    have h1 := rows i (by omega)
    have h2 := hsum i (by omega)
    have h3 := hle i hi
    refine sat_stop tabOk Tryz.func20 rfl ?nd ?_
    case nd =>
      refine ⟨?_, ⟨by omega, by rw [List.length_map, hLl]; omega⟩, trivial⟩
      rw [List.length_map, List.length_map, Int.toNat_natCast]
      show ((L.take i).flatten.length + (L.getD i []).length) * 8 ≤ _
      omega
    refine sat_le (ih (i + 1) (by omega) (by omega)) hC hCl ⟨⟨_, rfl, .refl _⟩, ⟨_, rfl, .refl _⟩, ⟨_, rfl, .of (by rw [wrap_id (by omega) (by omega)]; rfl)⟩, ⟨_, rfl, .refl _⟩, trivial⟩ ⟨.grow ?_ (map_rd eI 0 _), trivial⟩ rfl rfl (Nat.zero_le _)
    rw [h2, List.map_append]
    rfl
  have h : decide ((i : Int) < 2) = false := h
  rw [decide_eq_false_iff_not] at h
  obtain rfl : i = 2 := by omega
  refine sat_freeze 0 rfl ?_
  refine sat_ret tabOk Tryz.func20 rfl trivial ?_
  rw [hf]
  rfl
end Go.Proofs.YtjjlipbddlignaaGreatDoor
namespace Go.Proofs.YtjjlipbddlignaaGreatDoor
open Go Ab Go.Lib
set_option maxRecDepth 100000
set_option linter.unusedVariables false
set_option linter.unusedSimpArgs false

/-! ### Lines' ends -/
theorem itoa_no10 {n : Int} (h : 0 ≤ n) : ∀ c ∈ tItoa n, c ≠ 10 := by
  obtain ⟨u, rfl⟩ : ∃ u : Nat, n = u := ⟨n.toNat, by omega⟩
  rw [show tItoa (u : Int) = decDigits u from itoa_nonneg u]
  rintro c hc rfl
  have := dec_dig u _ hc
  cases this
theorem numT_no10 {n : Int} (h : 0 ≤ n) : ∀ c ∈ numT n, c ≠ 10 := by
  intro c hc
  unfold numT at hc
  rcases List.mem_cons.1 hc with rfl | hc
  · decide
  · exact itoa_no10 h c hc
theorem bits_no10 {t : List UInt8} (h : bitsOk t = true) : ∀ c ∈ t, c ≠ 10 := by
  unfold bitsOk at h
  rw [Bool.and_eq_true, List.all_eq_true] at h
  rintro c hc rfl
  have := h.2 _ hc
  cases this
theorem low_no10 {t : List UInt8} (h : ∀ c ∈ t, isLow c = true) : ∀ c ∈ t, c ≠ 10 := by
  rintro c hc rfl
  have := h _ hc
  cases this
theorem t_no10 {f t : List UInt8} (h : tOk f t = true) : ∀ c ∈ t, c ≠ 10 := by
  unfold tOk at h
  split at h
  · exact bits_no10 h
  · split at h
    · rw [Bool.or_eq_true, decide_eq_true_eq] at h
      rcases h with rfl | h
      · exact fun c hc => absurd hc List.not_mem_nil
      · exact nameOk_no10 h
    · obtain rfl := of_decide_eq_true h
      exact fun c hc => absurd hc List.not_mem_nil
/-- A line: no end within, and an end. -/
theorem nodeT_line {id : Int} {x : Nd} (h0 : 0 ≤ id) (hid : id ≤ 100000) (h : nodeB id x = true) : ∃ s, nodeT id x = s ++ [10] ∧ ∀ c ∈ s, c ≠ 10 := by
  obtain ⟨n1, n2, n3⟩ := nodeB_nums hid h
  unfold nodeB at h
  simp only [Bool.and_eq_true] at h
  obtain ⟨⟨⟨⟨h1, h2⟩, h3⟩, h4⟩, h5⟩ := h
  refine ⟨_, rfl, fun c hc => ?_⟩
  have ho := low_no10 (op_low x.op h1).2
  have ht := t_no10 h3
  simp only [List.mem_append, List.mem_cons, List.mem_flatMap] at hc
  rcases hc with ((((hc | hc | hc) | hc) | hc) | hc) | hc
  · exact itoa_no10 h0 c hc
  · rw [hc]; decide
  · exact ho c hc
  · split at hc
    · revert c; decide
    · exact absurd hc List.not_mem_nil
  · split at hc
    · exact numT_no10 (by omega) c hc
    · exact absurd hc List.not_mem_nil
  · rcases hc with ⟨m, hm, hc⟩ | ⟨m, hm, hc⟩
    · exact numT_no10 (n2 m hm).1 c hc
    · exact numT_no10 (n3 m hm).1 c hc
  · split at hc
    · exact absurd hc List.not_mem_nil
    · rcases List.mem_cons.1 hc with rfl | hc
      · decide
      · exact ht c hc
end Go.Proofs.YtjjlipbddlignaaGreatDoor
