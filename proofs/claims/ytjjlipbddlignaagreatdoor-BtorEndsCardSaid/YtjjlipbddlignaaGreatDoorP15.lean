/- A part of the proof: N38, Ab77, Ab67, Ab68, Ab69, Ab70, Ab71, N25, N34, N27, N32, N33, N29. -/
import Derived.Test.YtjjlipbddlignaaGreatDoorP14
import Derived.Lib.ItoaLen
import Derived.Recover
set_option linter.unusedVariables false
set_option linter.unusedSimpArgs false
namespace Go.Proofs.YtjjlipbddlignaaGreatDoor
open Go Ab Go.Lib
set_option maxRecDepth 100000
set_option linter.unusedVariables false
set_option linter.unusedSimpArgs false

/-! ### How long texts are; texts that are the same -/
theorem numT_len {n : Int} (h0 : -9223372036854775808 ≤ n) (h1 : n ≤ 9223372036854775807) : (numT n).length ≤ 24 := by
  have := Go.Lib.itoa_length_le n h0 h1
  simp only [numT, tItoa, List.length_cons]
  omega
theorem nums_len : ∀ (l : List Int), (∀ n ∈ l, 0 ≤ n ∧ n ≤ 100000) → (l.flatMap numT).length ≤ 24 * l.length
  | [], _ => Nat.le_refl _
  | n :: r, h => by
    have h1 := h n List.mem_cons_self
    have := numT_len (n := n) (by omega) (by omega)
    have ih := nums_len r fun m hm => h m (List.mem_cons_of_mem _ hm)
    rw [List.flatMap_cons, List.length_append, List.length_cons]
    omega
theorem nodeB_nums {id : Int} {x : Nd} (hid : id ≤ 100000) (h : nodeB id x = true) : (0 ≤ x.s ∧ x.s ≤ 100000) ∧ (∀ n ∈ x.a, 0 ≤ n ∧ n ≤ 100000) ∧ (∀ n ∈ x.n, 0 ≤ n ∧ n ≤ 100000) := by
  unfold nodeB at h
  simp only [Bool.and_eq_true] at h
  obtain ⟨⟨⟨⟨h1, h2⟩, h3⟩, h4⟩, h5⟩ := h
  unfold aOk at h4
  unfold nOk at h5
  simp only [Bool.and_eq_true, decide_eq_true_eq, List.all_eq_true] at h4 h5
  refine ⟨?_, fun n hn => ?_, fun n hn => ?_⟩
  · unfold sOk at h2
    split at h2
    · have := of_decide_eq_true h2
      omega
    · have := of_decide_eq_true h2
      omega
  · have := h4.2 n hn
    omega
  · have := h5.2 n hn
    omega
end Go.Proofs.YtjjlipbddlignaaGreatDoor
set_option linter.unusedSimpArgs false
set_option linter.unusedVariables false
set_option linter.unusedSectionVars false
namespace Ab
open Go
variable [Draws]

section
variable {P : Program} [Globals P] {T : Tab} {f : FuncId} {fn : Func} {n m : Nat} {C : Cx} {R : AV → List (Option AObj) → Prop} {todo todo' k : List Item} {env env0 env' envF : Env} {objs objs' objs1 objs2 : List (Option AObj)} {nd : Prop} {ops : Array Oper} {l : List Oper} {K : Env → Prop} {X : Nat → Prop} {O : List Nat → List (Option AObj)}

/-- A call that is lent objects. -/
theorem headX_callQ {e : Nat} {E : Env} (ι : List Nat) {oe : Oper} {d : Tmp} {g : FuncId} {az bs : List AV} {objs0 : List (Option AObj)} {R' : AV → List (Option AObj) → Prop} {r0 : AV}
    (hE : ∀ t ∈ oe.looksAt ops, ∀ b, look E t = some b → look envF t = some b) (hdr : dropSE (memN ι) envF = envF)
    (hO0 : ∀ L, e ∉ L → O L = objs') (hO1 : ∀ L, e ∉ L → O (e :: L) = objs1)
    (hdst : oe.dst = some d) (hdn : Nat.blt d n = true) (hlook : look envF d = some r0) (hw : wantE ops (restr E (oe.looksAt ops)) oe = .yes) (hco : callOf (restr E (oe.looksAt ops)) oe = some (g, az)) (hen : ∀ args w, (callFunc g args).run P w = .ok (.enter g args) w)
    (hc : ACall P g bs objs0 R') (hs : subR (rho ι objs'.length) objs' ι objs0) (hv : VLs az (AV.rens (rho ι objs'.length) bs)) (hnd : nodupB ι = true) (hd : refsBs ι.length bs = true) (hro : refsO ι.length objs0 = true)
    (hr : ∀ r o, R' r o → r.ren (rho ι objs'.length) = r0 ∧ mergeO ι o objs' = objs1) : HeadX P n X O m ops envF e oe := by
  intro L hLm heL hdeps hcl π w tmps hsz hm hgk hlk
  have hOL := hO0 L heL
  have hOj := hO1 L heL
  rw [hOL] at hm hgk hlk
  have he : EnvRel w (okOf X π objs') π (restr E (oe.looksAt ops)) tmps := fun t b ht => by
    obtain ⟨h1, h2⟩ := look_restr ht
    exact hlk t h1 b (hE t h1 b h2)
  obtain ⟨vs, c1, c2⟩ := callOf_run he hco
  refine .inr ⟨(wanted_of he).1 hw, .inr (.inr ⟨g, vs.toArray, by rw [c2, hen], ?_⟩)⟩
  have hargs : RelVs w (okOf (lendX X π objs' ι) (lendP π ι) objs0) (lendP π ι) bs vs := by
    refine RelVs.unren (m := ι.length) (lend_keeps hm hs) ?_ bs hd (hv.rel c1)
    intro j' h' hj' hh'
    obtain ⟨i', hi'⟩ : ∃ i', nth ι j' = some i' := by
      rw [nth_eq]; exact ⟨ι[j'], List.getElem?_eq_getElem hj'⟩
    rw [rho_in hi'] at hh'
    rw [lendP_nth hi' (nth_lt hh')]
    exact hh'
  rcases hc _ _ w vs (lend_gok hgk hm hs) (lend_mem hm hs hnd hro) hargs with ⟨_, hcl2⟩ | ⟨v, w', hcl2, _⟩
  · refine hcl2.mono ?_
    rintro e2 w2 ⟨v, r, o, π', rfl, hR, hm', hrel, hhist⟩
    have L2 := lended hm hs hnd hm' hhist
    obtain ⟨e3, e4⟩ := hr r o hR
    have hmem := L2.mem
    have hhst := L2.hist
    have hkp := L2.keep
    have hbk := L2.back _ _ hrel
    rw [e4] at hmem hhst hkp hbk
    rw [e3] at hbk
    refine ⟨v, mergeP ι π' π, rfl, ⟨by rw [hOj]; exact hmem, by rw [hOL, hOj]; exact hhst, fun t a u ht hlv hau => ?_⟩, fun d' hd' => ?_⟩
    · rw [hOL] at hau
      have := hkp a u hau
      rw [dropSE_look hdr ht] at this
      rw [hOj]
      exact this
    · rw [hdst] at hd'
      cases hd'
      exact ⟨by simpa [Nat.blt_eq] using hdn, r0, hlook, by rw [hOj]; exact hbk⟩
  · rw [hen] at hcl2
    cases hcl2

/-- The objects ahead of a call, and behind it. -/
def oneO (e : Nat) (o0 o1 : List (Option AObj)) (L : List Nat) : List (Option AObj) := if e ∈ L then o1 else o0
theorem oneO_Q {p : List (Option AObj) → Prop} {e : Nat} {o0 o1 : List (Option AObj)} {L : List Nat} (h0 : p o0) (h1 : p o1) : p (oneO e o0 o1 L) := by
  rw [oneO]
  split
  · exact h1
  · exact h0
theorem oneO_ne {e j : Nat} {o0 o1 : List (Option AObj)} {L : List Nat} (h : j ≠ e) : oneO e o0 o1 (j :: L) = oneO e o0 o1 L := by
  simp only [oneO, List.mem_cons, Ne.symm h, false_or]
/-- A drawn region: a call in the head is lent objects; some of the head sees what it tells. -/
theorem sat_drawX1 (m e : Nat) (A : Acts) (objs1 : List (Option AObj)) (E : Env) {id : Nat} (hT : TabOk P T) (hf : P.funcs[f]? = some fn) (hmx : P.follows .mixedOrders = true) (h : srun T n fn.results.toList 2000 True todo env objs = .draw nd id ops k env' objs') (hn : nd)
    (hB : drawB ops m = true) (hsee : seeB ops m A = true) (hem : Nat.blt e m = true) (hae : actB A e = true)
    (hAm : (A.all fun x => Nat.blt x.1 m) = true) (hD0 : DSat P n C.X objs' ops (fun x => x = E) (quietOps ops m A) env') (hD1 : DSat P n C.X objs1 ops (fun x => x = E) (quietOps ops m A) env')
    (hA : ∀ x ∈ A, ∃ oe, ops[x.1]? = some oe ∧ oe.dst = x.2.map (·.1) ∧ HeadX P n C.X (oneO e objs' objs1) m ops (actE A ++ E) x.1 oe)
    (hk : ASat P f n C (.inRegion ops (List.range' m (ops.size - m)) :: k) (actE A ++ E) objs1 R) (hGk : GOk P C.π C.objs C.w := by with_reducible assumption) : ASat P f n C todo env objs R := by
  refine sat_drawX m A (oneO e objs' objs1) E hT hf hmx h hn hB hsee (by simp [oneO]) (fun L hL => by rw [oneO, if_pos (hL e (by simpa [Nat.blt_eq] using hem))]) (fun j L hj => ?_) hAm (fun L => ?_) hA hk
  · refine oneO_ne ?_
    rintro rfl
    rw [hae] at hj
    cases hj
  · exact oneO_Q (p := fun o => DSat P n C.X o ops (fun x => x = E) (quietOps ops m A) env') hD0 hD1
theorem headX_val1 {j e : Nat} {o : Oper} {E : Env} {a : AV} {c : Option Prop} {d : Nat} {objs0 : List (Option AObj)} (hT : TabOk P T) (hw : wantE ops (restr E (o.looksAt ops)) o = .yes) (hE : ∀ t ∈ o.looksAt ops, ∀ b, look E t = some b → look envF t = some b)
    (hs0 : estep T o (restr E (o.looksAt ops)) objs0 = some ⟨c, false, a, none, objs0⟩) (hs1 : estep T o (restr E (o.looksAt ops)) objs1 = some ⟨c, false, a, none, objs1⟩) (hj : j ≠ e) (hc : cond c) (hdst : o.dst = some d) (hdn : Nat.blt d n = true) (hlook : look envF d = some a) : HeadX P n X (oneO e objs0 objs1) m ops envF j o :=
  headX_val hT hw hE (fun L => oneO_Q (p := fun ob => estep T o (restr E (o.looksAt ops)) ob = some ⟨c, false, a, none, ob⟩) hs0 hs1) (fun L => oneO_ne hj) hc hdst hdn hlook
theorem headX_call1 {e : Nat} {E : Env} (ι : List Nat) {oe : Oper} {d : Tmp} {g : FuncId} {az bs : List AV} {objs0 : List (Option AObj)} {R' : AV → List (Option AObj) → Prop} {r0 : AV}
    (hE : ∀ t ∈ oe.looksAt ops, ∀ b, look E t = some b → look envF t = some b) (hdr : dropSE (memN ι) envF = envF)
    (hdst : oe.dst = some d) (hdn : Nat.blt d n = true) (hlook : look envF d = some r0) (hw : wantE ops (restr E (oe.looksAt ops)) oe = .yes) (hco : callOf (restr E (oe.looksAt ops)) oe = some (g, az)) (hen : ∀ args w, (callFunc g args).run P w = .ok (.enter g args) w)
    (hc : ACall P g bs objs0 R') (hs : subR (rho ι objs'.length) objs' ι objs0) (hv : VLs az (AV.rens (rho ι objs'.length) bs)) (hnd : nodupB ι = true) (hd : refsBs ι.length bs = true) (hro : refsO ι.length objs0 = true)
    (hr : ∀ r o, R' r o → r.ren (rho ι objs'.length) = r0 ∧ mergeO ι o objs' = objs1) : HeadX P n X (oneO e objs' objs1) m ops envF e oe :=
  headX_callQ ι hE hdr (fun L h => by rw [oneO, if_neg h]) (fun L h => by rw [oneO, if_pos (List.mem_cons_self ..)]) hdst hdn hlook hw hco hen hc hs hv hnd hd hro hr
end
end Ab
set_option linter.unusedSimpArgs false
set_option linter.unusedVariables false
set_option linter.unusedSectionVars false
namespace Ab
open Go
variable [Draws]
section
variable {P : Program} [Globals P] {T : Tab} {f : FuncId} {fn : Func} {n m : Nat} {C : Cx} {R : AV → List (Option AObj) → Prop} {todo todo' k : List Item} {env env0 env' envF : Env} {objs objs' : List (Option AObj)} {nd : Prop} {ops : Array Oper} {l : List Oper} {K : Env → Prop} {X : Nat → Prop}

def memB (L : List Nat) (q : Nat) : Bool := L.any fun a => Nat.beq a q
/-- Is a temporary dead, when so much is done? It dies with the operation that is named beside it. -/
def dyB (DL : List (Tmp × Nat)) (L : List Nat) (t : Tmp) : Bool := DL.any fun x => Nat.beq x.1 t && memB L x.2
structure StepK (C : Cx) (O : List Nat → List (Option AObj)) (envF : Env) (DL : List (Tmp × Nat)) (L : List Nat) (j : Nat) (π : List Value) (w : World) (π' : List Value) (w2 : World) : Prop where
  mem : Mem C.X π' (O (j :: L)) w2
  hist : Hist C.π C.objs C.w π (O L) w → Hist C.π C.objs C.w π' (O (j :: L)) w2
  keep : ∀ t a v, look envF t = some a → dyB DL (j :: L) t = false → RelV w (okOf C.X π (O L)) π a v → RelV w2 (okOf C.X π' (O (j :: L))) π' a v
end
end Ab
set_option linter.unusedSimpArgs false
set_option linter.unusedVariables false
set_option linter.unusedSectionVars false
namespace Ab
open Go
variable [Draws]
section
variable {P : Program} [Globals P] {T : Tab} {f : FuncId} {fn : Func} {n m : Nat} {C : Cx} {R : AV → List (Option AObj) → Prop} {todo todo' k : List Item} {env env0 env' envF : Env} {objs objs' : List (Option AObj)} {nd : Prop} {ops : Array Oper} {l : List Oper} {K : Env → Prop} {X : Nat → Prop}

end
end Ab
set_option linter.unusedSimpArgs false
set_option linter.unusedVariables false
set_option linter.unusedSectionVars false
namespace Ab
open Go
variable [Draws]

/-- What a call does that returns or panics. -/
def ACallP (P : Program) [Globals P] (f : FuncId) (az : List AV) (objs : List (Option AObj)) (R : AV → List (Option AObj) → Prop) (Pn : D → Prop) : Prop :=
  ∀ X π w vs, GOk P π objs w → Mem X π objs w → RelVs w (okOf X π objs) π az vs → Invokes P f vs.toArray w (APost ⟨X, π, objs, w, [], Pn⟩ R)
theorem ACallP.mono {P : Program} [Globals P] {f : FuncId} {az : List AV} {objs : List (Option AObj)} {R R' : AV → List (Option AObj) → Prop} {Pn Pn' : D → Prop} (h : ACallP P f az objs R Pn) (hr : ∀ r o, R r o → R' r o) (hp : ∀ x, Pn x → Pn' x) : ACallP P f az objs R' Pn' :=
  fun X π w vs g m hv => (h X π w vs g m hv).mono fun e w' hq => hq.imp (fun ⟨v, r, o, π', h1, h2, h3⟩ => ⟨v, r, o, π', h1, hr _ _ h2, h3⟩) (fun ⟨v, x, o, π', h1, h2, h3⟩ => ⟨v, x, o, π', h1, hp _ h2, h3⟩)
section
variable {P : Program} [Globals P] {T : Tab} {f : FuncId} {fn : Func} {n : Nat} {C : Cx} {R : AV → List (Option AObj) → Prop} {todo todo' : List Item} {env env' : Env} {objs objs' : List (Option AObj)} {nd : Prop}

end
end Ab
set_option linter.unusedSimpArgs false
set_option linter.unusedVariables false
set_option linter.unusedSectionVars false
namespace Ab
open Go
variable [Draws]

section
variable {P : Program} [Globals P] {T : Tab} {f : FuncId} {fn : Func} {n : Nat} {C : Cx} {R : AV → List (Option AObj) → Prop} {todo todo' k : List Item} {env env' : Env} {objs objs' : List (Option AObj)} {nd : Prop}

end

section
variable {P : Program} [Globals P]
end
end Ab
set_option linter.unusedSimpArgs false
set_option linter.unusedVariables false
set_option linter.unusedSectionVars false
namespace Ab
open Go
variable [Draws]

section
variable {P : Program} [Globals P] {T : Tab} {f : FuncId} {fn : Func} {n : Nat} {C : Cx} {R : AV → List (Option AObj) → Prop} {todo todo' k : List Item} {env env' : Env} {objs objs' : List (Option AObj)} {nd : Prop}

end
end Ab
namespace Ab
open Go
end Ab
namespace Ab
open Go
variable [Draws]
theorem OLe.cellsV {e : TypeId} {cs ds : List AV} (h : VLs cs ds) : OLe (.cells e cs) (.cells e ds) := by
  intro w ok π v hv
  cases hv with
  | cells hb h1 hf => exact .cells hb (h.rel h1) hf
theorem VLe.dead {a : AV} : VLe a .dead := fun _ _ _ _ _ => .dead
theorem VLe.tp {cs ds : List AV} (h : VLs cs ds) : VLe (.tp cs) (.tp ds) := by
  intro w ok π v hv
  cases hv with
  | tp h1 => exact .tp (h.rel h1)
end Ab
namespace Go.Proofs.YtjjlipbddlignaaGreatDoor
open Go Ab Go.RowKit Go.Lib
set_option maxRecDepth 100000
set_option linter.unusedVariables false
set_option linter.unusedSimpArgs false
set_option maxHeartbeats 4000000

@[reducible] def gI (l : List Int) : AObj := .grow 3 1 (l.map eI) (fun i => eI (l.getD i 0))
@[reducible] def zNd : AObj := .cells 43 [.d (dSL []), .d (eI 0), .d (.v (.slice none 0 0)), .d (.v (.slice none 0 0)), .d (dSL [])]
@[reducible] def xNd (x : Nd) (i j : Nat) : AObj := .cells 43 [.d (dSL x.op), .d (eI x.s), .gs i, .gs j, .d (dSL x.t)]
@[reducible] def rdC (b : List UInt8) (st : Rs) : AObj := .cells 67 [.d (eBy b), vI .i64 st.1, vI .i64 st.2]
@[reducible] def ndO (b f : List UInt8) (p : Nat) (q : Nd × Rs) : List (Option AObj) := [some (rdC b q.2), some zNd, some (xNd q.1 4 5), some (.siter ⟨f.toArray⟩ p), some (gI q.1.a), some (gI q.1.n)]
theorem letS_len {b : List UInt8} {id : Int} (q : Nd × Rs) (c : UInt8) (hc : c ≠ 119) : (letS b id q c).1.a.length ≤ q.1.a.length + 1 ∧ (letS b id q c).1.n.length ≤ q.1.n.length + 1 := by
  unfold letS
  simp only
  repeat' split
  all_goals first | (simp only [List.length_append, List.length_cons, List.length_nil]; omega) | (exfalso; exact hc (by assumption)) | (simp only; omega)
theorem fold_len {b : List UInt8} {id : Int} : ∀ (f : List UInt8) (q : Nd × Rs), 119 ∉ f → (f.foldl (letS b id) q).1.a.length ≤ q.1.a.length + f.length ∧ (f.foldl (letS b id) q).1.n.length ≤ q.1.n.length + f.length
  | [], q, _ => ⟨Nat.le_refl _, Nat.le_refl _⟩
  | c :: f, q, h => by
    have h1 := letS_len (b := b) (id := id) q c (fun e => h (by rw [e]; exact List.mem_cons_self))
    have h2 := fold_len (b := b) (id := id) f (letS b id q c) (fun e => h (List.mem_cons_of_mem _ e))
    rw [List.foldl_cons, List.length_cons]
    omega
theorem form_w (op : List UInt8) : frm op = [119] ∨ 119 ∉ frm op := by
  rcases form_cases op with ⟨_, e⟩ | ⟨_, e⟩
  · rw [e]
    exact .inr List.not_mem_nil
  · rcases e with e | e | e | e | e | e | e | e | e <;> rw [e] <;> decide
theorem dle_nil {s : Nat} {rd : Nat → D} : DLe (.v (.slice none 0 0)) (.sl s [] rd) := fun _ _ _ h => by
  cases h
  exact .nil (Nat.zero_le _)
theorem catS (a b : List UInt8) : (⟨a.toArray⟩ : ByteArray) ++ ⟨b.toArray⟩ = ⟨(a ++ b).toArray⟩ := by
  apply ByteArray.ext
  simp
theorem node_call (b : List UInt8) (id : Int) (st : Rs) (hp : Pl b st) (hb : b.length ≤ 1000000) (hi : 0 ≤ id ∧ id ≤ 1000000) : ACall Tryz.prog 33 [.ptr 0 0, vI .i64 id] (rdO b st) (fun r o => r = .d (eNd (nodeS b id st).1) ∧ o = rdO b (nodeS b id st).2) := by
  refine acall_enter Tryz.func33 rfl rfl (Nat.le_of_ble_eq_true rfl) fun C hC hCl hDs hGk => ?_
  have hit := Go.Lib.itoa_length_le id (by omega) (by omega)
  refine sat_call tabOk Tryz.func33 rfl trivial (Itoa_call id (by omega) (by omega)) (.refl _) rfl ⟨_, rfl⟩ (by rintro r o rfl; rfl) ?_
  rintro _ o rfl
  refine sat_callG [0] tabOk Tryz.func33 rfl ?nd (word_call b (tItoa id ++ [32]) st hb (by rw [List.length_append]; show (Go.Lib.itoa id).length + 1 ≤ _; omega)) ⟨⟨_, rfl, .refl _⟩, trivial⟩ ⟨.refl _, .of ?vl, trivial⟩ rfl rfl rfl ⟨_, rfl⟩ ?_
  case nd =>
    rw [sizeBy]
    show (Go.Lib.itoa id).length + 1 ≤ _ ∧ True
    exact ⟨by omega, trivial⟩
  case vl => exact congrArg (fun z => AV.d (D.v (Value.string z))) (catS (tItoa id) [32])
  rintro r o ⟨rfl, rfl⟩
  have hp1 := wordS_pl (s := tItoa id ++ [32]) hp
  have hN : nodeS b id st = (fun r : Nd × Rs => (r.1, wordS b [10] r.2)) ((opS b (wordS b (tItoa id ++ [32]) st)).2.1.foldl (letS b id) (⟨(opS b (wordS b (tItoa id ++ [32]) st)).1, 0, [], [], []⟩, (opS b (wordS b (tItoa id ++ [32]) st)).2.2)) := rfl
  rw [hN]
  generalize wordS b (tItoa id ++ [32]) st = st1 at *
  refine sat_callG [0] tabOk Tryz.func33 rfl trivial (op_call b st1 hp1 hb) ⟨⟨_, rfl, .refl _⟩, trivial⟩ (.refl _) rfl rfl rfl ⟨_, rfl⟩ ?_
  rintro r o ⟨rfl, rfl⟩
  have hp2 := opS_pl hp1
  have hf : (opS b st1).2.1 = frm (opS b st1).1 := by
    unfold opS
    split
    · rfl
    · rfl
  rw [hf]
  have hasc := form_ascii (opS b st1).1
  have hfl := form_len (opS b st1).1
  have hfw := form_w (opS b st1).1
  generalize frm (opS b st1).1 = f at *
  generalize (opS b st1).2.2 = st2 at *
  generalize (opS b st1).1 = op at *
  refine sat_steps 30 tabOk Tryz.func33 rfl trivial ?_
  refine sat_rangeS (s := ⟨f.toArray⟩) tabOk rfl rfl rfl rfl rfl rfl rfl ?_
  refine sat_stop tabOk Tryz.func33 rfl trivial ?_
  have eid : IntKind.i64.wrap (id - 1) = id - 1 := wrap_id (by omega) (by omega)
  have eqc : ∀ c k : UInt8, ((c.toNat : Int) == (k.toNat : Int)) = decide (c = k) := fun c k => by
    rw [Bool.eq_iff_iff, beq_iff_eq, decide_eq_true_eq]
    exact ⟨fun h => UInt8.toNat_inj.1 (by omega), fun h => by rw [h]⟩
  rcases hfw with rfl | hfw
  · have hdec := decode_drop [119] 0
    rw [show ([119] : List UInt8).drop 0 = [119] from rfl, decL_ascii (by decide)] at hdec
    refine sat_le (env' := [(0, .ptr 0 0), (1, vI .i64 id), (4, .ptr 1 0), (5, .ptr 2 0), (23, .ptr 3 0)]) (objs' := [some (rdC b st2), some zNd, some (.cells 43 [.d (dSL op), .d (eI 0), .d (.v (.slice none 0 0)), .d (.v (.slice none 0 0)), .d (dSL [])]), some (.siter ⟨([119] : List UInt8).toArray⟩ 0)]) ?_ hC hCl ⟨⟨_, rfl, .refl _⟩, ⟨_, rfl, .refl _⟩, ⟨_, rfl, .refl _⟩, ⟨_, rfl, .refl _⟩, ⟨_, rfl, .refl _⟩, trivial⟩ ⟨.refl _, .refl _, .refl _, .refl _, trivial⟩ rfl rfl (Nat.le_of_ble_eq_true rfl)
    refine sat_loop1 ?_
    refine sat_steps 2 tabOk Tryz.func33 rfl trivial ?_
    refine sat_nextS (s := ⟨([119] : List UInt8).toArray⟩) (pos := 0) rfl rfl rfl rfl rfl (by decide) rfl ?_
    rw [hdec]
    refine sat_branch tabOk Tryz.func33 rfl trivial (fun _ => ?_) (fun h => by cases h)
    refine sat_branch tabOk Tryz.func33 rfl trivial (fun _ => ?_) (fun h => by cases h)
    refine sat_callG [0] tabOk Tryz.func33 rfl trivial (word_call b [32] st2 hb (by decide)) ⟨⟨_, rfl, .refl _⟩, trivial⟩ (.refl _) rfl rfl rfl ⟨_, rfl⟩ ?_
    rintro r o ⟨rfl, rfl⟩
    have hpw := wordS_pl (s := [32]) hp2
    have hlS : ([119] : List UInt8).foldl (letS b id) (⟨op, 0, [], [], []⟩, st2) = (⟨op, 0, [], [(widthS b (wordS b [32] st2)).1], []⟩, (widthS b (wordS b [32] st2)).2) := rfl
    rw [hlS]
    clear hlS
    generalize wordS b [32] st2 = st3 at *
    refine sat_branch tabOk Tryz.func33 rfl trivial (fun h => by cases h) (fun _ => ?_)
    refine sat_branch tabOk Tryz.func33 rfl trivial (fun h => by cases h) (fun _ => ?_)
    refine sat_branch tabOk Tryz.func33 rfl trivial (fun h => by cases h) (fun _ => ?_)
    refine sat_branch tabOk Tryz.func33 rfl trivial (fun _ => ?_) (fun h => by cases h)
    refine sat_callG [0] tabOk Tryz.func33 rfl trivial (width_call b st3 hpw hb) ⟨⟨_, rfl, .refl _⟩, trivial⟩ (.refl _) rfl rfl rfl ⟨_, rfl⟩ ?_
    rintro r o ⟨rfl, rfl⟩
    generalize (widthS b st3).1 = w
    generalize (widthS b st3).2 = st4
    refine sat_stop tabOk Tryz.func33 rfl trivial ?_
    refine sat_le (env' := [(0, .ptr 0 0), (1, vI .i64 id), (4, .ptr 1 0), (5, .ptr 2 0), (23, .ptr 3 0)]) (objs' := [some (rdC b st4), some zNd, some (.cells 43 [.d (dSL op), .d (eI 0), .d (.v (.slice none 0 0)), .d (eIs [w]), .d (dSL [])]), some (.siter ⟨([119] : List UInt8).toArray⟩ 1)]) ?_ hC hCl ⟨⟨_, rfl, .refl _⟩, ⟨_, rfl, .refl _⟩, ⟨_, rfl, .refl _⟩, ⟨_, rfl, .refl _⟩, ⟨_, rfl, .refl _⟩, trivial⟩ ⟨.refl _, .refl _, ?ow, .refl _, trivial⟩ rfl rfl (Nat.le_of_ble_eq_true rfl)
    case ow => exact OLe.cellsV ⟨.refl _, .refl _, .refl _, VLe.eL (l := [w]) rfl, .refl _, trivial⟩
    refine sat_in1 ?_
    refine sat_steps 2 tabOk Tryz.func33 rfl trivial ?_
    refine sat_nextE (s := ⟨([119] : List UInt8).toArray⟩) (pos := 1) rfl rfl rfl rfl rfl (by decide) rfl ?_
    refine sat_branch tabOk Tryz.func33 rfl trivial (fun h => by cases h) (fun _ => ?_)
    refine sat_callG [0] tabOk Tryz.func33 rfl trivial (word_call b [10] st4 hb (by decide)) ⟨⟨_, rfl, .refl _⟩, trivial⟩ (.refl _) rfl rfl rfl ⟨_, rfl⟩ ?_
    rintro r o ⟨rfl, rfl⟩
    exact sat_retL tabOk Tryz.func33 rfl trivial hC hCl (r2 := .d (eNd ⟨op, 0, [], [w], []⟩)) (VLe.dag ⟨.refl _, .refl _, dle_nil, .refl _, .refl _, trivial⟩) (o2 := rdO b (wordS b [10] st4)) ⟨.refl _, trivial⟩ rfl rfl (Nat.le_refl _) ⟨rfl, rfl⟩
  refine sat_ownCell 2 2 (e' := 3) (s := 1) (fun i => eI (([] : List Int).getD i 0)) rfl rfl ?_
  refine sat_ownCell 2 3 (e' := 3) (s := 1) (fun i => eI (([] : List Int).getD i 0)) rfl rfl ?_
  refine sat_while (α := Nat) (fun p => [(0, .ptr 0 0), (1, vI .i64 id), (4, .ptr 1 0), (5, .ptr 2 0), (23, .ptr 3 0)]) (fun p => ndO b f p ((f.take p).foldl (letS b id) (⟨op, 0, [], [], []⟩, st2))) (fun p => p ≤ f.length) (fun p => f.length - p) 0 (Nat.zero_le _) ?_ ?_
  · exact fun h => sat_le h hC hCl ⟨⟨_, rfl, .refl _⟩, ⟨_, rfl, .refl _⟩, ⟨_, rfl, .refl _⟩, ⟨_, rfl, .refl _⟩, ⟨_, rfl, .refl _⟩, trivial⟩ ⟨.refl _, .refl _, .refl _, .refl _, .refl _, .refl _, trivial⟩ rfl rfl (Nat.le_of_ble_eq_true rfl)
  rintro p hpl ih
  have hpf := fold_pl (b := b) (id := id) (f.take p) (⟨op, 0, [], [], []⟩, st2) hp2
  have hlen := fold_len (b := b) (id := id) (f.take p) (⟨op, 0, [], [], []⟩, st2) (fun h => hfw (List.mem_of_mem_take h))
  rw [List.length_take] at hlen
  simp only [List.length_nil] at hlen
  by_cases hlt : p < f.length
  · have hst : (f.take (p + 1)).foldl (letS b id) (⟨op, 0, [], [], []⟩, st2) = letS b id ((f.take p).foldl (letS b id) (⟨op, 0, [], [], []⟩, st2)) f[p] := by
      rw [List.take_succ_eq_append_getElem hlt, List.foldl_append]
      rfl
    have hc : f[p].toNat < 128 := hasc _ (List.getElem_mem hlt)
    have hcw : f[p] ≠ 119 := fun e => hfw (e ▸ List.getElem_mem hlt)
    have hdec := decode_drop f p
    rw [List.drop_eq_getElem_cons hlt, decL_ascii hc] at hdec
    have ih := ih (p + 1) (by omega) (by omega)
    rw [hst] at ih
    generalize (f.take p).foldl (letS b id) (⟨op, 0, [], [], []⟩, st2) = q at *
    obtain ⟨x, st⟩ := q
    simp only at hpf hlen
    generalize f[p] = c at *
    refine sat_steps 2 tabOk Tryz.func33 rfl trivial ?_
    refine sat_nextS (s := ⟨f.toArray⟩) (pos := p) rfl rfl rfl rfl rfl (by rw [sizeBy]; exact hlt) rfl ?_
    rw [hdec]
    have eqk : ∀ k : UInt8, ((c.toNat : Int) == (k.toNat : Int)) = true → c = k := fun k h => by rw [eqc] at h; exact of_decide_eq_true h
    have nek : ∀ k : UInt8, ((c.toNat : Int) == (k.toNat : Int)) = false → c ≠ k := fun k h => by rw [eqc] at h; exact of_decide_eq_false h
    refine sat_branch tabOk Tryz.func33 rfl trivial (fun _ => ?_) (fun h => by cases h)
    refine sat_branch tabOk Tryz.func33 rfl trivial (fun h0 => ?_) (fun h0 => ?_)
    rotate_left
    · have h0 : ((c.toNat : Int) != 109) = false := h0
      obtain rfl : c = 109 := eqk 109 (by simpa using h0)
      refine sat_branch tabOk Tryz.func33 rfl trivial (fun h => by cases h) (fun _ => ?_)
      refine sat_branch tabOk Tryz.func33 rfl trivial (fun h => by cases h) (fun _ => ?_)
      refine sat_branch tabOk Tryz.func33 rfl trivial (fun h => by cases h) (fun _ => ?_)
      refine sat_branch tabOk Tryz.func33 rfl trivial (fun h => by cases h) (fun _ => ?_)
      refine sat_branch tabOk Tryz.func33 rfl trivial (fun h => by cases h) (fun _ => ?_)
      refine sat_branch tabOk Tryz.func33 rfl trivial (fun _ => ?_) (fun h => by cases h)
      refine sat_callG [0] tabOk Tryz.func33 rfl trivial (name_call b st hb) ⟨⟨_, rfl, .refl _⟩, trivial⟩ (.refl _) rfl rfl rfl ⟨_, rfl⟩ ?_
      rintro r o ⟨rfl, rfl⟩
      refine sat_stop tabOk Tryz.func33 rfl trivial ?_
      exact sat_le ih hC hCl ⟨⟨_, rfl, .refl _⟩, ⟨_, rfl, .refl _⟩, ⟨_, rfl, .refl _⟩, ⟨_, rfl, .refl _⟩, ⟨_, rfl, .refl _⟩, trivial⟩ ⟨.refl _, .refl _, .refl _, .refl _, .refl _, .refl _, trivial⟩ rfl rfl (Nat.le_of_ble_eq_true rfl)
    have h0 : ((c.toNat : Int) != 109) = true := h0
    have n109 : c ≠ 109 := nek 109 (by simpa using h0)
    refine sat_callG [0] tabOk Tryz.func33 rfl trivial (word_call b [32] st hb (by decide)) ⟨⟨_, rfl, .refl _⟩, trivial⟩ (.refl _) rfl rfl rfl ⟨_, rfl⟩ ?_
    rintro r o ⟨rfl, rfl⟩
    have hpw := wordS_pl (s := [32]) hpf
    have hlS : letS b id (x, st) c = (fun st => if c = 115 then ({ x with s := (numS b 1 (id - 1) st).1 }, (numS b 1 (id - 1) st).2)
      else if c = 97 then ({ x with a := x.a ++ [(numS b 1 (id - 1) st).1] }, (numS b 1 (id - 1) st).2)
      else if c = 110 then ({ x with n := x.n ++ [(numS b 0 128 st).1] }, (numS b 0 128 st).2)
      else if c = 119 then ({ x with n := [(widthS b st).1] }, (widthS b st).2)
      else if c = 98 then ({ x with t := (bitsS b st).1 }, (bitsS b st).2)
      else if c = 109 then ({ x with t := (nameS b st).1 }, (nameS b st).2)
      else (x, st)) (wordS b [32] st) := by
      unfold letS
      simp only [if_neg n109]
    rw [hlS] at ih
    simp only at ih
    clear hlS
    generalize wordS b [32] st = st3 at *
    refine sat_branch tabOk Tryz.func33 rfl trivial (fun h => ?_) (fun h => ?_)
    · obtain rfl : c = 115 := eqk 115 h
      rw [if_pos rfl] at ih
      refine sat_callG [0] tabOk Tryz.func33 rfl trivial (number_call b st3 1 (id - 1) hb) ⟨⟨_, rfl, .refl _⟩, trivial⟩ ⟨.refl _, .refl _, .of (congrArg (fun z => vI .i64 z) eid), trivial⟩ rfl rfl rfl ⟨_, rfl⟩ ?_
      rintro r o ⟨rfl, rfl⟩
      refine sat_stop tabOk Tryz.func33 rfl trivial ?_
      exact sat_le ih hC hCl ⟨⟨_, rfl, .refl _⟩, ⟨_, rfl, .refl _⟩, ⟨_, rfl, .refl _⟩, ⟨_, rfl, .refl _⟩, ⟨_, rfl, .refl _⟩, trivial⟩ ⟨.refl _, .refl _, .refl _, .refl _, .refl _, .refl _, trivial⟩ rfl rfl (Nat.le_of_ble_eq_true rfl)
    rw [if_neg (nek 115 h)] at ih
    refine sat_branch tabOk Tryz.func33 rfl trivial (fun h => ?_) (fun h => ?_)
    · obtain rfl : c = 97 := eqk 97 h
      rw [if_pos rfl] at ih
      generalize hr0 : (numS b 1 (id - 1) st3).1 = r0 at ih
      refine sat_drawX1 7 5 [(6, some (47, .d (.sl 1 [eI r0] (litRd [eI r0])))), (5, some (46, vI .i64 r0))] [some (rdC b (numS b 1 (id - 1) st3).2), some zNd, some (xNd x 4 5), some (.siter ⟨f.toArray⟩ (p + 1)), some (gI x.a), some (gI x.n)] _ tabOk Tryz.func33 rfl rfl trivial (by kernel_rfl) (by kernel_rfl) rfl rfl rfl (ds_done tabOk rfl trivial rfl) (ds_done tabOk rfl trivial rfl) ?_ ?_
      · refine List.forall_mem_cons.2 ⟨⟨_, rfl, rfl, ?_⟩, List.forall_mem_cons.2 ⟨⟨_, rfl, rfl, ?_⟩, fun x h => by cases h⟩⟩
        · exact headX_val1 tabOk rfl (fun _ _ _ h => h) rfl rfl (show (6 : Nat) ≠ 5 by decide) trivial rfl rfl rfl
        · refine headX_call1 [0] (fun _ _ _ h => h) rfl rfl rfl rfl rfl rfl (callFunc_run Tryz.func49 rfl rfl) (number_call b st3 1 (id - 1) hb) ⟨⟨_, rfl, .refl _⟩, trivial⟩ ⟨.refl _, .refl _, .of (congrArg (fun z => vI .i64 z) eid), trivial⟩ rfl rfl rfl ?_
          rintro r o ⟨rfl, rfl⟩
          exact ⟨by rw [hr0]; rfl, rfl⟩
      refine sat_stop tabOk Tryz.func33 rfl ?nd ?_
      case nd =>
        rw [List.length_map]
        show (x.a.length + 1) * 8 ≤ 140737488355328 ∧ True
        exact ⟨by omega, trivial⟩
      refine sat_le ih hC hCl ⟨⟨_, rfl, .refl _⟩, ⟨_, rfl, .refl _⟩, ⟨_, rfl, .refl _⟩, ⟨_, rfl, .refl _⟩, ⟨_, rfl, .refl _⟩, trivial⟩ ⟨.refl _, .refl _, .refl _, .refl _, .grow ?_ (map_rd eI 0 _), .refl _, trivial⟩ rfl rfl (Nat.le_of_ble_eq_true rfl)
      rw [List.map_append]
      rfl
    rw [if_neg (nek 97 h)] at ih
    refine sat_branch tabOk Tryz.func33 rfl trivial (fun h => ?_) (fun h => ?_)
    · obtain rfl : c = 110 := eqk 110 h
      rw [if_pos rfl] at ih
      generalize hr0 : (numS b 0 128 st3).1 = r0 at ih
      refine sat_drawX1 5 3 [(4, some (56, .d (.sl 1 [eI r0] (litRd [eI r0])))), (3, some (55, vI .i64 r0))] [some (rdC b (numS b 0 128 st3).2), some zNd, some (xNd x 4 5), some (.siter ⟨f.toArray⟩ (p + 1)), some (gI x.a), some (gI x.n)] _ tabOk Tryz.func33 rfl rfl trivial (by kernel_rfl) (by kernel_rfl) rfl rfl rfl (ds_done tabOk rfl trivial rfl) (ds_done tabOk rfl trivial rfl) ?_ ?_
      · refine List.forall_mem_cons.2 ⟨⟨_, rfl, rfl, ?_⟩, List.forall_mem_cons.2 ⟨⟨_, rfl, rfl, ?_⟩, fun x h => by cases h⟩⟩
        · exact headX_val1 tabOk rfl (fun _ _ _ h => h) rfl rfl (show (4 : Nat) ≠ 3 by decide) trivial rfl rfl rfl
        · refine headX_call1 [0] (fun _ _ _ h => h) rfl rfl rfl rfl rfl rfl (callFunc_run Tryz.func49 rfl rfl) (number_call b st3 0 128 hb) ⟨⟨_, rfl, .refl _⟩, trivial⟩ (.refl _) rfl rfl rfl ?_
          rintro r o ⟨rfl, rfl⟩
          exact ⟨by rw [hr0]; rfl, rfl⟩
      refine sat_stop tabOk Tryz.func33 rfl ?nd ?_
      case nd =>
        rw [List.length_map]
        show (x.n.length + 1) * 8 ≤ 140737488355328 ∧ True
        exact ⟨by omega, trivial⟩
      refine sat_le ih hC hCl ⟨⟨_, rfl, .refl _⟩, ⟨_, rfl, .refl _⟩, ⟨_, rfl, .refl _⟩, ⟨_, rfl, .refl _⟩, ⟨_, rfl, .refl _⟩, trivial⟩ ⟨.refl _, .refl _, .refl _, .refl _, .refl _, .grow ?_ (map_rd eI 0 _), trivial⟩ rfl rfl (Nat.le_of_ble_eq_true rfl)
      rw [List.map_append]
      rfl
    rw [if_neg (nek 110 h)] at ih
    refine sat_branch tabOk Tryz.func33 rfl trivial (fun h => ?_) (fun h => ?_)
    · exact absurd (eqk 119 h) hcw
    rw [if_neg (nek 119 h)] at ih
    refine sat_branch tabOk Tryz.func33 rfl trivial (fun h => ?_) (fun h => ?_)
    · obtain rfl : c = 98 := eqk 98 h
      rw [if_pos rfl] at ih
      refine sat_callG [0] tabOk Tryz.func33 rfl trivial (bits_call b st3 hb) ⟨⟨_, rfl, .refl _⟩, trivial⟩ (.refl _) rfl rfl rfl ⟨_, rfl⟩ ?_
      rintro r o ⟨rfl, rfl⟩
      refine sat_stop tabOk Tryz.func33 rfl trivial ?_
      exact sat_le ih hC hCl ⟨⟨_, rfl, .refl _⟩, ⟨_, rfl, .refl _⟩, ⟨_, rfl, .refl _⟩, ⟨_, rfl, .refl _⟩, ⟨_, rfl, .refl _⟩, trivial⟩ ⟨.refl _, .refl _, .refl _, .refl _, .refl _, .refl _, trivial⟩ rfl rfl (Nat.le_of_ble_eq_true rfl)
    rw [if_neg (nek 98 h), if_neg n109] at ih
    refine sat_branch tabOk Tryz.func33 rfl trivial (fun h => ?_) (fun h => ?_)
    · exact absurd (eqk 109 h) n109
    refine sat_stop tabOk Tryz.func33 rfl trivial ?_
    exact sat_le ih hC hCl ⟨⟨_, rfl, .refl _⟩, ⟨_, rfl, .refl _⟩, ⟨_, rfl, .refl _⟩, ⟨_, rfl, .refl _⟩, ⟨_, rfl, .refl _⟩, trivial⟩ ⟨.refl _, .refl _, .refl _, .refl _, .refl _, .refl _, trivial⟩ rfl rfl (Nat.le_of_ble_eq_true rfl)
  · obtain rfl : p = f.length := by omega
    rw [List.take_length] at hpf ⊢
    generalize f.foldl (letS b id) (⟨op, 0, [], [], []⟩, st2) = q at *
    obtain ⟨x, st⟩ := q
    simp only at hpf
    refine sat_steps 2 tabOk Tryz.func33 rfl trivial ?_
    refine sat_nextE (s := ⟨f.toArray⟩) (pos := f.length) rfl rfl rfl rfl rfl (by rw [sizeBy]; exact hlt) rfl ?_
    refine sat_branch tabOk Tryz.func33 rfl trivial (fun h => by cases h) (fun _ => ?_)
    refine sat_callG [0] tabOk Tryz.func33 rfl trivial (word_call b [10] st hb (by decide)) ⟨⟨_, rfl, .refl _⟩, trivial⟩ (.refl _) rfl rfl rfl ⟨_, rfl⟩ ?_
    rintro r o ⟨rfl, rfl⟩
    refine sat_freeze 4 rfl ?_
    refine sat_freeze 5 rfl ?_
    exact sat_retL tabOk Tryz.func33 rfl trivial hC hCl (.refl _) (o2 := rdO b (wordS b [10] st)) ⟨.refl _, trivial⟩ rfl rfl (Nat.le_refl _) ⟨rfl, rfl⟩
end Go.Proofs.YtjjlipbddlignaaGreatDoor
namespace Go.Proofs.YtjjlipbddlignaaGreatDoor
open Go Ab Go.RowKit Go.Lib
set_option maxRecDepth 100000
set_option linter.unusedVariables false
set_option linter.unusedSimpArgs false
set_option maxHeartbeats 4000000

@[reducible] def gNds (l : List Nd) : AObj := .grow 43 5 (l.map eNd) (fun i => eNd (l.getD i default))
@[reducible] def zBt : AObj := .cells 24 [.d (.v (.slice none 0 0))]
@[reducible] def xBt (i : Nat) : AObj := .cells 24 [.gs i]
@[reducible] def paO (b : List UInt8) (l : List Nd) (st : Rs) : List (Option AObj) := [some zBt, some (rdC b st), some (xBt 3), some (gNds l)]
/-- What is read, and where, or what is wrong. -/
@[reducible] def parA (q : List Nd × Rs) : AV := tupOf [.d (eBt q.1), vI .i64 q.2.1, vI .i64 q.2.2]
theorem node_step {b : List UInt8} {id : Int} {st : Rs} (hp : Pl b st) (h : (nodeS b id st).2.2 = 0) : st.1 + 1 ≤ (nodeS b id st).2.1 ∧ (nodeS b id st).2.1 ≤ b.length := by
  obtain ⟨_, x, q, h1, h2, h3, h4⟩ := node_inv hp h
  rw [h1]
  have hl := congrArg List.length h4
  rw [List.length_drop, List.length_append, List.length_drop] at hl
  have hn : 0 < (nodeT id x).length := List.length_pos_iff.2 (nodeT_ne id x)
  have := hp.1
  have := hp.2.1
  show st.1 + 1 ≤ (q : Int) ∧ (q : Int) ≤ b.length
  omega
theorem bParse_call (b : List UInt8) (hb : b.length ≤ 1000000) : ACall Tryz.prog 18 [.d (eBy b)] [] (fun r o => r = parA (parM b)) := by
  refine acall_enter Tryz.func18 rfl rfl (Nat.le_of_ble_eq_true rfl) fun C hC hCl hDs hGk => ?_
  unfold parM
  refine sat_branch tabOk Tryz.func18 rfl trivial (fun h => ?_) (fun h => ?_)
  · have h : decide ((((b.map eU8).length : Nat) : Int) > 100000) = true := h
    rw [decide_eq_true_eq, List.length_map] at h
    rw [if_pos (by omega)]
    exact sat_retL tabOk Tryz.func18 rfl trivial hC hCl (r2 := parA ([], (0, 3))) (.tp ⟨.dag ⟨dle_nil, trivial⟩, .refl _, .refl _, trivial⟩) (o2 := []) trivial rfl rfl (Nat.le_refl _) rfl
  have h : decide ((((b.map eU8).length : Nat) : Int) > 100000) = false := h
  rw [decide_eq_false_iff_not, List.length_map] at h
  rw [if_neg (by omega)]
  generalize hq : parS b (b.length + 1) [] (0, 0) = q at *
  refine sat_stop tabOk Tryz.func18 rfl trivial ?_
  refine sat_ownCell 2 0 (e' := 43) (s := 5) (fun i => eNd (([] : List Nd).getD i default)) rfl rfl ?_
  apply letK (p := ∀ l st, (l, st) = q → ASat Tryz.prog 18 Tryz.f18.ntmps C _ [(0, .d (eBy b)), (2, .ptr 0 0), (5, .ptr 1 0), (6, .ptr 2 0), (3, vI .i64 0), (4, vI .i64 0)] (paO b l st) (fun r o => r = parA (if q.2.2 ≠ 0 then ([], q.2) else q)))
  · intro key
    refine sat_while (α := Nat × List Nd × Rs) (fun s => [(0, .d (eBy b)), (2, .ptr 0 0), (5, .ptr 1 0), (6, .ptr 2 0), (3, vI .i64 0), (4, vI .i64 0)]) (fun s => paO b s.2.1 s.2.2) (fun s => Pl b s.2.2 ∧ 1 ≤ s.1 ∧ s.2.1.length ≤ 5000 ∧ (s.2.2.2 = 0 → (b.length : Int) - s.2.2.1 < s.1) ∧ parS b s.1 s.2.1 s.2.2 = q) (fun s => s.1) (b.length + 1, [], (0, 0)) ⟨⟨Int.le_refl _, Int.natCast_nonneg _, .inl rfl⟩, Nat.le_add_left _ _, Nat.zero_le _, fun _ => by simp only; omega, hq⟩ ?_ ?_
    · exact fun h => sat_le h hC hCl ⟨⟨_, rfl, .refl _⟩, ⟨_, rfl, .refl _⟩, ⟨_, rfl, .refl _⟩, ⟨_, rfl, .refl _⟩, ⟨_, rfl, .refl _⟩, ⟨_, rfl, .refl _⟩, trivial⟩ ⟨.refl _, .refl _, .refl _, .refl _, trivial⟩ rfl rfl (Nat.zero_le _)
    rintro ⟨f, l, st⟩ ⟨hp, hf1, hl, hrem, hcl⟩ ih
    simp only at hp hf1 hl hrem hcl ih ⊢
    obtain ⟨f, rfl⟩ : ∃ k, f = k + 1 := ⟨f - 1, by omega⟩
    rw [parS] at hcl
    refine sat_branch tabOk Tryz.func18 rfl trivial (fun h1 => ?_) (fun h1 => ?_)
    rotate_left
    · have h1 : (st.2 == 0) = false := h1
      rw [beq_eq_false_iff_ne] at h1
      rw [if_neg (fun hh => h1 hh.1)] at hcl
      refine sat_branch tabOk Tryz.func18 rfl trivial (fun h => by cases h) (fun _ => ?_)
      refine sat_steps 2 tabOk Tryz.func18 rfl trivial ?_
      exact sat_le (key l st hcl) hC hCl ⟨⟨_, rfl, .refl _⟩, ⟨_, rfl, .refl _⟩, ⟨_, rfl, .refl _⟩, ⟨_, rfl, .refl _⟩, ⟨_, rfl, .refl _⟩, ⟨_, rfl, .refl _⟩, trivial⟩ ⟨.refl _, .refl _, .refl _, .refl _, trivial⟩ rfl rfl (Nat.zero_le _)
    have h1 : (st.2 == 0) = true := h1
    rw [beq_iff_eq] at h1
    refine sat_branch tabOk Tryz.func18 rfl trivial (fun h2 => ?_) (fun h2 => ?_)
    rotate_left
    · have h2 : decide (st.1 < (((b.map eU8).length : Nat) : Int)) = false := h2
      rw [decide_eq_false_iff_not, List.length_map] at h2
      rw [if_neg (fun hh => h2 hh.2)] at hcl
      refine sat_steps 2 tabOk Tryz.func18 rfl trivial ?_
      exact sat_le (key l st hcl) hC hCl ⟨⟨_, rfl, .refl _⟩, ⟨_, rfl, .refl _⟩, ⟨_, rfl, .refl _⟩, ⟨_, rfl, .refl _⟩, ⟨_, rfl, .refl _⟩, ⟨_, rfl, .refl _⟩, trivial⟩ ⟨.refl _, .refl _, .refl _, .refl _, trivial⟩ rfl rfl (Nat.zero_le _)
    have h2 : decide (st.1 < (((b.map eU8).length : Nat) : Int)) = true := h2
    rw [decide_eq_true_eq, List.length_map] at h2
    rw [if_pos ⟨h1, h2⟩] at hcl
    refine sat_branch tabOk Tryz.func18 rfl trivial (fun h3 => ?_) (fun h3 => ?_)
    · have h3 : ((((l.map eNd).length : Nat) : Int) == 5000) = true := h3
      rw [beq_iff_eq, List.length_map] at h3
      rw [if_pos (by omega)] at hcl
      refine sat_callG [1] tabOk Tryz.func18 rfl trivial (fails_call b st st.1 3) ⟨⟨_, rfl, .refl _⟩, trivial⟩ (.refl _) rfl rfl rfl ⟨_, rfl⟩ ?_
      rintro r o ⟨rfl, rfl⟩
      rw [if_pos h1]
      refine sat_steps 2 tabOk Tryz.func18 rfl trivial ?_
      exact sat_le (key l (st.1, 3) hcl) hC hCl ⟨⟨_, rfl, .refl _⟩, ⟨_, rfl, .refl _⟩, ⟨_, rfl, .refl _⟩, ⟨_, rfl, .refl _⟩, ⟨_, rfl, .refl _⟩, ⟨_, rfl, .refl _⟩, trivial⟩ ⟨.refl _, .refl _, .refl _, .refl _, trivial⟩ rfl rfl (Nat.zero_le _)
    have h3 : ((((l.map eNd).length : Nat) : Int) == 5000) = false := h3
    rw [beq_eq_false_iff_ne, List.length_map] at h3
    rw [if_neg (by omega)] at hcl
    have hw : IntKind.i64.wrap ((((l.map eNd).length : Nat) : Int) + 1) = (l.length : Int) + 1 := by
      rw [List.length_map, wrap_id (by omega) (by omega)]
    have hnc := node_call b ((l.length : Int) + 1) st hp hb (by omega)
    have hnp := nodeS_pl (id := (l.length : Int) + 1) hp
    have hns := fun h => node_step (id := (l.length : Int) + 1) hp h
    generalize nodeS b ((l.length : Int) + 1) st = nq at *
    obtain ⟨x, st'⟩ := nq
    simp only at hnc hnp hns hcl
    refine sat_drawX1 9 7 [(8, some (46, .d (.sl 5 [eNd x] (litRd [eNd x])))), (7, some (45, .d (eNd x)))] [some zBt, some (rdC b st'), some (xBt 3), some (gNds l)] _ tabOk Tryz.func18 rfl rfl trivial (by kernel_rfl) (by kernel_rfl) rfl rfl rfl (ds_done tabOk rfl trivial rfl) (ds_done tabOk rfl trivial rfl) ?_ ?_
    · refine List.forall_mem_cons.2 ⟨⟨_, rfl, rfl, ?_⟩, List.forall_mem_cons.2 ⟨⟨_, rfl, rfl, ?_⟩, fun x h => by cases h⟩⟩
      · exact headX_val1 tabOk rfl (fun _ _ _ h => h) rfl rfl (show (8 : Nat) ≠ 7 by decide) trivial rfl rfl rfl
      · refine headX_call1 [1] (fun _ _ _ h => h) rfl rfl rfl rfl rfl rfl (callFunc_run Tryz.func33 rfl rfl) hnc ⟨⟨_, rfl, .refl _⟩, trivial⟩ ⟨.refl _, .of (congrArg (fun z => vI .i64 z) hw), trivial⟩ rfl rfl rfl ?_
        rintro r o ⟨rfl, rfl⟩
        exact ⟨rfl, rfl⟩
    refine sat_stop tabOk Tryz.func18 rfl ?nd ?_
    case nd =>
      rw [List.length_map]
      show (l.length + 1) * 88 ≤ 140737488355328 ∧ True
      exact ⟨by omega, trivial⟩
    refine sat_le (ih (f, l ++ [x], st') ⟨hnp, ?_, ?_, ?_, hcl⟩ (Nat.lt_succ_self _)) hC hCl ⟨⟨_, rfl, .refl _⟩, ⟨_, rfl, .refl _⟩, ⟨_, rfl, .refl _⟩, ⟨_, rfl, .refl _⟩, ⟨_, rfl, .refl _⟩, ⟨_, rfl, .refl _⟩, trivial⟩ ⟨.refl _, .refl _, .refl _, .grow ?_ (map_rd eNd default _), trivial⟩ rfl rfl (Nat.zero_le _)
    · have := hrem h1
      simp only
      omega
    · simp only [List.length_append, List.length_cons, List.length_nil]
      omega
    · intro he
      have := hns he
      have := hrem h1
      simp only at this ⊢
      omega
    · rw [List.map_append]
      rfl
  rintro l st rfl
  refine sat_branch tabOk Tryz.func18 rfl trivial (fun h1 => ?_) (fun h1 => ?_)
  · have h1 : (st.2 != 0) = true := h1
    rw [bne_iff_ne] at h1
    rw [if_pos h1]
    refine sat_draw0S 11 9 0 (c := none) (a := .dead) (o2 := zBt) tabOk Tryz.func18 rfl rfl trivial (by kernel_rfl) (by kernel_rfl) rfl rfl (fun _ => ds_done tabOk rfl trivial rfl) rfl rfl rfl rfl trivial ?_
    exact sat_retL tabOk Tryz.func18 rfl trivial hC hCl (r2 := parA ([], st)) (.tp ⟨.dag ⟨dle_nil, trivial⟩, .refl _, .refl _, trivial⟩) (o2 := []) trivial rfl rfl (Nat.le_refl _) rfl
  · have h1 : (st.2 != 0) = false := h1
    rw [bne_eq_false_iff_eq] at h1
    rw [if_neg (not_not_intro h1)]
    refine sat_freeze 3 rfl ?_
    refine sat_draw0S 6 5 0 (c := none) (a := .dead) (o2 := bBt l) tabOk Tryz.func18 rfl rfl trivial (by kernel_rfl) (by kernel_rfl) rfl rfl (fun _ => ds_done tabOk rfl trivial rfl) rfl rfl rfl rfl trivial ?_
    refine sat_ret tabOk Tryz.func18 rfl trivial ?_
    obtain ⟨at_, e⟩ := st
    obtain rfl : e = 0 := h1
    rfl
end Go.Proofs.YtjjlipbddlignaaGreatDoor
namespace Go.Proofs.YtjjlipbddlignaaGreatDoor
open Go Ab Go.RowKit
set_option maxRecDepth 100000
set_option linter.unusedVariables false
set_option linter.unusedSimpArgs false
set_option maxHeartbeats 4000000

theorem joinX : Go.Proofs.Builder.Extra Tryz.prog Tryz.joinL_ren := {
  sizeBuilder := by kernel_rfl
  liesBuilder := by kernel_rfl
  t5 := Tryz.underlying5
  a5 := Tryz.isAgg5
  z5 := Tryz.sizeOf5
  v5 := Tryz.zeroValue5
  infoByte := by kernel_rfl
  cellsByte := by kernel_rfl
  sizeByte := by kernel_rfl
  neB5 := by decide }
theorem Join_call (xs : List (List UInt8)) (sep : List UInt8) (hne : xs ≠ []) (hN : xs.length ≤ 1000000) (hl : (Go.Lib.join xs sep).length ≤ 140737488355328) : ACall Tryz.prog 22 [.d (eSs xs), vTx sep] [] (fun r o => r = vTx (Go.Lib.join xs sep)) := by
  intro X π w us hgk m hv
  refine .inl ⟨callFunc_run Tryz.func22 rfl rfl _ _, ?_⟩
  cases hv with | cons hv ht => cases ht with | cons hv2 ht => cases ht with | nil =>
  cases hv2 with | d hv2 => cases hv2 with | v _ =>
  cases hv with | d hv =>
  have hv' : RelD w (okOf X π []) (.sl 1 (xs.map fun x => D.v (.string ⟨x.toArray⟩)) (fun i => dSL (xs.getD i []))) _ := hv
  generalize hxs : (xs.map fun x => D.v (Value.string ⟨x.toArray⟩)) = ys at hv'
  cases hv' with
  | nil hb => exact absurd (List.map_eq_nil_iff.1 hxs) hne
  | sl he hm hc hb hr =>
    rename_i b o c us
    subst hxs
    obtain rfl := relE_enc (enc := fun x : List UInt8 => Value.string ⟨x.toArray⟩) he
    have hcell : ∀ (j : Nat) x, (xs.map fun x => (⟨x.toArray⟩ : ByteArray))[j]? = some x → w.cell? ⟨b, o + j, none⟩ = some (.string x) := by
      intro j x hj
      rw [List.getElem?_map] at hj
      obtain ⟨y, hy, rfl⟩ := Option.map_eq_some_iff.1 hj
      have hjl := (List.getElem?_eq_some_iff.1 hy).1
      rw [(hm j (by simpa using hjl)).2, List.getElem?_map, hy]
      rfl
    have hpos : 0 < xs.length := List.length_pos_iff.2 hne
    have hb0 : b < w.heap.size := cell_lt (hcell 0 _ (by rw [List.getElem?_map, List.getElem?_eq_getElem hpos]; rfl))
    have hmm : (xs.map fun x => (⟨x.toArray⟩ : ByteArray)).map (·.data.toList) = xs := by
      rw [List.map_map]
      conv => rhs; rw [← List.map_id xs]
      exact List.map_congr_left fun x _ => rfl
    have hcall := Any.strings_Join Tryz.joinL joinX b o c (xs.map fun x => (⟨x.toArray⟩ : ByteArray)) ⟨sep.toArray⟩ w hcell hb0 (by rw [List.length_map]; omega) (by rw [List.length_map]; simpa using hc) (by rw [hmm]; exact hl)
    rw [hmm, List.length_map] at hcall
    have hll : (xs.map fun x => D.v (Value.string ⟨x.toArray⟩)).length = xs.length := by simp
    rw [hll]
    refine Calls.mono hcall ?_
    rintro e w' ⟨rfl, bl⟩
    have t := tr_plain m bl.os bl.tape ⟨bl.output, Nat.le_refl _⟩ bl.size bl.block
    exact ⟨_, _, [], π, rfl, rfl, t.mem, .d (.v rfl), t.hist⟩
end Go.Proofs.YtjjlipbddlignaaGreatDoor
namespace Go.Proofs.YtjjlipbddlignaaGreatDoor
open Go Ab Go.RowKit
set_option maxRecDepth 100000
set_option linter.unusedVariables false
set_option linter.unusedSimpArgs false
set_option maxHeartbeats 4000000

theorem Grow_call (n : Nat) (h1 : 1 ≤ n) (hn : n ≤ 1000000) (rd : Nat → D) : ACall Tryz.prog 35 [.d (.v (.slice none 0 0)), vI .i64 (n : Int)] [] (fun r o => r = .gs 0 ∧ o = [some (.grow 3 1 [] rd)]) := by
  intro X π w us hgk m hv
  refine .inl ⟨callFunc_run Tryz.func35 rfl rfl _ _, ?_⟩
  cases hv with | cons hv ht => cases ht with | cons hv2 ht => cases ht with | nil =>
  cases hv with | d hv => cases hv with | v _ =>
  cases hv2 with | d hv2 => cases hv2 with | v _ =>
  obtain rfl : π = [] := List.length_eq_zero_iff.1 m.len
  obtain ⟨i0, hi0, hz0, hs0, hb0⟩ : ∃ i0, Tryz.prog.info? (Tryz.growL_ren.t 25) = some i0 ∧ i0.zero = some (.int .i64 0) ∧ i0.size = 1 ∧ i0.bytes = 8 := by
    have h : (Tryz.prog.info? (Tryz.growL_ren.t 25)).map (fun i => (i.zero, i.size, i.bytes)) = some (some (.int .i64 0), 1, 8) := by kernel_rfl
    cases hi : Tryz.prog.info? (Tryz.growL_ren.t 25) with
    | none => rw [hi] at h; cases h
    | some i =>
      rw [hi] at h
      simp only [Option.map_some, Option.some.injEq, Prod.mk.injEq] at h
      exact ⟨i, rfl, h.1, h.2.1, h.2.2⟩
  have hcall := Any8.slices_Grow_grow Tryz.growL i0 (.int .i64 0) hi0 hz0 (by omega) none 0 0 n [] w (Nat.le_refl _) (by omega) (by rw [hb0]; omega) (by omega) (by simp) (fun _ => rfl) (fun a e => by cases e)
  refine Calls.mono hcall ?_
  rintro e w' ⟨rfl, rfl⟩
  have hG1 := grownCap_ge w (0 + n) 0 (Tryz.growL_ren.t 25)
  have hG2 := grownCap_le_maxLen w (0 + n) 0 (Tryz.growL_ren.t 25) (by have hml : maxLen = 9223372036854775807 := rfl; omega)
  generalize grownCap w (0 + n) 0 (Tryz.growL_ren.t 25) = G at *
  obtain ⟨c, rfl⟩ : ∃ c, G = c + 1 := ⟨G - 1, by omega⟩
  generalize hA : (#[] ++ Builtin.zeroCells (Value.int IntKind.i64 0).cells (0 + n - 0) ++ Builtin.zeroCells (Value.int IntKind.i64 0).cells (c + 1 - (0 + n)) : Array Value) = A
  have hAs : A.size = c + 1 := by
    rw [← hA]
    simp only [Array.size_append, zeroCells_len]
    show 0 + (0 + n - 0) * 1 + (c + 1 - (0 + n)) * 1 = c + 1
    omega
  obtain ⟨A⟩ := A
  have hAs : A.length = c + 1 := hAs
  have hnew : (w.drew.alloc (.cells A.toArray (Tryz.growL_ren.t 25))).heap[w.heap.size]? = some (.cells A.toArray 3 (0, 0)) := by
    show (w.heap.push _)[w.heap.size]? = _
    simp
    rfl
  have t := tr_newW (w' := w.drew.alloc (.cells A.toArray (Tryz.growL_ren.t 25))) m rfl rfl ⟨rfl, dr_mono (Nat.le_succ _)⟩ (by show w.heap.size ≤ (w.heap.push _).size; simp) (fun b hb => heap_push_old _ hb) (.slice (some ⟨w.heap.size, 0, none⟩) 0 (c + 1)) (.grow 3 1 [] rd)
    (by intro b e; cases e; exact Nat.le_refl _)
    (.grow (xs := []) (us := []) hnew (fun i _ h => by omega) .nil (fun i h => absurd h (Nat.not_lt_zero i)) (Nat.zero_le _) hG2 (by rw [hAs]; omega) (fun i h => absurd h (Nat.not_lt_zero i)))
  exact ⟨_, _, _, _, rfl, ⟨rfl, rfl⟩, t.mem, .gs rfl, t.hist⟩
end Go.Proofs.YtjjlipbddlignaaGreatDoor
namespace Go.Proofs.YtjjlipbddlignaaGreatDoor
open Go Ab Go.RowKit
set_option maxRecDepth 100000
set_option linter.unusedVariables false
set_option linter.unusedSimpArgs false
set_option maxHeartbeats 4000000

@[reducible] def eIss (l : List (List Int)) : D := eL 1 eIs [] l
theorem Grow0_call : ACall Tryz.prog 35 [.d (.v (.slice none 0 0)), vI .i64 0] [] (fun r o => r = .d (.v (.slice none 0 0))) :=
  below_acallT (fun _ _ => Nat.le_refl _) rfl (vs := [.slice none 0 0, .int .i64 0]) (fun w ok π us h => by
    cases h with | cons h1 h => cases h with | cons h2 h => cases h with | nil =>
    cases h1 with | d h1 => cases h1 with | v _ => cases h2 with | d h2 => cases h2 with | v _ => rfl) (fun args w => callFunc_run Tryz.func35 rfl rfl args w) fun w ht => (Any8.slices_Grow_room Tryz.growL none 0 0 0 w (Nat.le_refl _) (by omega) (by omega) (by omega)).mono fun e w' ⟨he, hw⟩ => ⟨he, hw ▸ ⟨rfl, rfl, rfl, Nat.le_refl _, fun b hb => rfl⟩⟩
theorem Concat_call (a b : List Int) (ha : a.length ≤ 100000) (hb : b.length ≤ 100000) : ACall Tryz.prog 20 [.d (eIss [a, b])] [] (fun r o => r = .d (eIs (a ++ b))) := by
  refine acall_enter Tryz.func20 rfl rfl (Nat.le_of_ble_eq_true rfl) fun C hC hCl hDs hGk => ?_
  refine sat_stop tabOk Tryz.func20 rfl trivial ?_
  have rows : ∀ i : Nat, i < 2 → (([a, b] : List (List Int)).getD i []).length ≤ 100000 := fun i hi => by
    rcases i with _ | _ | i
    · exact ha
    · exact hb
    · omega
  have hsum : ∀ i : Nat, i < 2 → (([a, b] : List (List Int)).take (i + 1)).flatten = (([a, b] : List (List Int)).take i).flatten ++ ([a, b] : List (List Int)).getD i [] := fun i hi => by
    rcases i with _ | _ | i
    · simp
    · simp
    · omega
  have hle : ∀ i : Nat, i ≤ 2 → (([a, b] : List (List Int)).take i).flatten.length ≤ 100000 * i := fun i hi => by
    rcases i with _ | _ | _ | i
    · simp
    · simpa using ha
    · simp; omega
    · omega
  generalize hL : ([a, b] : List (List Int)) = L at *
  have hLl : L.length = 2 := by rw [← hL]; rfl
  refine sat_while (α := Nat) (fun i => [(0, .d (eIss L)), (9, .d (eIss L)), (10, vI .i64 2), (11, vI .i64 (i : Int)), (3, vI .i64 (((L.take i).flatten.length : Nat) : Int))]) (fun i => []) (fun i => i ≤ 2) (fun i => 2 - i) 0 (Nat.zero_le _) ?_ ?_
  · exact fun h => sat_le h hC hCl ⟨⟨_, rfl, .refl _⟩, ⟨_, rfl, .refl _⟩, ⟨_, rfl, .of (by rw [List.length_map, hLl]; rfl)⟩, ⟨_, rfl, .refl _⟩, ⟨_, rfl, .of (by simp)⟩, trivial⟩ trivial rfl rfl (Nat.zero_le _)
  rintro i hi ih
  refine sat_branch tabOk Tryz.func20 rfl trivial (fun h => ?_) (fun h => ?_)
  · have h : decide ((i : Int) < 2) = true := h
    rw [decide_eq_true_eq] at h
    have h1 := rows i (by omega)
    have h2 := hsum i (by omega)
    have h3 := hle i hi
    have hw : IntKind.i64.wrap ((((L.take i).flatten.length : Nat) : Int) + ((((L.getD i []).map eI).length : Nat) : Int)) = (((L.take (i + 1)).flatten.length : Nat) : Int) := by
      rw [h2, List.length_append, List.length_map, wrap_id (by omega) (by omega)]
      omega
    refine sat_branch tabOk Tryz.func20 rfl ?nd (fun h4 => ?_) (fun h4 => ?_)
    case nd => exact ⟨⟨by omega, by rw [List.length_map, hLl]; omega⟩, trivial⟩
    · have h4 : decide (IntKind.i64.wrap ((((L.take i).flatten.length : Nat) : Int) + ((((L.getD i []).map eI).length : Nat) : Int)) < 0) = true := h4
      rw [hw, decide_eq_true_eq] at h4
      omega
    refine sat_stop tabOk Tryz.func20 rfl trivial ?_
    exact sat_le (ih (i + 1) (by omega) (by omega)) hC hCl ⟨⟨_, rfl, .refl _⟩, ⟨_, rfl, .refl _⟩, ⟨_, rfl, .refl _⟩, ⟨_, rfl, .of (by rw [wrap_id (by omega) (by omega)]; rfl)⟩, ⟨_, rfl, .of (by rw [← hw]; rfl)⟩, trivial⟩ trivial rfl rfl (Nat.zero_le _)
  have h : decide ((i : Int) < 2) = false := h
  rw [decide_eq_false_iff_not] at h
  obtain rfl : i = 2 := by omega
  have hf : (L.take 2).flatten = a ++ b := by rw [← hL]; simp
  apply letK (p := ASat Tryz.prog 20 Tryz.f20.ntmps C _ [(25, .d (eIss L)), (26, vI .i64 2), (27, vI .i64 0), (6, .gs 0)] [some (.grow 3 1 (([] : List Int).map eI) (fun i => eI (([] : List Int).getD i 0)))] (fun r o => r = .d (eIs (a ++ b))))
  · intro key
    by_cases hz : (L.take 2).flatten.length = 0
    · refine sat_call tabOk Tryz.func20 rfl trivial Grow0_call ⟨.refl _, .of (by rw [hz]; rfl), trivial⟩ rfl ⟨_, rfl⟩ (by rintro r o rfl; rfl) ?_
      rintro _ o rfl
      refine sat_stop tabOk Tryz.func20 rfl trivial ?_
      refine sat_own (t := 6) (e := 3) (s := 1) (.inl rfl) (fun i => eI (([] : List Int).getD i 0)) ?_
      exact sat_le key hC hCl ⟨⟨_, rfl, .refl _⟩, ⟨_, rfl, .of (by rw [List.length_map, hLl]; rfl)⟩, ⟨_, rfl, .refl _⟩, ⟨_, rfl, .refl _⟩, trivial⟩ ⟨.refl _, trivial⟩ rfl rfl (Nat.zero_le _)
    · refine sat_callG [] tabOk Tryz.func20 rfl trivial (Grow_call (L.take 2).flatten.length (by omega) (by have := hle 2 hi; omega) (fun i => eI (([] : List Int).getD i 0))) trivial (.refl _) rfl rfl rfl ⟨_, rfl⟩ ?_
      rintro _ o ⟨rfl, rfl⟩
      refine sat_stop tabOk Tryz.func20 rfl trivial ?_
      exact sat_le key hC hCl ⟨⟨_, rfl, .refl _⟩, ⟨_, rfl, .of (by rw [List.length_map, hLl]; rfl)⟩, ⟨_, rfl, .refl _⟩, ⟨_, rfl, .refl _⟩, trivial⟩ ⟨.refl _, trivial⟩ rfl rfl (Nat.zero_le _)
  refine sat_while (α := Nat) (fun i => [(25, .d (eIss L)), (26, vI .i64 2), (27, vI .i64 (i : Int)), (6, .gs 0)]) (fun i => [some (.grow 3 1 ((L.take i).flatten.map eI) (fun j => eI ((L.take i).flatten.getD j 0)))]) (fun i => i ≤ 2) (fun i => 2 - i) 0 (Nat.zero_le _) ?_ ?_
  · exact fun h => sat_le h hC hCl ⟨⟨_, rfl, .refl _⟩, ⟨_, rfl, .refl _⟩, ⟨_, rfl, .refl _⟩, ⟨_, rfl, .refl _⟩, trivial⟩ ⟨.of (by simp), trivial⟩ rfl rfl (Nat.zero_le _)
  rintro i hi ih
  refine sat_branch tabOk Tryz.func20 rfl trivial (fun h => ?_) (fun h => ?_)
  · have h : decide ((i : Int) < 2) = true := h
    rw [decide_eq_true_eq] at h
    have h1 := rows i (by omega)
    have h2 := hsum i (by omega)
    have h3 := hle i hi
    refine sat_stop tabOk Tryz.func20 rfl ?nd ?_
    case nd =>
      refine ⟨?_, ⟨by omega, by rw [List.length_map, hLl]; omega⟩, trivial⟩
      rw [List.length_map, List.length_map, Int.toNat_natCast]
      show ((L.take i).flatten.length + (L.getD i []).length) * 8 ≤ _
      omega
    refine sat_le (ih (i + 1) (by omega) (by omega)) hC hCl ⟨⟨_, rfl, .refl _⟩, ⟨_, rfl, .refl _⟩, ⟨_, rfl, .of (by rw [wrap_id (by omega) (by omega)]; rfl)⟩, ⟨_, rfl, .refl _⟩, trivial⟩ ⟨.grow ?_ (map_rd eI 0 _), trivial⟩ rfl rfl (Nat.zero_le _)
    rw [h2, List.map_append]
    rfl
  have h : decide ((i : Int) < 2) = false := h
  rw [decide_eq_false_iff_not] at h
  obtain rfl : i = 2 := by omega
  refine sat_freeze 0 rfl ?_
  refine sat_ret tabOk Tryz.func20 rfl trivial ?_
  rw [hf]
  rfl
end Go.Proofs.YtjjlipbddlignaaGreatDoor
namespace Go.Proofs.YtjjlipbddlignaaGreatDoor
open Go Ab Go.Lib
set_option maxRecDepth 100000
set_option linter.unusedVariables false
set_option linter.unusedSimpArgs false

/-! ### Lines' ends -/
theorem itoa_no10 {n : Int} (h : 0 ≤ n) : ∀ c ∈ tItoa n, c ≠ 10 := by
  obtain ⟨u, rfl⟩ : ∃ u : Nat, n = u := ⟨n.toNat, by omega⟩
  rw [show tItoa (u : Int) = decDigits u from itoa_nonneg u]
  rintro c hc rfl
  have := dec_dig u _ hc
  cases this
theorem numT_no10 {n : Int} (h : 0 ≤ n) : ∀ c ∈ numT n, c ≠ 10 := by
  intro c hc
  unfold numT at hc
  rcases List.mem_cons.1 hc with rfl | hc
  · decide
  · exact itoa_no10 h c hc
theorem bits_no10 {t : List UInt8} (h : bitsOk t = true) : ∀ c ∈ t, c ≠ 10 := by
  unfold bitsOk at h
  rw [Bool.and_eq_true, List.all_eq_true] at h
  rintro c hc rfl
  have := h.2 _ hc
  cases this
theorem low_no10 {t : List UInt8} (h : ∀ c ∈ t, isLow c = true) : ∀ c ∈ t, c ≠ 10 := by
  rintro c hc rfl
  have := h _ hc
  cases this
theorem t_no10 {f t : List UInt8} (h : tOk f t = true) : ∀ c ∈ t, c ≠ 10 := by
  unfold tOk at h
  split at h
  · exact bits_no10 h
  · split at h
    · rw [Bool.or_eq_true, decide_eq_true_eq] at h
      rcases h with rfl | h
      · exact fun c hc => absurd hc List.not_mem_nil
      · exact nameOk_no10 h
    · obtain rfl := of_decide_eq_true h
      exact fun c hc => absurd hc List.not_mem_nil
/-- A line: no end within, and an end. -/
theorem nodeT_line {id : Int} {x : Nd} (h0 : 0 ≤ id) (hid : id ≤ 100000) (h : nodeB id x = true) : ∃ s, nodeT id x = s ++ [10] ∧ ∀ c ∈ s, c ≠ 10 := by
  obtain ⟨n1, n2, n3⟩ := nodeB_nums hid h
  unfold nodeB at h
  simp only [Bool.and_eq_true] at h
  obtain ⟨⟨⟨⟨h1, h2⟩, h3⟩, h4⟩, h5⟩ := h
  refine ⟨_, rfl, fun c hc => ?_⟩
  have ho := low_no10 (op_low x.op h1).2
  have ht := t_no10 h3
  simp only [List.mem_append, List.mem_cons, List.mem_flatMap] at hc
  rcases hc with ((((hc | hc | hc) | hc) | hc) | hc) | hc
  · exact itoa_no10 h0 c hc
  · rw [hc]; decide
  · exact ho c hc
  · split at hc
    · revert c; decide
    · exact absurd hc List.not_mem_nil
  · split at hc
    · exact numT_no10 (by omega) c hc
    · exact absurd hc List.not_mem_nil
  · rcases hc with ⟨m, hm, hc⟩ | ⟨m, hm, hc⟩
    · exact numT_no10 (n2 m hm).1 c hc
    · exact numT_no10 (n3 m hm).1 c hc
  · split at hc
    · exact absurd hc List.not_mem_nil
    · rcases List.mem_cons.1 hc with rfl | hc
      · decide
      · exact ht c hc
end Go.Proofs.YtjjlipbddlignaaGreatDoor
