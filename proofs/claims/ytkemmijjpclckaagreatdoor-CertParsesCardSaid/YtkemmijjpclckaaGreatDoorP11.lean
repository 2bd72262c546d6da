/- A part of the proof. -/
import Derived.Test.YtkemmijjpclckaaGreatDoorP10
import Derived.Recover
set_option linter.unusedVariables false
set_option linter.unusedSimpArgs false
set_option linter.unusedSectionVars false
set_option maxRecDepth 100000
set_option maxHeartbeats 8000000
namespace Ab
open Go
variable [Draws]
section
variable {P : Program} [Globals P] {T : Tab} {f : FuncId} {fn : Func} {n : Nat} {C : Cx} {R : AV → List (Option AObj) → Prop} {todo k : List Item} {env : Env} {objs objs' : List (Option AObj)} {nd : Prop}
end
end Ab
namespace Ab
open Go
variable [Draws]
section
variable {P : Program} [Globals P] {T : Tab} {f : FuncId} {fn : Func} {n : Nat} {C : Cx} {objs : List (Option AObj)} {R : AV → List (Option AObj) → Prop} {ops : Array Oper} {m : Nat} {envF : Env} {X : Nat → Prop}
end
end Ab
namespace Ab
open Go
variable [Draws]
section
variable {P : Program} [Globals P] {T : Tab} {n : Nat} {env : Env} {objs : List (Option AObj)} {ops : Array Oper} {K : Env → Prop} {X : Nat → Prop}
end
end Ab
namespace Ab
open Go
variable [Draws]
section
variable {P : Program} [Globals P] {T : Tab} {f : FuncId} {fn : Func} {n m : Nat} {C : Cx} {R : AV → List (Option AObj) → Prop} {todo todo' k : List Item} {env env0 env' envF : Env} {objs objs' : List (Option AObj)} {nd : Prop} {ops : Array Oper} {l : List Oper} {K : Env → Prop} {X : Nat → Prop}
def LiveT (ops : Array Oper) (m : Nat) (L : List Nat) (t : Tmp) : Prop := (∃ q ∈ L, ∃ o, ops[q]? = some o ∧ o.dst = some t) ∨ ∀ j, j < m → dstIs ops j t = false
structure StepX (X : Nat → Prop) (O : List Nat → List (Option AObj)) (m : Nat) (ops : Array Oper) (envF : Env) (L : List Nat) (j : Nat) (π : List Value) (w : World) (π' : List Value) (w2 : World) : Prop where
 mem : Mem X π' (O (j :: L)) w2
 hist : Hist π (O L) w π' (O (j :: L)) w2
 keep : ∀ t a v, look envF t = some a → LiveT ops m L t → RelV w (okOf X π (O L)) π a v → RelV w2 (okOf X π' (O (j :: L))) π' a v
def HeadX (P : Program) [Globals P] (n : Nat) (X : Nat → Prop) (O : List Nat → List (Option AObj)) (m : Nat) (ops : Array Oper) (envF : Env) (j : Nat) (o : Oper) : Prop :=
 ∀ L, (∀ q ∈ L, q < m) → j ∉ L → (∀ q, z1m ops j q = true → q ∈ L) → (∀ q ∈ L, ∀ q', z1m ops q q' = true → q' ∈ L) → ∀ π w tmps, tmps.size = n → Mem X π (O L) w → GOk P π (O L) w → (∀ t ∈ o.looksAt ops, ∀ a, look envF t = some a → RelV w (okOf X π (O L)) π a (tmps.getD t undef)) →
  (Region.wanted o (yielded ops tmps) = false ∧ ∃ π', StepX X O m ops envF L j π w π' w ∧ PutOk n w (okOf X π' (O (j :: L))) π' envF o undef) ∨
  (Region.wanted o (yielded ops tmps) = true ∧
   ((∃ v w2 π', (execOp (Act.eval ⟨tmps, []⟩) o).run P w = .ok (.value v) w2 ∧ StepX X O m ops envF L j π w π' w2 ∧ PutOk n w2 (okOf X π' (O (j :: L))) π' envF o v) ∨
    (∃ w2 π', (execOp (Act.eval ⟨tmps, []⟩) o).run P w = .ok .skip w2 ∧ StepX X O m ops envF L j π w π' w2 ∧ PutOk n w2 (okOf X π' (O (j :: L))) π' envF o undef) ∨
    (∃ g args, (execOp (Act.eval ⟨tmps, []⟩) o).run P w = .ok (.enter g args) w ∧ Calls P g args w fun e w2 => ∃ v π', e = .returned v ∧ StepX X O m ops envF L j π w π' w2 ∧ PutOk n w2 (okOf X π' (O (j :: L))) π' envF o v)))
theorem zfs {O : List Nat → List (Option AObj)} {objsF : List (Option AObj)} (hmx : P.follows .mixedOrders = true) (hB : drawB ops m = true) (hops : ∀ j o, j < m → ops[j]? = some o → HeadX P n C.X O m ops envF j o)
  (hO0 : O [] = objs) (hOF : ∀ L, (∀ i, i < m → i ∈ L) → O L = objsF)
  (henv : ∀ t, (∀ j, j < m → dstIs ops j t = false) → ∀ a, look envF t = some a → ∃ b, look env0 t = some b ∧ VLe b a)
  (hK : ASat P f n C (.inRegion ops (List.range' m (ops.size - m)) :: k) envF objsF R) {id : Nat} (hGk : GOk P C.π C.objs C.w := by with_reducible assumption) : ASat P f n C (.code (.region id ops true) :: k) env0 objs R := by
 simp only [drawB, Bool.and_eq_true, decide_eq_true_eq] at hB
 obtain ⟨⟨⟨⟨hms, hback⟩, hsink⟩, hchain⟩, hap⟩ := hB
 have hap : ∀ j o, j < m → ops[j]? = some o → (∀ k, k < m → k ≠ j → ∀ d, o.dst = some d → dstIs ops k d = false) ∧ ∀ k, k < m → ∀ t ∈ o.looksAt ops, dstIs ops k t = true → z1m ops j k = true := by
  intro j o hj ho
  have h1 := List.all_eq_true.1 hap j (List.mem_range.2 hj)
  rw [ho] at h1
  have h2 : ∀ k, k < m → ((decide (k = j) || z7k ops o k) = true ∧ (o.looksAt ops).all (fun t => !dstIs ops k t || z1m ops j k) = true) := fun k hk => by
   have := List.all_eq_true.1 h1 k (List.mem_range.2 hk)
   simpa only [Bool.and_eq_true] using this
  refine ⟨fun k hk hne d hd => ?_, fun k hk t ht hd => ?_⟩
  ·have := (h2 k hk).1
   unfold z7k at this
   rw [hd] at this
   simpa [hne] using this
  ·have := List.all_eq_true.1 (h2 k hk).2 t ht
   simpa [hd] using this
 intro π w tmps0 hn hm hh he
 have hl1 : Later w { w with drawn := w.drawn + 1 } := ⟨rfl, rfl, ⟨rfl, zv (Nat.le_succ _)⟩, Nat.le_refl _, fun _ _ => rfl⟩
 have htr1 := hl1.tr hm
 have key : ∀ (fuel t : Nat) (listed : Array Bool) (L : List Nat) (tmps : Array Value) (w' : World) (π : List Value), Lst ops m L listed → L.length + fuel = ops.size → Mem C.X π (O L) w' → Hist C.π C.objs C.w π (O L) w' → tmps.size = n →
   (∀ j ∈ L, ∀ o, ops[j]? = some o → ∀ d, o.dst = some d → ∃ b, look envF d = some b ∧ RelV w' (okOf C.X π (O L)) π b (tmps.getD d undef)) →
   (∀ t, (∀ j, j < m → dstIs ops j t = false) → ∀ a, look envF t = some a → RelV w' (okOf C.X π (O L)) π a (tmps.getD t undef)) →
   Sat P f C.ds (.inRegion ops (Region.linearise.go .any ops fuel t listed []) :: k) tmps w' (APost C R) := by
  intro fuel
  induction fuel with
  | zero =>
   intro t listed L tmps w' π hL hlen _ _ _ _ _
   have := z2u hL.nd (b := List.range m) fun y hy => List.mem_range.2 (hL.lt y hy)
   rw [List.length_range] at this
   omega
  | succ fuel ih =>
   intro t listed L tmps w' π hL hlen hm hh hsz hdone hrest
   have hLm := z2u hL.nd (b := List.range m) fun y hy => List.mem_range.2 (hL.lt y hy)
   rw [List.length_range] at hLm
   by_cases hall : ∀ i, i < m → i ∈ L
   ·have hml := z2u (List.nodup_range (n := m)) (b := L) fun y hy => hall y (List.mem_range.1 hy)
    rw [List.length_range] at hml
    have hfu : fuel + 1 = ops.size - m := by omega
    rw [hfu]
    have hg := z9x hback hchain (ops.size - m) t listed (.inl (by omega)) (by omega) hL.size (fun i hi => by
     rw [hL.mem i hi, show ops.size - (ops.size - m) = m by omega]
     exact ⟨fun h => hL.lt i h, fun h => hall i h⟩)
    rw [hg, show ops.size - (ops.size - m) = m by omega]
    rw [hOF L hall] at hm hh hdone hrest
    refine hK π w' tmps hsz hm hh fun u a hu => ?_
    by_cases hd : ∃ j, j < m ∧ dstIs ops j u = true
    ·obtain ⟨j, hj, hd⟩ := hd
     obtain ⟨o, ho, hdo⟩ := z1d.1 hd
     obtain ⟨b, hb, hr⟩ := hdone j (hall j hj) o ho u hdo
     rw [hu] at hb
     cases hb
     exact hr
    ·have hd' : ∀ j, j < m → dstIs ops j u = false := fun j hj => by
      cases hx : dstIs ops j u with
      | false => rfl
      | true => exact absurd ⟨j, hj, hx⟩ hd
     exact hrest u hd' a hu
   ·have hex : ∃ i, i ∈ Region.ready .any ops listed := by
     have hmin : ∀ q i, i ≤ q → i < m → i ∉ L → ∃ j, j < m ∧ j ∉ L ∧ ∀ j', j' < j → j' ∈ L := by
      intro q
      induction q with
      | zero => intro i hi hm hL; exact ⟨i, hm, hL, by omega⟩
      | succ q ihq =>
       intro i hi him hiL
       by_cases hx : ∃ j', j' < i ∧ j' ∉ L
       ·obtain ⟨j', h1, h2⟩ := hx
        exact ihq j' (by omega) (by omega) h2
       ·exact ⟨i, him, hiL, fun j' hj' => Decidable.byContradiction fun h2 => hx ⟨j', hj', h2⟩⟩
     obtain ⟨i, hi⟩ := Classical.not_forall.1 hall
     have hi1 : i < m := Classical.byContradiction fun h => hi fun h2 => absurd h2 h
     have hi2 : i ∉ L := fun h => hi fun _ => h
     obtain ⟨j, h1, h2, h3⟩ := hmin i i (Nat.le_refl _) hi1 hi2
     refine ⟨j, (z3h (by omega) hL).2 ⟨by omega, h2, ops[j], Array.getElem?_eq_getElem (by omega), fun e hee hb => ?_⟩⟩
     have hlt := z6v hback (Array.getElem?_eq_getElem (by omega : j < ops.size)) hee hb
     exact (hL.mem e.on (by omega)).2 (h3 e.on hlt)
    rw [zdp]
    have hlen2 : 0 < (Region.ready .any ops listed).length := List.length_pos_of_mem hex.choose_spec
    have hmod : t % (Region.ready .any ops listed).length < (Region.ready .any ops listed).length := Nat.mod_lt _ hlen2
    rw [List.getElem?_eq_getElem hmod]
    simp only
    have hir : (Region.ready .any ops listed)[t % (Region.ready .any ops listed).length] ∈ Region.ready .any ops listed := List.getElem_mem hmod
    generalize (Region.ready .any ops listed)[t % (Region.ready .any ops listed).length] = i at hir
    have him : i < m := by
     apply Classical.byContradiction
     intro hge
     exact hall (z95 (by omega) hsink hback hL (by omega) hchain hir).2
    obtain ⟨his, hiL, o, ho, hdeps⟩ := (z3h (by omega) hL).1 hir
    obtain ⟨ha1, ha2⟩ := hap i o him ho
    have hlooks : ∀ u ∈ o.looksAt ops, ∀ a, look envF u = some a → RelV w' (okOf C.X π (O L)) π a (tmps.getD u undef) := by
     intro u hu a hua
     by_cases hd : ∃ j, j < m ∧ dstIs ops j u = true
     ·obtain ⟨j, hj, hd⟩ := hd
      have hw := ha2 j hj u hu hd
      obtain ⟨o2, ho2, e, hee, hb, heq⟩ := z1l hw
      rw [ho] at ho2
      cases ho2
      have hjL := z2g hL (hdeps e hee hb)
      rw [heq] at hjL
      obtain ⟨oj, hoj, hdj⟩ := z1d.1 hd
      obtain ⟨b, hb2, hr⟩ := hdone j hjL oj hoj u hdj
      rw [hua] at hb2
      cases hb2
      exact hr
     ·have hd' : ∀ j, j < m → dstIs ops j u = false := fun j hj => by
       cases hx : dstIs ops j u with
       | false => rfl
       | true => exact absurd ⟨j, hj, hx⟩ hd
      exact hrest u hd' a hua
    have hL' : Lst ops m (i :: L) (listed.setIfInBounds i true) := by
     refine ⟨by simpa using hL.size, fun j hj => ?_, List.nodup_cons.2 ⟨hiL, hL.nd⟩, fun j hj => ?_, fun j hj oj hoj e hee hb => ?_⟩
     ·by_cases e : i = j
      ·subst e
       rw [show (listed.setIfInBounds i true).getD i false = true by simp [hL.size, hj]]
       simp
      ·rw [show (listed.setIfInBounds i true).getD j false = listed.getD j false by simp [Array.getElem?_setIfInBounds, e]]
       rw [hL.mem j hj, List.mem_cons]
       exact ⟨.inr, fun h => h.resolve_left fun h2 => e h2.symm⟩
     ·rcases List.mem_cons.1 hj with rfl | hj
      ·exact him
      ·exact hL.lt j hj
     ·rcases List.mem_cons.1 hj with rfl | hj
      ·rw [ho] at hoj
       cases hoj
       exact List.mem_cons_of_mem _ (z2g hL (hdeps e hee hb))
      ·exact List.mem_cons_of_mem _ (hL.cl j hj oj hoj e hee hb)
    have hdeps2 : ∀ q, z1m ops i q = true → q ∈ L := by
     intro q hq
     obtain ⟨o2, ho2, e, hee, hb, heq⟩ := z1l hq
     rw [ho] at ho2
     cases ho2
     rw [← heq]
     exact z2g hL (hdeps e hee hb)
    have hcl2 : ∀ q ∈ L, ∀ q', z1m ops q q' = true → q' ∈ L := by
     intro q hqL q' hq
     obtain ⟨o2, ho2, e, hee, hb, heq⟩ := z1l hq
     rw [← heq]
     exact hL.cl q hqL o2 ho2 e hee hb
    have next : ∀ (v : Value) (w2 : World) (π' : List Value), StepX C.X O m ops envF L i π w' π' w2 → PutOk n w2 (okOf C.X π' (O (i :: L))) π' envF o v → Sat P f C.ds (.inRegion ops (Region.linearise.go .any ops fuel (t / (Region.ready .any ops listed).length) (listed.setIfInBounds i true) []) :: k) (putT o.dst v tmps) w2 (APost C R) := by
     intro v w2 π' hst hput
     refine ih _ _ (i :: L) _ w2 π' hL' (by simp only [List.length_cons]; omega) hst.mem (hh.trans hst.hist) ?_ ?_ ?_
     ·cases hd : o.dst with
      | none => exact hsz
      | some d => simpa [putT] using hsz
     ·intro j hj0 oj hoj d hd
      rcases List.mem_cons.1 hj0 with e | hj
      ·subst e
       rw [ho] at hoj
       cases hoj
       obtain ⟨h1, b, h2, h3⟩ := hput d hd
       refine ⟨b, h2, ?_⟩
       rw [hd, z2z, if_pos ⟨rfl, by rw [hsz]; exact h1⟩]
       exact h3
      ·obtain ⟨b, h2, h3⟩ := hdone j hj oj hoj d hd
       refine ⟨b, h2, ?_⟩
       have hne : ∀ d', o.dst = some d' → d' ≠ d := by
        rintro d' hd' rfl
        have := ha1 j (hL.lt j hj) (fun e => hiL (e ▸ hj)) d' hd'
        rw [z1d.2 ⟨oj, hoj, hd⟩] at this
        cases this
       cases hdo : o.dst with
       | none => exact hst.keep _ _ _ h2 (.inl ⟨j, hj, oj, hoj, hd⟩) h3
       | some d' =>
        rw [z2z, if_neg fun hh => hne d' hdo hh.1]
        exact hst.keep _ _ _ h2 (.inl ⟨j, hj, oj, hoj, hd⟩) h3
     ·intro u hu a hua
      have h3 := hst.keep _ _ _ hua (.inr hu) (hrest u hu a hua)
      cases hdo : o.dst with
      | none => exact h3
      | some d' =>
       rw [z2z, if_neg fun hh => ?_]
       ·exact h3
       ·have := hu i him
        rw [z1d.2 ⟨o, ho, by rw [hdo, hh.1]⟩] at this
        cases this
    rcases hops i o him ho L (fun q hq => hL.lt q hq) hiL hdeps2 hcl2 π w' tmps hsz hm (hGk.hist hh) hlooks with ⟨hw, hput⟩ | ⟨hw, ⟨v, w2, π', hrun, hst, hput⟩ | ⟨w2, π', hrun, hst, hput⟩ | ⟨g, args, hrun, hcall⟩⟩
    ·obtain ⟨π', hst, hput⟩ := hput
     exact .opSkip ho hw (next undef w' π' hst hput)
    ·exact .opVal ho hw hrun (next v w2 π' hst hput)
    ·exact .opUnit ho hw hrun (next undef w2 π' hst hput)
    ·exact .opCall ho hw hrun (hcall.mono fun e w2 ⟨v, π', h1, h2, h3⟩ => ⟨v, h1, next v w2 π' h2 h3⟩)
 refine .step (fun kd cs => zab) ?_
 simp only [Region.schedule, hmx, Bool.true_or, if_true]
 subst hO0
 refine key ops.size _ _ [] tmps0 _ π ⟨by simp, fun i hi => ?_, List.nodup_nil, by simp, by simp⟩ (by simp) htr1.mem (z1u hh htr1) hn (by simp) (fun u hu a hua => ?_)
 ·simp [hi]
 ·obtain ⟨b, hb, hle⟩ := henv u hu a hua
  exact z3g hl1 (hle _ _ _ _ (he u b hb))
end
end Ab
namespace Ab
open Go
variable [Draws]
section
variable {P : Program} [Globals P] {T : Tab} {f : FuncId} {fn : Func} {n m : Nat} {C : Cx} {R : AV → List (Option AObj) → Prop} {todo todo' k : List Item} {env env0 env' envF : Env} {objs objs' objs1 objs2 : List (Option AObj)} {nd : Prop} {ops : Array Oper} {l : List Oper} {K : Env → Prop} {X : Nat → Prop} {O : List Nat → List (Option AObj)}
theorem z75 {L : List Nat} {j : Nat} (hO : O (j :: L) = O L) {π : List Value} {w w2 : World} (hm : Mem X π (O L) w) (l : Later w w2) : StepX X O m ops envF L j π w π w2 := by
 have htr := l.tr hm
 refine ⟨by rw [hO]; exact htr.mem, by rw [hO]; exact htr.hist, fun t a v _ _ h => ?_⟩
 rw [hO]
 exact z3g l h
end
end Ab
namespace Ab
open Go
variable [Draws]
section
variable {P : Program} [Globals P] {T : Tab} {n : Nat} {env : Env} {objs : List (Option AObj)} {ops : Array Oper} {K : Env → Prop} {X : Nat → Prop}
end
end Ab
namespace Ab
open Go
variable [Draws]
section
variable {P : Program} [Globals P] {T : Tab} {f : FuncId} {fn : Func} {n m : Nat} {C : Cx} {R : AV → List (Option AObj) → Prop} {env env' envF : Env} {objs objs' : List (Option AObj)} {ops : Array Oper} {todo k : List Item} {nd : Prop}
theorem zh1 {O : List Nat → List (Option AObj)} {j : Nat} {o : Oper} {E : Env} {a : AV} {c : Option Prop} (hT : TabOk P T) (hw : wantE ops (restr E (o.looksAt ops)) o = .yes) (hE : ∀ t ∈ o.looksAt ops, ∀ b, look E t = some b → look envF t = some b)
  (hs : ∀ L, j ∉ L → (∀ q, z1m ops j q = true → q ∈ L) → estep T o (restr E (o.looksAt ops)) (O L) = some ⟨c, true, a, none, O (j :: L)⟩) (hc : cond c) (hdst : o.dst = none) : HeadH P n C O m ops envF j o := by
 intro L _ hjL hdeps _ π w tmps hsz hm hgk hlk
 have he : zz w (okOf C.X π (O L)) π (restr E (o.looksAt ops)) tmps := fun t b ht => by
  obtain ⟨h1, h2⟩ := z28 ht
  exact hlk t h1 b (hE t h1 b h2)
 have hst := z8a (ds := []) hT hm he o
 rw [hs L hjL hdeps] at hst
 obtain ⟨v, w', π', h1, h2, _⟩ := hst hc
 refine .inr ⟨(zw he).1 hw, .inr (.inl ⟨w', π', h1, ⟨h2.mem, fun hh => hh.trans h2.hist, h2.keep⟩, fun d hd => ?_⟩)⟩
 rw [hdst] at hd
 cases hd
def boxO (ja js : Nat) (o1 o2 : AObj) (L : List Nat) : AObj := if js ∈ L then o2 else if ja ∈ L then o1 else HD
@[reducible] def boxA (ja js : Nat) (d : Tmp) (p : Nat) : Acts := [(ja, some (d, .ptr p 0)), (js, none)]
theorem zjh (m ja js : Nat) {d : Tmp} {t : TypeId} {r : TRow} {o2 : AObj} {oa os : Oper} {E : Env} {a : AV} {c : Option Prop} {id : Nat} (hT : TabOk P T) (hf : P.funcs[f]? = some fn) (hmx : P.follows .mixedOrders = true) (h : srun T n fn.results.toList 2000 True todo env objs = .draw nd id ops k env' objs') (hn : nd)
  (hB : drawZ ops m = true) (hsee : seeB ops m (boxA ja js d objs'.length) = true) (hja : Nat.blt ja m = true) (hjs : Nat.blt js m = true) (hne : Nat.beq ja js = false) (hwt : z1m ops js ja = true) (hpl : C.π.length ≤ objs'.length)
  (hoa : ops[ja]? = some oa) (hop : oa.op = .alloc t) (hg : oa.guard = none) (hr : tlook T t = some r) (hdst : oa.dst = some d) (hdn : Nat.blt d n = true)
  (hD : ∀ x, DSat P n C.X (objs' ++ [some x]) ops (fun e => e = E) (z3c ops m (boxA ja js d objs'.length)) env')
  (hos : ops[js]? = some os) (hsd : os.dst = none) (hws : wantE ops (restr ((d, .ptr objs'.length 0) :: E) (os.looksAt ops)) os = .yes)
  (hs : estep T os (restr ((d, .ptr objs'.length 0) :: E) (os.looksAt ops)) (objs' ++ [some (.cells t (r.zero.map fun v => .d (.v v)))]) = some ⟨c, true, a, none, objs' ++ [some o2]⟩) (hc : cond c)
  (hk : ASat P f n C (.inRegion ops (List.range' m (ops.size - m)) :: k) ((d, .ptr objs'.length 0) :: E) (objs' ++ [some o2]) R) (hGk : GOk P C.π C.objs C.w := by with_reducible assumption) : ASat P f n C todo env objs R := by
 have hne : ja ≠ js := Nat.ne_of_beq_eq_false hne
 have hnth : ∀ x : AObj, nth (objs' ++ [some x]) objs'.length = some (some x) := fun x => by rw [z1n]; simp
 have hset : ∀ x y : AObj, zi (objs' ++ [some x]) objs'.length (some y) = objs' ++ [some y] := fun x y => by rw [z1p]; simp
 refine z5s m 1 (boxA ja js d objs'.length) (fun L => objs' ++ [some (boxO ja js (.cells t (r.zero.map fun v => .d (.v v))) o2 L)]) E (objsF := objs' ++ [some o2]) hT hf hmx h hn hB hsee (by simp [boxO]) (fun L hL => ?_) (fun j L hj => ?_) ?_ (fun L => hD _) ?_ hk
 ·rw [boxO, if_pos (hL js (by simpa [Nat.blt_eq] using hjs))]
 ·simp only [actB, boxA, List.any_cons, List.any_nil, Bool.or_false, Bool.or_eq_false_iff] at hj
  have n1 := Nat.ne_of_beq_eq_false hj.1
  have n2 := Nat.ne_of_beq_eq_false hj.2
  simp only [boxO, List.mem_cons, n1, n2, false_or]
 ·simp [hja, hjs]
 ·refine List.forall_mem_cons.2 ⟨⟨oa, hoa, hdst, ?_⟩, List.forall_mem_cons.2 ⟨⟨os, hos, hsd, ?_⟩, fun x h => by cases h⟩⟩
  ·refine zf8 (p := objs'.length) hT hop hg hr hdst hdn ?_ hpl (fun L hL hcl => ?_) (fun L hL hcl => ?_)
   ·show look ((d, _) :: E) d = _
    simp [look]
   ·have hjsL : js ∉ L := fun h => hL (hcl js h ja hwt)
    simp only [boxO, if_neg hjsL, if_neg hL]
    exact hnth _
   ·have hjsL : js ∉ L := fun h => hL (hcl js h ja hwt)
    have hjs2 : js ∉ ja :: L := by simp only [List.mem_cons, not_or]; exact ⟨fun e => hne e.symm, hjsL⟩
    simp only [boxO, if_neg hjs2, if_neg hjsL, if_neg hL]
    rw [if_pos (List.mem_cons_self ..)]
    exact (hset _ _).symm
  ·refine zh1 (a := a) hT hws (fun _ _ _ h => h) (fun L hL hq => ?_) hc hsd
   have hjaL := hq ja hwt
   simp only [boxO, if_neg hL, if_pos hjaL, List.mem_cons, true_or, if_true]
   exact hs
theorem z78 {α : Type} : ∀ {l : List α} {p : Nat} {x : α}, nth l p = some x → zi l p x = l
 | [], _, _, _ => rfl
 | _ :: _, 0, _, h => by simp only [nth, Option.some.injEq] at h; subst h; rfl
 | _ :: _, p + 1, _, h => by simp only [zi]; rw [z78 (by simpa only [nth] using h)]
theorem z8k (m js p : Nat) {o1 o2 : AObj} {os : Oper} {E : Env} {a : AV} {c : Option Prop} {id : Nat} (hT : TabOk P T) (hf : P.funcs[f]? = some fn) (hmx : P.follows .mixedOrders = true) (h : srun T n fn.results.toList 2000 True todo env objs = .draw nd id ops k env' objs') (hn : nd)
  (hB : drawZ ops m = true) (hsee : seeB ops m [(js, none)] = true) (hjs : Nat.blt js m = true) (ho : nth objs' p = some (some o1))
  (hD : ∀ x, DSat P n C.X (zi objs' p (some x)) ops (fun e => e = E) (z3c ops m [(js, none)]) env')
  (hos : ops[js]? = some os) (hsd : os.dst = none) (hws : wantE ops (restr E (os.looksAt ops)) os = .yes)
  (hs : estep T os (restr E (os.looksAt ops)) objs' = some ⟨c, true, a, none, zi objs' p (some o2)⟩) (hc : cond c)
  (hk : ASat P f n C (.inRegion ops (List.range' m (ops.size - m)) :: k) E (zi objs' p (some o2)) R) (hGk : GOk P C.π C.objs C.w := by with_reducible assumption) : ASat P f n C todo env objs R := by
 refine z5s m 0 [(js, none)] (fun L => zi objs' p (some (if js ∈ L then o2 else o1))) E (objsF := zi objs' p (some o2)) hT hf hmx h hn hB hsee (by simp [z78 ho]) (fun L hL => ?_) (fun j L hj => ?_) ?_ (fun L => hD _) ?_ hk
 ·rw [if_pos (hL js (by simpa [Nat.blt_eq] using hjs))]
 ·simp only [actB, List.any_cons, List.any_nil, Bool.or_false] at hj
  have n1 := Nat.ne_of_beq_eq_false hj
  simp only [List.mem_cons, n1, false_or]
 ·simp [hjs]
 ·refine List.forall_mem_cons.2 ⟨⟨os, hos, hsd, ?_⟩, fun x h => by cases h⟩
  refine z6r (a := a) hT hws (fun _ _ _ h => h) (fun L hL => ?_) hc hsd
  simp only [if_neg hL, List.mem_cons, true_or, if_true]
  rw [z78 ho]
  exact hs
end
end Ab
namespace Ab
open Go
variable [Draws]
def eLitG (T : Tab) (t : TypeId) (len : Nat) (ps : List (Nat × AV)) (objs : List (Option AObj)) : Option EOut :=
 match tlook T t with
 | none => none
 | some r => match r.kd with
  | .slice e => match tlook T e with
   | none => none
   | some re => match ps with
    | [] => none
    | p :: ps' => match z3d re.size 0 (p :: ps') with
     | none => none
     | some xs => match lenIs xs len with
      | false => none
      | true => match Nat.ble (len * re.size) 16777216 with
       | true => match Nat.beq re.size 0 with
        | true => none
        | false => some ⟨none, false, .gs objs.length, none, objs ++ [some (.grow e re.size xs (litRd xs))]⟩
       | false => none
  | _ => none
theorem zpb {P : Program} {T : Tab} (hT : TabOk P T) {X : Nat → Prop} {π : List Value} {objs : List (Option AObj)} {w : World} (m : Mem X π objs w) {t : TypeId} {len : Nat} {ps : List (Nat × AV)} {vs : List (Nat × Value)}
  (hp : RelPs w (okOf X π objs) π ps vs) : ERok P X π objs w (eLitG T t len ps objs) (do pure (.value (← Instr.buildSlice t len vs.toArray))) := by
 unfold eLitG
 split
 ·trivial
 ·rename_i r hr
  split
  ·rename_i e hk
   have ht := z1a hT hr hk
   split
   ·trivial
   ·rename_i re hre
    obtain ⟨z, hzr, hzc, hzf, _, _⟩ := (zt hT hre).zero
    have hzl : z.cells.size = re.size := by
     have := (zt hT hre).zl
     rw [← hzc] at this
     simpa using this
    split
    ·trivial
    ·rename_i p ps'
     split
     ·trivial
     ·rename_i xs hxs
      split
      ·trivial
      ·rename_i hlen
       have hlen := z5i hlen
       split
       ·rename_i hble
        have hble' : len * re.size ≤ 16777216 := by simpa using hble
        split
        ·trivial
        ·rename_i hz0
         intro _
         obtain ⟨us, h1, h2⟩ := zdi hxs hp [] ((List.range (len * re.size)).map fun i => z.cells[i % z.cells.size]!) (by simp) (by simp [hlen])
         have hul := h1.length
         simp only [List.nil_append] at h2
         have hrun : (Instr.buildSlice t len vs.toArray).run P w = .ok (.slice (some ⟨w.heap.size, 0, none⟩) len len) (w.alloc (.cells us.toArray e)) := by
          have hz0' : re.size ≠ 0 := by
           intro e
           rw [e] at hz0
           cases hz0
          have hsz := (zt hT hre).sizeOf w
          have h2' : Instr.fill (fun i => some (i * re.size, re.size)) (Array.map (fun i => z.cells[i % z.cells.size]!) (Array.range (len * re.size))) vs = some us.toArray := by
           rw [← h2]
           congr 1
           apply Array.ext'
           simp
          by_cases hl0 : len * re.size = 0
          ·have hl00 : len = 0 := by
            rcases Nat.mul_eq_zero.1 hl0 with h | h
            ·exact h
            ·exact absurd h hz0'
           subst hl00
           have hx0 : xs = [] := List.eq_nil_of_length_eq_zero hlen
           subst hx0
           exfalso
           revert hxs
           simp only [z3d]
           repeat' split
           all_goals simp
          ·simp [Instr.buildSlice, run_underlying ht, hsz, hl0, show ¬ 16777216 < len * re.size by omega, hzr, h2', z1r]
         have hext : ∀ b, b < w.heap.size → (w.alloc (.cells us.toArray e)).heap[b]? = w.heap[b]? := fun b hb => z15 _ hb
         obtain ⟨q, hq⟩ : ∃ q, len = q + 1 := by
          cases len with
          | zero =>
           have hx0 : xs = [] := List.eq_nil_of_length_eq_zero hlen
           subst hx0
           exfalso
           revert hxs
           simp only [z3d]
           repeat' split
           all_goals simp
          | succ q => exact ⟨q, rfl⟩
         have hzp : 0 < re.size := by
          have : re.size ≠ 0 := by intro e; rw [e] at hz0; cases hz0
          omega
         have hk : ∀ X' π' objs', Keeps w (okOf X π objs) (w.alloc (.cells us.toArray e)) (okOf X' π' objs') → RelE (w.alloc (.cells us.toArray e)) (okOf X' π' objs') re.size xs us := fun _ _ _ hk => h1.mono hk
         subst hlen
         refine ⟨_, _, π ++ [.slice (some ⟨w.heap.size, 0, none⟩) xs.length xs.length], by simp only [Sem.run_bind, hrun, Result.andThen_ok, Sem.run_pure]; rfl, zhz m (.cells us.toArray e) (.slice (some ⟨w.heap.size, 0, none⟩) xs.length xs.length) (.grow e re.size xs (litRd xs)) (by rw [hq]; rfl) ?_, fun _ => .gs (z4s m.len _)⟩
         have hrel := RelO.grow (w := w.alloc (.cells us.toArray e)) (ok := okOf X (π ++ [.slice (some ⟨w.heap.size, 0, none⟩) xs.length xs.length]) (objs ++ [some (.grow e re.size xs (litRd xs))])) (π := π ++ [.slice (some ⟨w.heap.size, 0, none⟩) xs.length xs.length]) (e := e) (s := re.size) (b := w.heap.size) (o := 0) (c := q) (xs := xs) (us := us) (vs := us) (rd := litRd xs) (fz := (0, 0)) (z1k _) (fun i hi => by omega)
          (hk _ _ _ (zat _ _ _ m.len (by intro b e; rw [hq] at e; cases e; exact Nat.le_refl _))) (fun i hi => by rw [Nat.zero_add]) (by omega) (by have hml : maxLen = 9223372036854775807 := rfl; have : xs.length * 1 ≤ xs.length * re.size := Nat.mul_le_mul_left _ hzp; omega) (by rw [hul, hq]; omega) (zdk xs)
         rw [← hq] at hrel
         exact hrel
       ·trivial
  ·trivial
section
variable {P : Program} [Globals P] {T : Tab} {f : FuncId} {n : Nat} {C : Cx} {R : AV → List (Option AObj) → Prop} {env : Env} {objs : List (Option AObj)}
theorem zol {ops : Array Oper} {i : Nat} {r : List Nat} {k : List Item} {o : Oper} {e : Env} {t : TypeId} {len : Nat} {ps : List (Nat × Operand)} {az : List (Nat × AV)} (out : EOut) (hT : TabOk P T) (ho : ops[i]? = some o) (hw : wantE ops env o = .yes) (hop : o.op = .buildSlice t len ⟨ps⟩) (hp : parts env ps = some az)
  (hs : eLitG T t len az objs = some out) (hc : cond out.c) (hput : putE n o.dst (skA out.skip out.a) (z4r out.q env) = some e) (h : ASat P f n C (.inRegion ops r :: k) e out.objs R) : ASat P f n C (.inRegion ops (i :: r) :: k) env objs R := by
 refine z5r out ho hw (fun X π w tmps hm he => ?_) hc hput h
 have := zpb hT hm (t := t) (len := len) (z5y (ds := []) he hp)
 rw [hs] at this
 unfold execOp
 rw [hop]
 simpa using this
end
end Ab
namespace Ab
open Go
variable [Draws]
theorem zpc {P : Program} {T : Tab} (hT : TabOk P T) {X : Nat → Prop} {π : List Value} {objs : List (Option AObj)} {w : World} (m : Mem X π objs w) {t : TypeId} {len : Nat} {ps : List (Nat × AV)} {vs : List (Nat × Value)}
  (hp : RelPs w (okOf X π objs) π ps vs) {c : Option Prop} {a : AV} (h : eLit T t len ps objs = some ⟨c, false, a, none, objs⟩) : ∃ v w2, (Instr.buildSlice t len vs.toArray).run P w = .ok v w2 ∧ Later w w2 ∧ RelV w2 (okOf X π objs) π a v := by
 unfold eLit at h
 revert h
 split
 ·(intro h; cases h)
 ·rename_i r hr
  split
  ·rename_i e hk
   have ht := z1a hT hr hk
   split
   ·(intro h; cases h)
   ·rename_i re hre
    obtain ⟨z, hzr, hzc, hzf, _, _⟩ := (zt hT hre).zero
    have hzl : z.cells.size = re.size := by
     have := (zt hT hre).zl
     rw [← hzc] at this
     simpa using this
    split
    ·split
     ·intro h
      cases h
      cases hp
      have hsz := (zt hT hre).sizeOf w
      have hrun : (Instr.buildSlice t 0 #[]).run P w = .ok (.slice (some ⟨w.heap.size, 0, none⟩) 0 0) (w.alloc (.cells #[] e)) := by
       simp [Instr.buildSlice, run_underlying ht, hsz, z1r, Instr.fill]
       have e0 : Array.range 0 = #[] := Array.ext' (by simp)
       rw [e0, Array.map_empty]
      exact ⟨_, _, hrun, ⟨rfl, rfl, ⟨rfl, zv (Nat.le_refl _)⟩, by rw [z17]; simp, fun b hb => z15 _ hb⟩, .e0⟩
     ·(intro h; cases h)
    ·rename_i p ps'
     split
     ·(intro h; cases h)
     ·rename_i xs hxs
      split
      ·(intro h; cases h)
      ·rename_i hlen
       have hlen := z5i hlen
       split
       ·rename_i hble
        have hble' : len * re.size ≤ 16777216 := by simpa using hble
        split
        ·(intro h; cases h)
        ·rename_i hz0
         intro h
         cases h
         obtain ⟨us, h1, h2⟩ := zdi hxs hp [] ((List.range (len * re.size)).map fun i => z.cells[i % z.cells.size]!) (by simp) (by simp [hlen])
         have hul := h1.length
         simp only [List.nil_append] at h2
         have hrun : (Instr.buildSlice t len vs.toArray).run P w = .ok (.slice (some ⟨w.heap.size, 0, none⟩) len len) (w.alloc (.cells us.toArray e)) := by
          have hz0' : re.size ≠ 0 := by
           intro e
           rw [e] at hz0
           cases hz0
          have hsz := (zt hT hre).sizeOf w
          have h2' : Instr.fill (fun i => some (i * re.size, re.size)) (Array.map (fun i => z.cells[i % z.cells.size]!) (Array.range (len * re.size))) vs = some us.toArray := by
           rw [← h2]
           congr 1
           apply Array.ext'
           simp
          by_cases hl0 : len * re.size = 0
          ·have hl00 : len = 0 := by
            rcases Nat.mul_eq_zero.1 hl0 with h | h
            ·exact h
            ·exact absurd h hz0'
           subst hl00
           have hx0 : xs = [] := List.eq_nil_of_length_eq_zero hlen
           subst hx0
           exfalso
           revert hxs
           simp only [z3d]
           repeat' split
           all_goals simp
          ·simp [Instr.buildSlice, run_underlying ht, hsz, hl0, show ¬ 16777216 < len * re.size by omega, hzr, h2', z1r]
         have hext : ∀ b, b < w.heap.size → (w.alloc (.cells us.toArray e)).heap[b]? = w.heap[b]? := fun b hb => z15 _ hb
         have hlt : Later w (w.alloc (.cells us.toArray e)) := ⟨rfl, rfl, ⟨rfl, zv (Nat.le_refl _)⟩, by rw [z17]; simp, hext⟩
         refine ⟨_, _, hrun, hlt, ?_⟩
         have hk : Keeps w (okOf X π objs) (w.alloc (.cells us.toArray e)) (okOf X π objs) := fun b o u a1 a2 => ⟨a1, zbl _ a2⟩
         subst hlen
         refine .d (.sl (us := us) (h1.mono hk) (fun i hi => ⟨zmg m, ?_⟩) (Nat.le_refl _) ?_ (zdk xs))
         ·rw [Nat.zero_add]
          exact z12 (fz := (0, 0)) (z1k _)
         ·have hml : maxLen = 9223372036854775807 := rfl
          have : xs.length * 1 ≤ xs.length * re.size := Nat.mul_le_mul_left _ (by
           have : re.size ≠ 0 := by intro e; rw [e] at hz0; cases hz0
           omega)
          omega
       ·(intro h; cases h)
  ·(intro h; cases h)
section
variable {P : Program} [Globals P] {T : Tab} {n : Nat} {env : Env} {objs : List (Option AObj)} {ops : Array Oper} {K : Env → Prop} {X : Nat → Prop}
theorem z9g {o : Oper} {r : List Oper} {e : Env} {t : TypeId} {len : Nat} {ps : List (Nat × Operand)} {az : List (Nat × AV)} {c : Option Prop} {a : AV} (hT : TabOk P T) (hfree : z72 o r (o.looksAt ops) = true) (halone : z4i o r = true) (hw : wantE ops (restr env (o.looksAt ops)) o = .yes)
  (hop : o.op = .buildSlice t len ⟨ps⟩) (hp : parts (restr env (o.looksAt ops)) ps = some az) (hs : eLit T t len az objs = some ⟨c, false, a, none, objs⟩) (hput : putE n o.dst a env = some e) (h : DSat P n X objs ops K r e) : DSat P n X objs ops K (o :: r) env := by
 refine ds_op hfree halone hput hw (fun π w tmps m he => ?_) h
 obtain ⟨v, w2, h1, h2, h3⟩ := zpc hT m (t := t) (len := len) (z5y (ds := []) he hp) hs
 refine ⟨v, w2, ?_, h2, h3⟩
 unfold execOp
 rw [hop]
 simp only [Sem.run_bind, List.map_toArray, h1, Result.andThen_ok, Sem.run_pure]
end
end Ab
namespace Ab
open Go
variable [Draws]
section
variable {P : Program} [Globals P] {T : Tab} {f : FuncId} {fn : Func} {n m : Nat} {C : Cx} {R : AV → List (Option AObj) → Prop} {todo todo' k : List Item} {env env0 env' envF : Env} {objs objs' : List (Option AObj)} {nd : Prop} {ops : Array Oper} {l : List Oper} {K : Env → Prop} {X : Nat → Prop}
def memB (L : List Nat) (q : Nat) : Bool := L.any fun a => Nat.beq a q
def dyB (DL : List (Tmp × Nat)) (L : List Nat) (t : Tmp) : Bool := DL.any fun x => Nat.beq x.1 t && memB L x.2
structure StepK (C : Cx) (O : List Nat → List (Option AObj)) (envF : Env) (DL : List (Tmp × Nat)) (L : List Nat) (j : Nat) (π : List Value) (w : World) (π' : List Value) (w2 : World) : Prop where
 mem : Mem C.X π' (O (j :: L)) w2
 hist : Hist C.π C.objs C.w π (O L) w → Hist C.π C.objs C.w π' (O (j :: L)) w2
 keep : ∀ t a v, look envF t = some a → dyB DL (j :: L) t = false → RelV w (okOf C.X π (O L)) π a v → RelV w2 (okOf C.X π' (O (j :: L))) π' a v
end
end Ab
namespace Ab
open Go
variable [Draws]
theorem zk6 {X : Nat → Prop} {π : List Value} {objs : List (Option AObj)} {w w' : World} (m : Mem X π objs w) {p : Nat} (hp : nth objs p = some (some HD)) (hw : ∀ b, b < w.heap.size → w'.heap[b]? = w.heap[b]?) (h : Value) (o : AObj) (hh : ∀ b, blk h = some b → w.heap.size ≤ b) :
  Keeps w (okOf X π objs) w' (okOf X (zi π p h) (zi objs p (some o))) := by
 intro b off u h1 h2
 have hb : b < w.heap.size := z38 h2
 refine ⟨⟨h1.1, fun i o' h' a1 a2 hc => ?_⟩, ?_⟩
 ·rw [z2s] at a1 a2
  by_cases e : p = i
  ·rw [if_pos e] at a2
   split at a2
   ·cases a2
    have := hh _ hc
    omega
   ·cases a2
  ·rw [if_neg e] at a1 a2
   exact h1.2 i o' h' a1 a2 hc
 ·unfold World.cell? at h2 ⊢
  rw [hw b hb]
  exact h2
section
variable {P : Program} [Globals P] {T : Tab} {f : FuncId} {fn : Func} {n m : Nat} {C : Cx} {R : AV → List (Option AObj) → Prop} {todo todo' k : List Item} {env env0 env' envF : Env} {objs objs' : List (Option AObj)} {nd : Prop} {ops : Array Oper} {l : List Oper} {K : Env → Prop} {X : Nat → Prop}
theorem zk2 {O : List Nat → List (Option AObj)} {j p d s0 : Nat} {o : Oper} {t t2 e e2 : TypeId} {rest : List TypeId} {so xo : Operand} {x : AV} {E : Env} {r re r2 : TRow} {ys : List D} {rd2 : Nat → D} (hT : TabOk P T)
  (hw : wantE ops (restr E (o.looksAt ops)) o = .yes) (hE : ∀ t ∈ o.looksAt ops, ∀ b, look E t = some b → look envF t = some b) (hop : o.op = .call { callee := .builtin .append, args := ⟨[so, xo]⟩, argTypes := ⟨t :: t2 :: rest⟩ })
  (hs : opnd (restr E (o.looksAt ops)) so = some (.e0 s0)) (hx : opnd (restr E (o.looksAt ops)) xo = some x) (hel : ∀ L, zbc (O L) re.size x = some (ys, rd2))
  (h1 : tlook T t = some r) (h2 : r.kd = .slice e) (h3 : tlook T e = some re) (h4 : tlook T t2 = some r2) (h5 : r2.kd = .slice e2) (hb0 : Nat.beq re.bytes 0 = false) (hroom : ys.length * re.bytes ≤ 140737488355328)
  (hdst : o.dst = some d) (hdn : Nat.blt d n = true) (hlook : look envF d = some (.gs p)) (hple : C.π.length ≤ p)
  (hO0 : ∀ L, j ∉ L → (∀ q ∈ L, ∀ q', z1m ops q q' = true → q' ∈ L) → nth (O L) p = some (some HD))
  (hO : ∀ L, j ∉ L → (∀ q ∈ L, ∀ q', z1m ops q q' = true → q' ∈ L) → O (j :: L) = zi (O L) p (some (.grow e re.size ys rd2))) : HeadH P n C O m ops envF j o := by
 intro L _ hjL _ hcl π w tmps hsz hm hgk hlk
 have he : zz w (okOf C.X π (O L)) π (restr E (o.looksAt ops)) tmps := fun t b ht => by
  obtain ⟨a1, a2⟩ := z28 ht
  exact hlk t a1 b (hE t a1 b a2)
 have hsv := zk (ds := []) he hs
 have hxv := zk (ds := []) he hx
 obtain ⟨A, hA⟩ : ∃ A, Act.eval ⟨tmps, []⟩ so = .slice A 0 0 := by
  revert hsv
  generalize Act.eval ⟨tmps, []⟩ so = v
  intro h
  cases h
  exact ⟨_, rfl⟩
 obtain ⟨A2, c2, us, hX, hEl, hload, hrd2⟩ := zfq (P := P) hm (hel L) hxv
 rw [hX] at hload
 have ht := z1a hT h1 h2
 have ht2 := z1a hT h4 h5
 obtain ⟨inf, dd0, hi, hd0, hisz, hby, hz0, _⟩ := (zt hT h3).ex
 obtain ⟨z, hzr, hzc, hzf, _, _⟩ := (zt hT h3).zero
 have hzl : z.cells.size = re.size := by
  have := (zt hT h3).zl
  rw [← hzc] at this
  simpa using this
 have hz : inf.zero = some z := by
  have := hzr w
  simp only [zeroValue, Sem.run_bind, run_typeInfo w hi, Result.andThen_ok] at this
  cases h : inf.zero with
  | none => rw [h] at this; simp [unsupported, Sem.run] at this
  | some z' => rw [h] at this; simp at this; rw [this]
 have hb0' : inf.bytes ≠ 0 := by
  rw [hby]
  intro e
  rw [e] at hb0
  cases hb0
 have hml : maxLen = 9223372036854775807 := rfl
 have hbound : ys.length ≤ maxLen := by
  have : ys.length * 1 ≤ ys.length * re.bytes := Nat.mul_le_mul_left _ (by rw [← hby]; omega)
  omega
 have hexec : ∀ {v : Value} {w2 : World}, (Builtin.append_ ⟨t :: t2 :: rest⟩ o.type #[.slice A 0 0, .slice A2 ys.length c2]).run P w = .ok v w2 → (execOp (Act.eval ⟨tmps, []⟩) o).run P w = .ok (.value v) w2 := by
  intro v w2 h
  unfold execOp
  simp only [hop]
  simp [resolve, invoke, builtin, hA, hX, h]
 have fin : ∀ (h : Value) (w2 : World), (∃ A n c, h = .slice A n c) → (execOp (Act.eval ⟨tmps, []⟩) o).run P w = .ok (.value h) w2 → w2.os = w.os → w2.tape = w.tape → (w2.output = w.output ∧ dr w ≤ dr w2) → w.heap.size ≤ w2.heap.size → (∀ b, b < w.heap.size → w2.heap[b]? = w.heap[b]?) →
   (∀ b, blk h = some b → w.heap.size ≤ b) → RelO w2 (okOf C.X (zi π p h) (zi (O L) p (some (.grow e re.size ys rd2)))) (zi π p h) (.grow e re.size ys rd2) h →
   ∃ v w2 π', (execOp (Act.eval ⟨tmps, []⟩) o).run P w = .ok (.value v) w2 ∧ StepH C O L j π w π' w2 ∧ PutOk n w2 (okOf C.X π' (O (j :: L))) π' envF o v := by
  intro h w2 hsh hr a1 a2 a3 a4 a5 a6 a7
  have hpl : p < (O L).length := z1w (hO0 L hjL hcl)
  have hml : π.length = (O L).length := hm.len
  have hf := fill (w' := w2) hm (hO0 L hjL hcl) a1 a2 a3 a4 a5 h (.grow e re.size ys rd2) a6 a7
  refine ⟨h, w2, zi π p h, hr, ⟨?_, ?_, ?_⟩, ?_⟩
  ·rw [hO L hjL hcl]; exact hf.1
  ·rw [hO L hjL hcl]; exact hf.2.1 hple
  ·rw [hO L hjL hcl]; exact hf.2.2
  ·intro d' hd'
   rw [hdst] at hd'
   cases hd'
   refine ⟨by simpa [Nat.blt_eq] using hdn, _, hlook, ?_⟩
   rw [hO L hjL hcl]
   have hpp : p < π.length := by omega
   obtain ⟨A', n', c', rfl⟩ := hsh
   exact .gs (by rw [z2s, if_pos rfl, if_pos hpp])
 refine .inr ⟨(zw he).1 hw, .inl ?_⟩
 by_cases h0 : ys.length = 0
 ·have hy : ys = [] := List.eq_nil_of_length_eq_zero h0
  subst hy
  have hus : us = [] := by cases hEl; rfl
  subst hus
  have := z2o (P := P) (w := w) (w' := w) (ty := o.type) (rest := rest) ht (.inl ⟨_, ht2⟩) hi (A := A) (n := 0) (c := 0) (m := 0) (x := .slice A2 0 c2) (us := []) (fun w' => by simp [Builtin.lenOf]) (by omega) (by rw [hisz]; exact hload w (Ext.refl w)) (by cases A <;> simp [storeCells])
  exact fin _ w ⟨_, _, _, rfl⟩ (hexec this) rfl rfl ⟨rfl, zv (Nat.le_refl _)⟩ (Nat.le_refl _) (fun _ _ => rfl) (by intro b e; cases A <;> cases e) .gnil
 ·obtain ⟨cap, w1, q1, q2, q3, q4, q5, q6, q7⟩ := z4c (P := P) (w := w) (ty := o.type) (rest := rest) ht (.inl ⟨_, ht2⟩) hi hz (A := A) (n := 0) (c := 0) (m := ys.length) (x := .slice A2 ys.length c2) (us1 := []) (us := us) (fun w' => by simp [Builtin.lenOf]) (by omega) (by rw [hby, Nat.zero_add]; exact hroom) (by rw [Nat.zero_add]; exact hbound) hb0'
   (fun w' _ => by cases A <;> simp [Builtin.firstCells, loadCells, loadCellsFrom]) (fun w' hw => by rw [hisz]; exact hload w' hw)
  obtain ⟨cap', rfl⟩ : ∃ k, cap = k + 1 := ⟨cap - 1, by omega⟩
  simp only [List.nil_append, Nat.zero_add] at q7 q1
  have hh : ∀ b, blk (.slice (some ⟨w.heap.size, 0, none⟩) ys.length (cap' + 1)) = some b → w.heap.size ≤ b := by intro b e; cases e; exact Nat.le_refl _
  have hext : ∀ b, b < w.heap.size → (w1.alloc (.cells (us ++ (Builtin.zeroCells z.cells (cap' + 1 - ys.length)).toList).toArray e)).heap[b]? = w.heap[b]? := by
   intro b hb
   rw [z17, q3, Array.getElem?_push, if_neg (Nat.ne_of_lt hb)]
  have hk2 := zk6 (p := p) hm (hO0 L hjL hcl) hext (.slice (some ⟨w.heap.size, 0, none⟩) ys.length (cap' + 1)) (.grow e re.size ys rd2) hh
  exact fin _ _ ⟨_, _, _, rfl⟩ (hexec q7) q4 q5 q6 (by rw [z17, q3]; simp) hext hh (zdo (P := P) hk2 q3 hEl rfl q1 q2 (by simp [z26, hzl]) hrd2)
end
end Ab
namespace Ab
open Go
variable [Draws]
def z59 (P : Program) [Globals P] (f : FuncId) (az : List AV) (objs : List (Option AObj)) (R : AV → List (Option AObj) → Prop) (Pn : D → Prop) : Prop :=
 ∀ X π w vs, GOk P π objs w → Mem X π objs w → RelVs w (okOf X π objs) π az vs → Invokes P f vs.toArray w (APost ⟨X, π, objs, w, [], Pn⟩ R)
theorem z59.mono {P : Program} [Globals P] {f : FuncId} {az : List AV} {objs : List (Option AObj)} {R R' : AV → List (Option AObj) → Prop} {Pn Pn' : D → Prop} (h : z59 P f az objs R Pn) (hr : ∀ r o, R r o → R' r o) (hp : ∀ x, Pn x → Pn' x) : z59 P f az objs R' Pn' :=
 fun X π w vs g m hv => (h X π w vs g m hv).mono fun e w' hq => hq.imp (fun ⟨v, r, o, π', h1, h2, h3⟩ => ⟨v, r, o, π', h1, hr _ _ h2, h3⟩) (fun ⟨v, x, o, π', h1, h2, h3⟩ => ⟨v, x, o, π', h1, hp _ h2, h3⟩)
theorem z3o {P : Program} [Globals P] {f : FuncId} {fn : Func} {c : Code} {az : List AV} {objs : List (Option AObj)} {R : AV → List (Option AObj) → Prop} {Pn : D → Prop} (hf : P.funcs[f]? = some fn) (hb : fn.body = some c) (hnm : (fn.name == "runtime.NumGoroutine") = false) (hn : az.length ≤ fn.ntmps)
  (h : ∀ C : Cx, C.objs = objs → C.π.length = C.objs.length → C.ds = [] → GOk P C.π C.objs C.w → C.pn = Pn → ASat P f fn.ntmps C [.code c] (envOf 0 az) objs R) : z59 P f az objs R Pn := by
 intro X π w vs g m hv
 have hl := hv.length
 refine .inl ⟨zf hf hb hnm _ _, z9h hf hb (h ⟨X, π, objs, w, [], Pn⟩ rfl m.len rfl g rfl π w _ ?_ m (Hist.refl _ _ _) ?_)⟩
 ·simp [hl]; omega
 ·intro t a ht
  obtain ⟨_, v, h1, h2⟩ := z8b hv 0 t a ht
  have hlt := (List.getElem?_eq_some_iff.1 h1).1
  have : (vs.toArray ++ Array.replicate (fn.ntmps - vs.toArray.size) undef).getD t undef = v := by
   simp only [Nat.sub_zero] at h1
   simp only [Array.getD_eq_getD_getElem?]
   rw [Array.getElem?_append_left (by simpa using hlt)]
   simp [h1]
  rw [this]
  exact h2
section
variable {P : Program} [Globals P] {T : Tab} {f : FuncId} {fn : Func} {n : Nat} {C : Cx} {R : AV → List (Option AObj) → Prop} {todo todo' : List Item} {env env' : Env} {objs objs' : List (Option AObj)} {nd : Prop}
theorem z5q {ops : Array Oper} {i : Nat} {r : List Nat} {k : List Item} {o : Oper} {xo : Operand} {t : TypeId} {x : D} (hf : P.funcs[f]? = some fn) (ho : ops[i]? = some o) (hw : wantE ops env o = .yes) (hop : o.op = .panic xo) (hx : opnd env xo = some (.d (.ifc t x)))
  (hp : C.pn (.ifc t x)) (hds : C.ds = [] := by with_reducible assumption) : ASat P f n C (.inRegion ops (i :: r) :: k) env objs R := by
 intro π w tmps hn hm hh he
 have hv := zk (ds := []) he hx
 rw [hds]
 obtain ⟨v, hv1⟩ : ∃ v, Act.eval ⟨tmps, []⟩ xo = .iface t v := by
  revert hv
  generalize Act.eval ⟨tmps, []⟩ xo = u
  intro hv
  cases hv with | d hv => cases hv; exact ⟨_, rfl⟩
 refine .opPanic hf ho ((zw he).1 hw) (w' := w) (v := .iface t v) ?_ ?_
 ·unfold execOp
  rw [hop]
  simp [hv1, Instr.panic, goPanic, Sem.run]
 ·rw [hv1] at hv
  exact .inr ⟨_, _, objs, π, rfl, hp, hm, hv, hh⟩
end
end Ab
namespace Ab
open Go
variable [Draws]
def OffV (g : FuncId) (v : Value) (d : Deferred) : Prop := ∃ caps : Array Value, v = .func (.func g) #[] caps ∧ d.target = .fn (.func g) caps ∧ d.args = #[]
def ACatch (P : Program) [Globals P] (g : FuncId) (cs : List AV) (objs : List (Option AObj)) (x : D) (objs' : List (Option AObj)) : Prop :=
 ∀ X π w (caps : List Value) v, GOk P π objs w → Mem X π objs w → RelVs w (okOf X π objs) π cs caps → RelD w (okOf X π objs) x v →
  CallsD P g caps.toArray (.panicking [{ v, recovered := false }]) w fun e u' w' => (∃ u, e = .returned u) ∧ settle u' = .returning ∧ ∃ π', Mem X π' objs' w' ∧ Hist π objs w π' objs' w'
section
variable {P : Program} [Globals P] {T : Tab} {f : FuncId} {fn : Func} {n : Nat} {C : Cx} {R : AV → List (Option AObj) → Prop} {todo todo' k : List Item} {env env' : Env} {objs objs' : List (Option AObj)} {nd : Prop}
theorem zji {g : FuncId} {cs : List AV} {ops : Array Oper} {i : Nat} {rest : List Nat} {o : Oper} {t : Tmp} {at_ : Array TypeId} (ho : ops[i]? = some o) (hop : o.op = .defer { callee := .value (.tmp t), args := #[], argTypes := at_ }) (hg : o.guard = none) (hd : o.dst = none) (hl : look env t = some (.fn (.func g) cs))
  (h : ∀ d v, OffV g v d → ASat P f n { C with ds := d :: C.ds } (.inRegion ops rest :: k) env (objs ++ [some (.hold (.fn (.func g) cs) v)]) R) : ASat P f n C (.inRegion ops (i :: rest) :: k) env objs R := by
 intro π w tmps hn hm hh he
 have hv := he t _ hl
 obtain ⟨us, hus⟩ : ∃ us : List Value, tmps.getD t undef = .func (.func g) #[] us.toArray := by
  revert hv
  generalize tmps.getD t undef = v
  intro hv
  cases hv with | fn h => exact ⟨_, rfl⟩
 have hr : (execOp (Act.eval ⟨tmps, []⟩) o).run P w = .ok (.defer { target := .fn (.func g) us.toArray, args := #[] }) w := by
  unfold execOp
  simp [hop, resolve, Deferred.ofValue, Act.eval, hus]
 refine .opDefer ho (by simp [Region.wanted, hg]) hr ?_
 have htr : Tr C.X π objs w none (π ++ [.tuple #[]]) (objs ++ [some (.hold (.fn (.func g) cs) (tmps.getD t undef))]) w :=
  z2m hm rfl rfl ⟨rfl, zv (Nat.le_refl _)⟩ (Nat.le_refl _) (fun _ _ => rfl) _ _ (by intro b e; cases e)
   (.hold (hv.mono (z4z (fun _ _ => rfl) _ _ hm.len (by intro b e; cases e)) (z9o _)))
 have := h { target := .fn (.func g) us.toArray, args := #[] } _ ⟨us.toArray, hus, rfl, rfl⟩ _ w tmps hn htr.mem (z1u hh htr) (fun u c hu => z3u he htr u c hu)
 rw [hd]
 exact this
def ptrE (m : Nat) : Env → Bool
 | [] => true
 | (_, .ptr i _) :: r => match Nat.blt i m with | true => ptrE m r | false => false
 | _ => false
theorem zeu {m : Nat} : ∀ {env : Env} {t : Nat} {a : AV}, ptrE m env = true → look env t = some a → ∃ i off, a = .ptr i off ∧ i < m
 | [], _, _, _, h => by simp [look] at h
 | (u, x) :: r, t, a, hp, h => by
  cases x <;> simp only [ptrE] at hp <;> try cases hp
  split at hp
  ·rename_i hb
   simp only [look] at h
   split at h
   ·cases h
    exact ⟨_, _, rfl, by simpa [Nat.blt_eq] using hb⟩
   ·exact zeu hp h
  ·cases hp
theorem z9c {g : FuncId} {d : Deferred} {vh v : Value} {m : Nat} {cs l : List AV} {o2 o3 : List (Option AObj)} {x : D} {env2 : Env} {π : List Value} {w : World} {tmps : Array Value} (hT : TabOk P T) (hoff : OffV g vh d)
  (hen : ∀ args w, (callFunc g args).run P w = .ok (.enter g args) w) (hm0 : nth objs m = some (some (.hold (.fn (.func g) cs) vh))) (hc : ACatch P g cs o2 x o3) (hO : subO o2 objs) (hro : refsO o2.length o2 = true) (hcs : refsBs o2.length cs = true)
  (hCo : C.objs.length ≤ o2.length) (hCl : C.π.length = C.objs.length) (hE : subE env2 env) (hpE : ptrE o2.length env2 = true) (hres : resOf T env2 o3 fn.results.toList = some l) (hR : R (tupOf l) o3)
  (hm : Mem C.X π objs w) (hh : Hist C.π C.objs C.w π objs w) (he : zz w (okOf C.X π objs) π env tmps) (hx : RelD w (okOf C.X π objs) x v) (hG : GOk P C.π C.objs C.w) : Leaves P fn tmps (APost C R) [d] (.panicking [{ v, recovered := false }]) w := by
 obtain ⟨caps, rfl, h1, h2⟩ := hoff
 obtain ⟨h0, hp0, hrel⟩ := hm.obj m _ hm0
 obtain ⟨us, rfl, hus⟩ : ∃ us : List Value, caps = us.toArray ∧ RelVs w (okOf C.X π objs) π cs us := by
  cases hrel with | hold hr =>
  generalize hq : Value.func (.func g) #[] caps = q at hr
  cases hr with
  | fn hr => cases hq; exact ⟨_, rfl, hr⟩
 obtain ⟨m1, m2, m3⟩ := zie hm hO hro
 have hh2 := m3 hh (by omega)
 have hus2 : RelVs w (okOf C.X (π.take o2.length) o2) (π.take o2.length) cs us := by
  have := m2 (.tp cs) (.tp cs) (.tuple us.toArray) (VLe.refl _) (by simpa [refsB] using hcs) (.tp hus)
  generalize hq : Value.tuple us.toArray = q at this
  cases this with
  | tp h => cases hq; exact h
 have hx2 : RelD w (okOf C.X (π.take o2.length) o2) x v := by
  have := m2 (.d x) (.d x) v (VLe.refl _) rfl (.d hx)
  cases this with | d h => exact h
 have hcall := hc C.X (π.take o2.length) w us v (hG.hist hh2) m1 hus2 hx2
 refine ⟨by simp, .func g, us.toArray, g, us.toArray, h1, ?_, ?_⟩
 ·rw [h1, h2]
  simp [invoke, hen]
 ·intro c cs' hc'
  obtain ⟨e, u', w', fr, ⟨⟨v0, rfl⟩, hset, π', hm', hh'⟩, hrest⟩ := hcall c cs' hc'
  refine ⟨_, _, w', fr, ?_, hrest⟩
  have heE : zz w' (okOf C.X π' o3) π' env2 tmps := by
   intro t a ht
   obtain ⟨i, off, rfl, hi⟩ := zeu hpE ht
   obtain ⟨b, hb1, hb2⟩ := za8 hE ht
   have hv := hb2 _ _ _ _ (he t b hb1)
   revert hv
   generalize tmps.getD t undef = y
   intro hv
   cases hv with
   | ptr hn => exact .ptr (hh'.hand _ _ (z7z hi hn) rfl)
  obtain ⟨y, hy1, hy2⟩ := z7d (P := P) (fn := fn) hT hm' heE hres
  show Leaves P fn tmps (APost C R) [] (settle u') w'
  rw [hset]
  exact ⟨y, hy1, .inl ⟨y, _, o3, π', rfl, hR, hm', hy2, hh2.trans hh'⟩⟩
theorem zjg {g : FuncId} {d : Deferred} {vh : Value} {m : Nat} {cs l : List AV} {o2 o3 : List (Option AObj)} {env2 : Env} {ops : Array Oper} {i : Nat} {r : List Nat} {o : Oper} {xo : Operand} {t : TypeId} {x : D} (hT : TabOk P T) (hf : P.funcs[f]? = some fn) (ho : ops[i]? = some o) (hw : wantE ops env o = .yes) (hop : o.op = .panic xo) (hx : opnd env xo = some (.d (.ifc t x)))
  (hds : C.ds = [d]) (hoff : OffV g vh d) (hen : ∀ args w, (callFunc g args).run P w = .ok (.enter g args) w) (hm0 : nth objs m = some (some (.hold (.fn (.func g) cs) vh))) (hc : ACatch P g cs o2 (.ifc t x) o3) (hO : subO o2 objs) (hro : refsO o2.length o2 = true) (hcs : refsBs o2.length cs = true)
  {o0 : List (Option AObj)} (hC : C.objs = o0) (hCo : o0.length ≤ o2.length) (hCl : C.π.length = C.objs.length) (hE : subE env2 env) (hpE : ptrE o2.length env2 = true) (hres : resOf T env2 o3 fn.results.toList = some l) (hR : R (tupOf l) o3) (hG : GOk P C.π C.objs C.w := by with_reducible assumption) :
  ASat P f n C (.inRegion ops (i :: r) :: k) env objs R := by
 intro π w tmps hn hm hh he
 have hv := zk (ds := []) he hx
 obtain ⟨v, hv1⟩ : ∃ v, Act.eval ⟨tmps, []⟩ xo = .iface t v := by
  revert hv
  generalize Act.eval ⟨tmps, []⟩ xo = u
  intro hv
  cases hv with | d hv => cases hv; exact ⟨_, rfl⟩
 rw [hds]
 refine .opPanic hf ho ((zw he).1 hw) (w' := w) (v := .iface t v) ?_ ?_
 ·unfold execOp
  rw [hop]
  simp [hv1, Instr.panic, goPanic, Sem.run]
 ·rw [hv1] at hv
  cases hv with | d hv =>
  exact z9c hT hoff hen hm0 hc hO hro hcs (by rw [hC]; exact hCo) hCl hE hpE hres hR hm hh he hv hG
theorem zoj {g : FuncId} {d : Deferred} {vh : Value} {r : AV} {m : Nat} {cs : List AV} (hds : C.ds = [d]) (hoff : OffV g vh d) (hen : ∀ args w, (callFunc g args).run P w = .ok (.enter g args) w)
  (hm0 : nth objs' m = some (some (.hold (.fn (.func g) cs) vh))) (hcall : ∀ (caps : Array Value) (w : World), Globals.tb P w → caps.size = cs.length → CallsD P g caps .returning w fun e u' w' => (∃ v, e = .returned v) ∧ u' = .returning ∧ Later w w')
  (hT : TabOk P T) (hf : P.funcs[f]? = some fn) (h : srun T n fn.results.toList 2000 True todo env objs = .ret nd r objs') (hn : nd) (hR : R r objs') (hG : GOk P C.π C.objs C.w := by with_reducible assumption) : ASat P f n C todo env objs R :=
 (z1f hT hf 2000 True todo env objs (by
  rw [h]
  refine ⟨hn, fun fn π w tmps _ hm hh hres => ?_⟩
  obtain ⟨caps, rfl, h1, h2⟩ := hoff
  obtain ⟨h0, hp0, hrel⟩ := hm.obj m _ hm0
  have hsz : caps.size = cs.length := by
   cases hrel with | hold hr =>
   generalize hq : Value.func (.func g) #[] caps = q at hr
   cases hr with
   | fn hr => cases hq; simpa using hr.length
  rw [hds]
  refine ⟨by simp, .func g, caps, g, caps, h1, ?_, ?_⟩
  ·rw [h1, h2]
   simp [invoke, hen]
  ·intro c cs hc
   obtain ⟨e, u', w', fr, ⟨⟨v0, rfl⟩, rfl, hl⟩, hrest⟩ := hcall caps w (hG.hist hh).tb hsz c cs hc
   refine ⟨_, _, w', fr, ?_, hrest⟩
   obtain ⟨v, h3, h4⟩ := hres w' hl
   have htr := hl.tr hm
   exact ⟨v, h3, .inl ⟨v, r, objs', π, rfl, hR, htr.mem, h4, z1u hh htr⟩⟩)).2
end
section
variable {P : Program} [Globals P]
theorem zpw {g : FuncId} {fn : Func} {c2 : Code} {id : Nat} {ops : Array Oper} {o : Oper} {t : Tmp} {idx : List Nat} {u u' : FrameMode} {y : Value} {caps : List Value} {w : World} {R : Ending → World → Prop}
  (hf : P.funcs[g]? = some fn) (hb : fn.body = some (.seq (.region id ops false) c2)) (ho : ops[0]? = some o) (hop : o.op = .call { callee := .builtin .recover, args := #[], argTypes := #[] }) (hg : o.guard = none) (hd : o.dst = some t) (hr : List.range ops.size = 0 :: idx)
  (hu : ∀ (c : Frame) (cs : List Frame), c.mode = u → (recoverD (c :: cs) = some (y, { c with mode := u' } :: cs)) ∨ (recoverD (c :: cs) = none ∧ y = .nilIface ∧ u' = u))
  (h : Sat P g [] (.inRegion ops idx :: [.code c2]) ((caps.toArray ++ Array.replicate (fn.ntmps - caps.toArray.size) undef).setIfInBounds t y) w R) :
  CallsD P g caps.toArray u w fun e u2 w' => u2 = u' ∧ R e w' := by
 intro c cs hcm
 have henter : Frame.enter P g caps.toArray .deferred = (frK .deferred g).at ⟨caps.toArray ++ Array.replicate (fn.ntmps - caps.toArray.size) undef, []⟩ [.code (.seq (.region id ops false) c2)] := by
  simp [Frame.enter, Frame.at, hf, hb, frK]
 rw [henter]
 clear henter
 generalize caps.toArray ++ Array.replicate (fn.ntmps - caps.toArray.size) undef = A at h
 obtain ⟨e, w', fr, h1, h2, h3, h4, h5⟩ := h .deferred ({ c with mode := u' } :: cs)
 refine ⟨e, u', w', fr, ⟨rfl, h1⟩, ?_, h4, h5⟩
 refine Comes.of_steps (.head step_seq (.head step_region (.one ?_))) h2
 rw [hr]
 have hrun : (execOp (Act.eval ⟨A, []⟩) o).run P w = .ok .recover w := by
  unfold execOp
  simp [hop, resolve, invoke, builtin]
 have hgo := stepG_op (P := P) (b := frK .deferred g) (a := ⟨A, []⟩) (k := [.code c2]) (cs := c :: cs) (w := w) (rest := idx) ho (by simp [Region.wanted, hg])
 have hfin : ∀ v, ((frK .deferred g).at ⟨A, []⟩ (.inRegion ops (0 :: idx) :: [.code c2])).finish v = (frK .deferred g).at ⟨A.setIfInBounds t v, []⟩ (.inRegion ops idx :: [.code c2]) := by
  intro v
  rw [Frame.finish_at, ho]
  simp [Act.put, hd]
 have hk : ((frK .deferred g).at ⟨A, []⟩ (.inRegion ops (0 :: idx) :: [.code c2])).kind = .deferred := rfl
 have htr := tryRecover_deferred hk (c :: cs)
 refine step_lone_go ?_
 rcases hu c cs hcm with hrec | ⟨hrec, rfl, rfl⟩
 ·rw [hgo, ← hfin]
  simp only [Frame.at] at htr ⊢
  simp [stepG.apply, hrun, htr, hrec]
 ·have hce : ({ c with mode := u' } : Frame) = c := by subst hcm; rfl
  rw [hgo, ← hfin, hce]
  simp only [Frame.at] at htr ⊢
  simp [stepG.apply, hrun, htr, hrec]
theorem zfp {w : World} {ok : Nat → Prop} {π : List Value} {cs : List AV} {caps : List Value} {m : Nat} {t : Tmp} {a : AV} {y : Value} (hv : RelVs w ok π cs caps) (hn : cs.length ≤ m) (ht : t < m) (ha : RelV w ok π a y) :
  zz w ok π ((t, a) :: envOf 0 cs) ((caps.toArray ++ Array.replicate (m - caps.toArray.size) undef).setIfInBounds t y) ∧ ((caps.toArray ++ Array.replicate (m - caps.toArray.size) undef).setIfInBounds t y).size = m := by
 have hl := hv.length
 have hsz : (caps.toArray ++ Array.replicate (m - caps.toArray.size) undef).size = m := by simp [hl]; omega
 have he : zz w ok π (envOf 0 cs) (caps.toArray ++ Array.replicate (m - caps.toArray.size) undef) := by
  intro u b hu
  obtain ⟨_, v, h1, h2⟩ := z8b hv 0 u b hu
  have hlt := (List.getElem?_eq_some_iff.1 h1).1
  have : (caps.toArray ++ Array.replicate (m - caps.toArray.size) undef).getD u undef = v := by
   simp only [Nat.sub_zero] at h1
   simp only [Array.getD_eq_getD_getElem?]
   rw [Array.getElem?_append_left (by simpa using hlt)]
   simp [h1]
  rw [this]
  exact h2
 have hput : putE m (some t) a (envOf 0 cs) = some ((t, a) :: envOf 0 cs) := by
  have : Nat.blt t m = true := by simpa [Nat.blt_eq] using ht
  simp [putE, this]
 exact z1s he hsz hput ha
theorem zhm {g : FuncId} {fn : Func} {c2 : Code} {id : Nat} {ops : Array Oper} {o : Oper} {t : Tmp} {idx : List Nat} {cs : List AV} {objs objs' : List (Option AObj)} {x : D}
  (hf : P.funcs[g]? = some fn) (hb : fn.body = some (.seq (.region id ops false) c2)) (ho : ops[0]? = some o) (hop : o.op = .call { callee := .builtin .recover, args := #[], argTypes := #[] }) (hg : o.guard = none) (hd : o.dst = some t) (hr : List.range ops.size = 0 :: idx) (hn : cs.length ≤ fn.ntmps) (ht : t < fn.ntmps)
  (h : ∀ C : Cx, C.objs = objs → C.π.length = C.objs.length → C.ds = [] → GOk P C.π C.objs C.w → ASat P g fn.ntmps C (.inRegion ops idx :: [.code c2]) ((t, .d x) :: envOf 0 cs) objs (fun _ o => o = objs')) : ACatch P g cs objs x objs' := by
 intro X π w caps v hG m hv hx
 obtain ⟨p1, p2⟩ := zfp hv hn ht (.d hx)
 have hs := h ⟨X, π, objs, w, [], fun _ => False⟩ rfl m.len rfl hG π w _ p2 m (Hist.refl _ _ _) p1
 refine CallsD.mono (zpw (u' := .panicking [{ v, recovered := true }]) hf hb ho hop hg hd hr (fun c cs hc => ?_) hs) ?_
 ·left
  simp [recoverD, hc]
 ·rintro e u2 w' ⟨rfl, hp⟩
  rcases hp with ⟨v2, r, o, π', rfl, rfl, hm', _, hh'⟩ | ⟨_, _, _, _, _, hff, _⟩
  ·exact ⟨⟨_, rfl⟩, rfl, π', hm', hh'⟩
  ·exact hff.elim
theorem zhl {g : FuncId} {fn : Func} {c2 : Code} {id : Nat} {ops : Array Oper} {o : Oper} {t : Tmp} {idx : List Nat}
  (hf : P.funcs[g]? = some fn) (hb : fn.body = some (.seq (.region id ops false) c2)) (ho : ops[0]? = some o) (hop : o.op = .call { callee := .builtin .recover, args := #[], argTypes := #[] }) (hg : o.guard = none) (hd : o.dst = some t) (hr : List.range ops.size = 0 :: idx) (ht : t < fn.ntmps)
  (h : ∀ C : Cx, C.objs = [] → C.π.length = C.objs.length → C.ds = [] → GOk P C.π C.objs C.w → ASat P g fn.ntmps C (.inRegion ops idx :: [.code c2]) [(t, .d (.v .nilIface))] [] (fun _ _ => True)) (caps : Array Value) (hcs : caps.size ≤ fn.ntmps) (w : World) (hw : Globals.tb P w) :
  CallsD P g caps .returning w fun e u' w' => (∃ v, e = .returned v) ∧ u' = .returning ∧ Later w w' := by
 obtain ⟨caps⟩ := caps
 have hm : Mem (fun _ => False) [] [] w := ⟨rfl, fun i o h => by simp [nth] at h, fun i j o o' h h' b _ h1 => by simp [nth] at h1, fun i o h b h1 => by simp [nth] at h1, fun b h => h.elim⟩
 have hG : GOk P [] [] w := ⟨hw, fun i o h b h1 => by simp [nth] at h1⟩
 have hv : RelVs w (okOf (fun _ => False) [] []) [] (caps.map fun _ => AV.dead) caps := by
  clear hcs
  induction caps with
  | nil => exact .nil
  | cons a r ih => exact .cons .dead ih
 obtain ⟨p1, p2⟩ := zfp hv (by simpa using hcs) ht (a := .d (.v .nilIface)) (y := .nilIface) (.d (.v rfl))
 have hs := h ⟨fun _ => False, [], [], w, [], fun _ => False⟩ rfl rfl rfl hG [] w _ p2 hm (Hist.refl _ _ _) (fun u b hu => p1 u b (by
  simp only [look] at hu ⊢
  split at hu
  ·exact hu
  ·cases hu))
 refine CallsD.mono (zpw (u' := .returning) (y := .nilIface) hf hb ho hop hg hd hr (fun c cs hc => ?_) hs) ?_
 ·right
  simp [recoverD, hc]
 ·rintro e u2 w' ⟨rfl, hp⟩
  rcases hp with ⟨v2, r, o, π', rfl, _, hm', _, hh'⟩ | ⟨_, _, _, _, _, hff, _⟩
  ·exact ⟨⟨_, rfl⟩, rfl, z6q hh'⟩
  ·exact hff.elim
end
end Ab
