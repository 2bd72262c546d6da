/- A part of the proof. -/
import Derived.Test.YtkemmijjpclckaaGreatDoorP9
import Derived.Orders
set_option linter.unusedVariables false
set_option linter.unusedSimpArgs false
set_option linter.unusedSectionVars false
set_option maxRecDepth 100000
set_option maxHeartbeats 8000000
namespace Ab
open Go
variable [Draws]
def znv (o : Oper) (i : Nat) : Bool := o.after.any fun e => Region.binds .any e && e.on == i
def z1m (ops : Array Oper) (j i : Nat) : Bool := match ops[j]? with | some o => znv o i | none => false
def backB (ops : Array Oper) : Bool := (List.range ops.size).all fun j => match ops[j]? with | some o => o.after.all (fun e => !Region.binds .any e || decide (e.on < j)) | none => true
def zl4 (ops : Array Oper) (n : Nat) : Bool := (List.range n).all fun i => (List.range (n + 1)).any fun j => decide (i < j) && z1m ops j i
def ze1 (ops : Array Oper) (n : Nat) : Bool := (List.range ops.size).all fun t => decide (t ≤ n) || z1m ops t (t - 1)
def dstIs (ops : Array Oper) (k : Nat) (t : Tmp) : Bool := match ops[k]? with | some o => (match o.dst with | some d => d == t | none => false) | none => false
def z7k (ops : Array Oper) (o : Oper) (k : Nat) : Bool := match o.dst with | some d => !dstIs ops k d | none => true
def zny (ops : Array Oper) (n : Nat) : Bool := (List.range n).all fun j => match ops[j]? with
 | some o => (List.range n).all fun k => (decide (k = j) || z7k ops o k) && (o.looksAt ops).all fun t => !dstIs ops k t || z1m ops j k
 | none => true
def drawB (ops : Array Oper) (n : Nat) : Bool := decide (n < ops.size) && backB ops && zl4 ops n && ze1 ops n && zny ops n
theorem zg5 {o : Oper} {i : Nat} (h : znv o i = true) : ∃ e ∈ o.after, Region.binds .any e = true ∧ e.on = i := by
 obtain ⟨e, he, hb⟩ := Array.any_eq_true'.1 h
 simp only [Bool.and_eq_true, beq_iff_eq] at hb
 exact ⟨e, he, hb⟩
theorem z1l {ops : Array Oper} {j i : Nat} (h : z1m ops j i = true) : ∃ o, ops[j]? = some o ∧ ∃ e ∈ o.after, Region.binds .any e = true ∧ e.on = i := by
 unfold z1m at h
 split at h
 ·rename_i o ho; exact ⟨o, ho, zg5 h⟩
 ·cases h
structure Lst (ops : Array Oper) (n : Nat) (L : List Nat) (listed : Array Bool) : Prop where
 size : listed.size = ops.size
 mem : ∀ i, i < ops.size → (listed.getD i false = true ↔ i ∈ L)
 nd : L.Nodup
 lt : ∀ i ∈ L, i < n
 cl : ∀ i ∈ L, ∀ o, ops[i]? = some o → ∀ e ∈ o.after, Region.binds .any e = true → e.on ∈ L
theorem zdq {l : Array Bool} {i : Nat} (h : i < l.size) : l.getD i true = l.getD i false := by simp [h]
theorem z3h {ops : Array Oper} {n : Nat} {L : List Nat} {listed : Array Bool} (hn : n ≤ ops.size) (h : Lst ops n L listed) {i : Nat} : i ∈ Region.ready .any ops listed ↔ i < ops.size ∧ i ∉ L ∧ ∃ o, ops[i]? = some o ∧ ∀ e ∈ o.after, Region.binds .any e = true → listed.getD e.on false = true := by
 rw [mem_ready]
 constructor
 ·rintro ⟨h1, o, h2, h3⟩
  have hi : i < ops.size := (Array.getElem?_eq_some_iff.1 h2).1
  refine ⟨hi, fun hL => ?_, o, h2, h3⟩
  rw [zdq (by rw [h.size]; exact hi)] at h1
  rw [(h.mem i hi).2 hL] at h1
  cases h1
 ·rintro ⟨hi, hL, o, h2, h3⟩
  refine ⟨?_, o, h2, h3⟩
  rw [zdq (by rw [h.size]; exact hi)]
  cases hb : listed.getD i false with
  | false => rfl
  | true => exact absurd ((h.mem i hi).1 hb) hL
theorem z6v {ops : Array Oper} (h : backB ops = true) {j : Nat} {o : Oper} (ho : ops[j]? = some o) {e : Edge} (he : e ∈ o.after) (hb : Region.binds .any e = true) : e.on < j := by
 have hj : j < ops.size := (Array.getElem?_eq_some_iff.1 ho).1
 have := List.all_eq_true.1 h j (List.mem_range.2 hj)
 rw [ho] at this
 have := Array.all_eq_true'.1 this e he
 simpa [hb] using this
theorem z2g {ops : Array Oper} {n : Nat} {L : List Nat} {listed : Array Bool} (h : Lst ops n L listed) {i : Nat} (hi : listed.getD i false = true) : i ∈ L := by
 rcases Nat.lt_or_ge i ops.size with hlt | hge
 ·exact (h.mem i hlt).1 hi
 ·have : listed.getD i false = false := by simp [h.size, hge]
  rw [this] at hi
  cases hi
theorem z95 {ops : Array Oper} {n : Nat} {L : List Nat} {listed : Array Bool} (hn : n ≤ ops.size) (hs : zl4 ops n = true) (hb : backB ops = true) (h : Lst ops n L listed) {j : Nat} (hj : n ≤ j) (hc : ze1 ops n = true) (hr : j ∈ Region.ready .any ops listed) : j = n ∧ ∀ i, i < n → i ∈ L := by
 obtain ⟨hjs, hjL, o, ho, hall⟩ := (z3h hn h).1 hr
 have hjn : j = n := by
  apply Decidable.byContradiction
  intro hne
  have := List.all_eq_true.1 hc j (List.mem_range.2 hjs)
  simp only [Bool.or_eq_true, decide_eq_true_eq] at this
  obtain ⟨o', ho', e, he, hbe, heq⟩ := z1l (this.resolve_left (by omega))
  rw [ho] at ho'
  cases ho'
  have h1 := z2g h (hall e he hbe)
  have := h.lt _ h1
  omega
 subst hjn
 refine ⟨rfl, ?_⟩
 have key : ∀ m i, i < j → j - i ≤ m → i ∈ L := by
  intro m
  induction m with
  | zero => intro i hi hm; omega
  | succ m ih =>
   intro i hi hm
   have := List.all_eq_true.1 hs i (List.mem_range.2 hi)
   obtain ⟨k, hk, hk2⟩ := List.any_eq_true.1 this
   simp only [Bool.and_eq_true, decide_eq_true_eq] at hk2
   obtain ⟨o', ho', e, he, hbe, heq⟩ := z1l hk2.2
   have hkr := List.mem_range.1 hk
   by_cases e1 : k = j
   ·subst e1
    rw [ho] at ho'
    cases ho'
    rw [← heq]
    exact z2g h (hall e he hbe)
   ·have := h.cl k (ih k (by omega) (by omega)) o' ho' e he hbe
    rwa [heq] at this
 exact fun i hi => key (j - i) i hi (Nat.le_refl _)
theorem zk5 {l : List Nat} (hn : l.Nodup) {p : Nat → Bool} {x : Nat} (h : ∀ y, y ∈ l.filter p ↔ y = x) : l.filter p = [x] := by
 have hnd : (l.filter p).Nodup := hn.sublist List.filter_sublist
 cases hl : l.filter p with
 | nil => have := (h x).2 rfl; rw [hl] at this; simp at this
 | cons y r =>
  rw [hl] at hnd h
  have hy : y = x := (h y).1 List.mem_cons_self
  subst hy
  rw [List.nodup_cons] at hnd
  cases r with
  | nil => rfl
  | cons z r =>
   have hz : z = y := (h z).1 (by simp)
   exact absurd (by rw [hz]; simp) hnd.1
theorem zdp (md : Region.Mode) (ops : Array Oper) (g t : Nat) (listed : Array Bool) : Region.linearise.go md ops (g + 1) t listed [] = match (Region.ready md ops listed)[t % (Region.ready md ops listed).length]? with
  | some i => i :: Region.linearise.go md ops g (t / (Region.ready md ops listed).length) (listed.setIfInBounds i true) []
  | none => [] := by
 simp only [Region.linearise.go]
 change (match (Region.ready md ops listed)[t % (Region.ready md ops listed).length]? with
   | some i => Region.linearise.go md ops g (t / (Region.ready md ops listed).length) (listed.setIfInBounds i true) [i]
   | none => [].reverse) = _
 split
 ·rw [linearise_go_acc, List.reverse_singleton, List.singleton_append]
 ·rfl
theorem z9x {ops : Array Oper} {n : Nat} (hb : backB ops = true) (hc : ze1 ops n = true) : ∀ (g t : Nat) (listed : Array Bool), n + g = ops.size ∨ (n ≤ ops.size - g ∧ g ≤ ops.size) → g ≤ ops.size → listed.size = ops.size → (∀ i, i < ops.size → (listed.getD i false = true ↔ i < ops.size - g)) →
  Region.linearise.go .any ops g t listed [] = List.range' (ops.size - g) g
 | 0, t, listed, _, _, _, _ => by simp [Region.linearise.go]
 | g + 1, t, listed, hng, hg, hsz, hl => by
  have hn : n ≤ ops.size - (g + 1) := by omega
  have hr : Region.ready .any ops listed = [ops.size - (g + 1)] := by
   unfold Region.ready
   refine zk5 List.nodup_range fun y => ?_
   have := mem_ready (md := .any) (ops := ops) (j := y) (listed := listed)
   unfold Region.ready at this
   rw [this]
   constructor
   ·rintro ⟨h1, o, h2, h3⟩
    have hy : y < ops.size := (Array.getElem?_eq_some_iff.1 h2).1
    rw [zdq (by rw [hsz]; exact hy)] at h1
    have hge : ¬ y < ops.size - (g + 1) := fun hh => by rw [(hl y hy).2 hh] at h1; cases h1
    apply Decidable.byContradiction
    intro hne
    have hcc := List.all_eq_true.1 hc y (List.mem_range.2 hy)
    simp only [Bool.or_eq_true, decide_eq_true_eq] at hcc
    obtain ⟨o', ho', e, he, hbe, heq⟩ := z1l (hcc.resolve_left (by omega))
    rw [h2] at ho'
    cases ho'
    have h4 := h3 e he hbe
    have := (hl e.on (by omega)).1 h4
    omega
   ·rintro rfl
    have hlt : ops.size - (g + 1) < ops.size := by omega
    refine ⟨?_, ops[ops.size - (g + 1)], Array.getElem?_eq_getElem hlt, fun e he hbe => ?_⟩
    ·rw [zdq (by rw [hsz]; exact hlt)]
     cases hb2 : listed.getD (ops.size - (g + 1)) false with
     | false => rfl
     | true => have := (hl _ hlt).1 hb2; omega
    ·have := z6v hb (Array.getElem?_eq_getElem hlt) he hbe
     exact (hl e.on (by omega)).2 this
  rw [zdp]
  simp only [hr, List.length_singleton, Nat.mod_one, List.getElem?_cons_zero]
  rw [List.range'_succ]
  congr 1
  have := z9x hb hc g (t / 1) (listed.setIfInBounds (ops.size - (g + 1)) true) (by omega) (by omega) (by simpa using hsz) (fun i hi => by
   by_cases e : ops.size - (g + 1) = i
   ·subst e
    rw [show (listed.setIfInBounds (ops.size - (g + 1)) true).getD (ops.size - (g + 1)) false = true by simp [hsz, hi]]
    simp
    omega
   ·rw [show (listed.setIfInBounds (ops.size - (g + 1)) true).getD i false = listed.getD i false by simp [Array.getElem?_setIfInBounds, e]]
    rw [hl i hi]
    omega)
  rw [this]
  congr 1
  omega
end Ab
namespace Ab
open Go
variable [Draws]
theorem z2u : ∀ {a b : List Nat}, a.Nodup → (∀ y ∈ a, y ∈ b) → a.length ≤ b.length
 | [], _, _, _ => Nat.zero_le _
 | y :: r, b, hn, hm => by
  rw [List.nodup_cons] at hn
  have hy := hm y List.mem_cons_self
  have := z2u (b := b.erase y) hn.2 fun z hz => (List.mem_erase_of_ne (by rintro rfl; exact hn.1 hz)).2 (hm z (List.mem_cons_of_mem _ hz))
  rw [List.length_erase_of_mem hy] at this
  have := List.length_pos_of_mem hy
  simp only [List.length_cons]
  omega
def restr (env : Env) : List Tmp → Env
 | [] => []
 | t :: r => match look env t with | some a => (t, a) :: restr env r | none => restr env r
theorem z28 {env : Env} : ∀ {ts : List Tmp} {t : Tmp} {a : AV}, look (restr env ts) t = some a → t ∈ ts ∧ look env t = some a
 | [], _, _, h => by simp [restr, look] at h
 | u :: r, t, a, h => by
  simp only [restr] at h
  cases hu : look env u with
  | none => rw [hu] at h; obtain ⟨h1, h2⟩ := z28 h; exact ⟨List.mem_cons_of_mem _ h1, h2⟩
  | some b =>
   rw [hu] at h
   simp only [look] at h
   split at h
   ·rename_i e
    have e' : u = t := by simpa using e
    cases h
    subst e'
    exact ⟨List.mem_cons_self, hu⟩
   ·obtain ⟨h1, h2⟩ := z28 h; exact ⟨List.mem_cons_of_mem _ h1, h2⟩
def PutOk (n : Nat) (w : World) (ok : Nat → Prop) (π : List Value) (envF : Env) (o : Oper) (v : Value) : Prop := ∀ d, o.dst = some d → d < n ∧ ∃ b, look envF d = some b ∧ RelV w ok π b v
def z8h (P : Program) [Globals P] (n : Nat) (X : Nat → Prop) (objs : List (Option AObj)) (ops : Array Oper) (envF : Env) (o : Oper) : Prop :=
 ∀ π w tmps, tmps.size = n → Mem X π objs w → GOk P π objs w → (∀ t ∈ o.looksAt ops, ∀ a, look envF t = some a → RelV w (okOf X π objs) π a (tmps.getD t undef)) →
  (Region.wanted o (yielded ops tmps) = false ∧ PutOk n w (okOf X π objs) π envF o undef) ∨
  (Region.wanted o (yielded ops tmps) = true ∧
   ((∃ v w2, (execOp (Act.eval ⟨tmps, []⟩) o).run P w = .ok (.value v) w2 ∧ Later w w2 ∧ PutOk n w2 (okOf X π objs) π envF o v) ∨
    (∃ g args, (execOp (Act.eval ⟨tmps, []⟩) o).run P w = .ok (.enter g args) w ∧ Calls P g args w fun e w2 => ∃ v, e = .returned v ∧ Later w w2 ∧ PutOk n w2 (okOf X π objs) π envF o v)))
theorem z3g {w w' : World} {ok : Nat → Prop} {π : List Value} {a : AV} {v : Value} (l : Later w w') (h : RelV w ok π a v) : RelV w' ok π a v :=
 h.mono (fun b o u h1 h2 => ⟨h1, by
  have hb := z38 h2
  unfold World.cell? at h2 ⊢
  rw [l.ext b hb]
  exact h2⟩) (fun _ _ h => h)
section
variable {P : Program} [Globals P] {T : Tab} {f : FuncId} {fn : Func} {n m : Nat} {C : Cx} {R : AV → List (Option AObj) → Prop} {todo todo' k : List Item} {env env0 env' envF : Env} {objs objs' : List (Option AObj)} {nd : Prop} {ops : Array Oper} {l : List Oper} {K : Env → Prop} {X : Nat → Prop}
theorem z2z {tmps : Array Value} {d t : Tmp} {v : Value} : (putT (some d) v tmps).getD t undef = if d = t ∧ d < tmps.size then v else tmps.getD t undef := by
 simp only [putT, Array.getD_eq_getD_getElem?, Array.getElem?_setIfInBounds]
 by_cases h : d = t
 ·subst h
  by_cases h2 : d < tmps.size
  ·simp [h2]
  ·simp [h2]
 ·simp [h]
theorem z1d {k : Nat} {t : Tmp} : dstIs ops k t = true ↔ ∃ o, ops[k]? = some o ∧ o.dst = some t := by
 unfold dstIs
 constructor
 ·intro h
  split at h
  ·rename_i o ho
   split at h
   ·rename_i d hd
    exact ⟨o, ho, by rw [hd]; simpa using h⟩
   ·cases h
  ·cases h
 ·rintro ⟨o, ho, hd⟩
  rw [ho]
  simp [hd]
theorem zhg (hmx : P.follows .mixedOrders = true) (hB : drawB ops m = true) (hops : ∀ j o, j < m → ops[j]? = some o → z8h P n C.X objs ops envF o)
  (henv : ∀ t, (∀ j, j < m → dstIs ops j t = false) → ∀ a, look envF t = some a → ∃ b, look env0 t = some b ∧ VLe b a)
  (hK : ASat P f n C (.inRegion ops (List.range' m (ops.size - m)) :: k) envF objs R) {id : Nat} (hG : GOk P C.π C.objs C.w := by with_reducible assumption) : ASat P f n C (.code (.region id ops true) :: k) env0 objs R := by
 simp only [drawB, Bool.and_eq_true, decide_eq_true_eq] at hB
 obtain ⟨⟨⟨⟨hms, hback⟩, hsink⟩, hchain⟩, hap⟩ := hB
 have hap : ∀ j o, j < m → ops[j]? = some o → (∀ k, k < m → k ≠ j → ∀ d, o.dst = some d → dstIs ops k d = false) ∧ ∀ k, k < m → ∀ t ∈ o.looksAt ops, dstIs ops k t = true → z1m ops j k = true := by
  intro j o hj ho
  have h1 := List.all_eq_true.1 hap j (List.mem_range.2 hj)
  rw [ho] at h1
  have h2 : ∀ k, k < m → ((decide (k = j) || z7k ops o k) = true ∧ (o.looksAt ops).all (fun t => !dstIs ops k t || z1m ops j k) = true) := fun k hk => by
   have := List.all_eq_true.1 h1 k (List.mem_range.2 hk)
   simpa only [Bool.and_eq_true] using this
  refine ⟨fun k hk hne d hd => ?_, fun k hk t ht hd => ?_⟩
  ·have := (h2 k hk).1
   unfold z7k at this
   rw [hd] at this
   simpa [hne] using this
  ·have := List.all_eq_true.1 (h2 k hk).2 t ht
   simpa [hd] using this
 intro π w tmps0 hn hm hh he
 have hl1 : Later w { w with drawn := w.drawn + 1 } := ⟨rfl, rfl, ⟨rfl, zv (Nat.le_succ _)⟩, Nat.le_refl _, fun _ _ => rfl⟩
 have key : ∀ (fuel t : Nat) (listed : Array Bool) (L : List Nat) (tmps : Array Value) (w' : World), Lst ops m L listed → L.length + fuel = ops.size → Later w w' → tmps.size = n →
   (∀ j ∈ L, ∀ o, ops[j]? = some o → ∀ d, o.dst = some d → ∃ b, look envF d = some b ∧ RelV w' (okOf C.X π objs) π b (tmps.getD d undef)) →
   (∀ t, (∀ j ∈ L, dstIs ops j t = false) → tmps.getD t undef = tmps0.getD t undef) →
   Sat P f C.ds (.inRegion ops (Region.linearise.go .any ops fuel t listed []) :: k) tmps w' (APost C R) := by
  intro fuel
  induction fuel with
  | zero =>
   intro t listed L tmps w' hL hlen _ _ _ _
   have := z2u hL.nd (b := List.range m) fun y hy => List.mem_range.2 (hL.lt y hy)
   rw [List.length_range] at this
   omega
  | succ fuel ih =>
   intro t listed L tmps w' hL hlen hlat hsz hdone hrest
   have hLm := z2u hL.nd (b := List.range m) fun y hy => List.mem_range.2 (hL.lt y hy)
   rw [List.length_range] at hLm
   have htr := hlat.tr hm
   by_cases hall : ∀ i, i < m → i ∈ L
   ·have hml := z2u (List.nodup_range (n := m)) (b := L) fun y hy => hall y (List.mem_range.1 hy)
    rw [List.length_range] at hml
    have hfu : fuel + 1 = ops.size - m := by omega
    rw [hfu]
    have hg := z9x hback hchain (ops.size - m) t listed (.inl (by omega)) (by omega) hL.size (fun i hi => by
     rw [hL.mem i hi, show ops.size - (ops.size - m) = m by omega]
     exact ⟨fun h => hL.lt i h, fun h => hall i h⟩)
    rw [hg, show ops.size - (ops.size - m) = m by omega]
    refine hK π w' tmps hsz htr.mem (z1u hh htr) fun u a hu => ?_
    by_cases hd : ∃ j, j < m ∧ dstIs ops j u = true
    ·obtain ⟨j, hj, hd⟩ := hd
     obtain ⟨o, ho, hdo⟩ := z1d.1 hd
     obtain ⟨b, hb, hr⟩ := hdone j (hall j hj) o ho u hdo
     rw [hu] at hb
     cases hb
     exact hr
    ·have hd' : ∀ j, j < m → dstIs ops j u = false := fun j hj => by
      cases hx : dstIs ops j u with
      | false => rfl
      | true => exact absurd ⟨j, hj, hx⟩ hd
     obtain ⟨b, hb, hle⟩ := henv u hd' a hu
     rw [hrest u fun j hj => hd' j (hL.lt j hj)]
     exact z3g hlat (hle _ _ _ _ (he u b hb))
   ·have hex : ∃ i, i ∈ Region.ready .any ops listed := by
     have hmin : ∀ q i, i ≤ q → i < m → i ∉ L → ∃ j, j < m ∧ j ∉ L ∧ ∀ j', j' < j → j' ∈ L := by
      intro q
      induction q with
      | zero => intro i hi hm hL; exact ⟨i, hm, hL, by omega⟩
      | succ q ihq =>
       intro i hi him hiL
       by_cases hx : ∃ j', j' < i ∧ j' ∉ L
       ·obtain ⟨j', h1, h2⟩ := hx
        exact ihq j' (by omega) (by omega) h2
       ·exact ⟨i, him, hiL, fun j' hj' => Decidable.byContradiction fun h2 => hx ⟨j', hj', h2⟩⟩
     obtain ⟨i, hi⟩ := Classical.not_forall.1 hall
     have hi1 : i < m := Classical.byContradiction fun h => hi fun h2 => absurd h2 h
     have hi2 : i ∉ L := fun h => hi fun _ => h
     obtain ⟨j, h1, h2, h3⟩ := hmin i i (Nat.le_refl _) hi1 hi2
     refine ⟨j, (z3h (by omega) hL).2 ⟨by omega, h2, ops[j], Array.getElem?_eq_getElem (by omega), fun e hee hb => ?_⟩⟩
     have hlt := z6v hback (Array.getElem?_eq_getElem (by omega : j < ops.size)) hee hb
     exact (hL.mem e.on (by omega)).2 (h3 e.on hlt)
    rw [zdp]
    have hlen2 : 0 < (Region.ready .any ops listed).length := List.length_pos_of_mem hex.choose_spec
    have hmod : t % (Region.ready .any ops listed).length < (Region.ready .any ops listed).length := Nat.mod_lt _ hlen2
    rw [List.getElem?_eq_getElem hmod]
    simp only
    have hir : (Region.ready .any ops listed)[t % (Region.ready .any ops listed).length] ∈ Region.ready .any ops listed := List.getElem_mem hmod
    generalize (Region.ready .any ops listed)[t % (Region.ready .any ops listed).length] = i at hir
    have him : i < m := by
     apply Classical.byContradiction
     intro hge
     exact hall (z95 (by omega) hsink hback hL (by omega) hchain hir).2
    obtain ⟨his, hiL, o, ho, hdeps⟩ := (z3h (by omega) hL).1 hir
    obtain ⟨ha1, ha2⟩ := hap i o him ho
    have hlooks : ∀ u ∈ o.looksAt ops, ∀ a, look envF u = some a → RelV w' (okOf C.X π objs) π a (tmps.getD u undef) := by
     intro u hu a hua
     by_cases hd : ∃ j, j < m ∧ dstIs ops j u = true
     ·obtain ⟨j, hj, hd⟩ := hd
      have hw := ha2 j hj u hu hd
      obtain ⟨o2, ho2, e, hee, hb, heq⟩ := z1l hw
      rw [ho] at ho2
      cases ho2
      have hjL := z2g hL (hdeps e hee hb)
      rw [heq] at hjL
      obtain ⟨oj, hoj, hdj⟩ := z1d.1 hd
      obtain ⟨b, hb2, hr⟩ := hdone j hjL oj hoj u hdj
      rw [hua] at hb2
      cases hb2
      exact hr
     ·have hd' : ∀ j, j < m → dstIs ops j u = false := fun j hj => by
       cases hx : dstIs ops j u with
       | false => rfl
       | true => exact absurd ⟨j, hj, hx⟩ hd
      obtain ⟨b, hb, hle⟩ := henv u hd' a hua
      rw [hrest u fun j hj => hd' j (hL.lt j hj)]
      exact z3g hlat (hle _ _ _ _ (he u b hb))
    have hL' : Lst ops m (i :: L) (listed.setIfInBounds i true) := by
     refine ⟨by simpa using hL.size, fun j hj => ?_, List.nodup_cons.2 ⟨hiL, hL.nd⟩, fun j hj => ?_, fun j hj oj hoj e hee hb => ?_⟩
     ·by_cases e : i = j
      ·subst e
       rw [show (listed.setIfInBounds i true).getD i false = true by simp [hL.size, hj]]
       simp
      ·rw [show (listed.setIfInBounds i true).getD j false = listed.getD j false by simp [Array.getElem?_setIfInBounds, e]]
       rw [hL.mem j hj, List.mem_cons]
       exact ⟨.inr, fun h => h.resolve_left fun h2 => e h2.symm⟩
     ·rcases List.mem_cons.1 hj with rfl | hj
      ·exact him
      ·exact hL.lt j hj
     ·rcases List.mem_cons.1 hj with rfl | hj
      ·rw [ho] at hoj
       cases hoj
       exact List.mem_cons_of_mem _ (z2g hL (hdeps e hee hb))
      ·exact List.mem_cons_of_mem _ (hL.cl j hj oj hoj e hee hb)
    have next : ∀ (v : Value) (w2 : World), Later w' w2 → PutOk n w2 (okOf C.X π objs) π envF o v → Sat P f C.ds (.inRegion ops (Region.linearise.go .any ops fuel (t / (Region.ready .any ops listed).length) (listed.setIfInBounds i true) []) :: k) (putT o.dst v tmps) w2 (APost C R) := by
     intro v w2 hl2 hput
     refine ih _ _ (i :: L) _ w2 hL' (by simp only [List.length_cons]; omega) (zgz hlat hl2) ?_ ?_ ?_
     ·cases hd : o.dst with
      | none => exact hsz
      | some d => simpa [putT] using hsz
     ·intro j hj0 oj hoj d hd
      rcases List.mem_cons.1 hj0 with e | hj
      ·subst e
       rw [ho] at hoj
       cases hoj
       obtain ⟨h1, b, h2, h3⟩ := hput d hd
       refine ⟨b, h2, ?_⟩
       rw [hd, z2z, if_pos ⟨rfl, by rw [hsz]; exact h1⟩]
       exact h3
      ·obtain ⟨b, h2, h3⟩ := hdone j hj oj hoj d hd
       refine ⟨b, h2, ?_⟩
       have hne : ∀ d', o.dst = some d' → d' ≠ d := by
        rintro d' hd' rfl
        have := ha1 j (hL.lt j hj) (fun e => hiL (e ▸ hj)) d' hd'
        rw [z1d.2 ⟨oj, hoj, hd⟩] at this
        cases this
       cases hdo : o.dst with
       | none => exact z3g hl2 h3
       | some d' =>
        rw [z2z, if_neg fun hh => hne d' hdo hh.1]
        exact z3g hl2 h3
     ·intro u hu
      rw [← hrest u fun j hj => hu j (List.mem_cons_of_mem _ hj)]
      cases hdo : o.dst with
      | none => rfl
      | some d' =>
       rw [z2z, if_neg fun hh => ?_]
       have := hu i List.mem_cons_self
       rw [z1d.2 ⟨o, ho, by rw [hdo, hh.1]⟩] at this
       cases this
    have hlw : Later w' w' := Later.refl w'
    rcases hops i o him ho π w' tmps hsz htr.mem ((hG.hist hh).hist htr.hist) hlooks with ⟨hw, hput⟩ | ⟨hw, ⟨v, w2, hrun, hlt2, hput⟩ | ⟨g, args, hrun, hcall⟩⟩
    ·exact .opSkip ho hw (next undef w' hlw hput)
    ·exact .opVal ho hw hrun (next v w2 hlt2 hput)
    ·exact .opCall ho hw hrun (hcall.mono fun e w2 ⟨v, h1, h2, h3⟩ => ⟨v, h1, next v w2 h2 h3⟩)
 refine .step (fun kd cs => zab) ?_
 simp only [Region.schedule, hmx, Bool.true_or, if_true]
 refine key ops.size _ _ [] tmps0 _ ⟨by simp, fun i hi => ?_, List.nodup_nil, by simp, by simp⟩ (by simp) hl1 hn (by simp) (fun _ _ => rfl)
 simp [hi]
end
end Ab
namespace Ab
open Go
variable [Draws]
theorem VLe.toLit (c : Bool) : VLe (.d (.v (.bool c))) (.lit c) := by
 intro w ok π v h
 cases h with | d h => cases h; exact .lit
def z72 (o : Oper) (r : List Oper) (ts : List Tmp) : Bool := ts.all fun t => (match o.dst with | some d => !(d == t) | none => true) && r.all fun o' => match o'.dst with | some d => !(d == t) | none => true
def z4i (o : Oper) (r : List Oper) : Bool := match o.dst with | some t => r.all (fun o' => match o'.dst with | some d => !(d == t) | none => true) | none => true
def dpre (T : Tab) (n : Nat) (ops : Array Oper) : List Oper → Prop → Env → List (Option AObj) → QRes
 | [], nd, env, _ => .done nd env
 | o :: r, nd, env, objs =>
  match z72 o r (o.looksAt ops) && z4i o r with
  | false => .stuck
  | true => match wantE ops (restr env (o.looksAt ops)) o with
   | .yes => match pstep T o (restr env (o.looksAt ops)) objs with
    | .ok a => match putE n o.dst a env with | some e => dpre T n ops r nd e objs | none => .stuck
    | .iff c a => match putE n o.dst a env with | some e => dpre T n ops r (c ∧ nd) e objs | none => .stuck
    | .no => match zcv (restr env (o.looksAt ops)) o with
     | some (g, az) => .call nd g az o.dst r env
     | none => .stuck
   | .no => match putE n o.dst .und env with | some e => dpre T n ops r nd e objs | none => .stuck
   | .ask t b => .ask nd t b (o :: r) env
   | .dunno => .stuck
section
variable {P : Program} [Globals P] {T : Tab} {f : FuncId} {fn : Func} {n m : Nat} {C : Cx} {R : AV → List (Option AObj) → Prop} {todo todo' k : List Item} {env env0 env' envF : Env} {objs objs' : List (Option AObj)} {nd : Prop} {ops : Array Oper} {l : List Oper} {K : Env → Prop} {X : Nat → Prop}
def NoDst (l : List Oper) (t : Tmp) : Prop := ∀ o ∈ l, o.dst ≠ some t
def DSat (P : Program) [Globals P] (n : Nat) (X : Nat → Prop) (objs : List (Option AObj)) (ops : Array Oper) (K : Env → Prop) (l : List Oper) (env : Env) : Prop :=
 ∃ envF, (∀ t, NoDst l t → ∀ a, look envF t = some a → ∃ b, look env t = some b ∧ VLe b a) ∧ (∀ t, NoDst l t → ∀ b, look env t = some b → ∃ a, look envF t = some a ∧ VLe a b) ∧ (∀ o ∈ l, z8h P n X objs ops envF o) ∧ K envF
theorem z43 {o : Oper} {r : List Oper} {t : Tmp} : NoDst (o :: r) t ↔ o.dst ≠ some t ∧ NoDst r t := by simp [NoDst]
theorem zh7 {o : Oper} {r : List Oper} {ts : List Tmp} (h : z72 o r ts = true) {t : Tmp} (ht : t ∈ ts) : NoDst (o :: r) t := by
 have := List.all_eq_true.1 h t ht
 simp only [Bool.and_eq_true] at this
 rw [z43]
 refine ⟨fun hd => ?_, fun o' ho' hd => ?_⟩
 ·have h1 := this.1
  rw [hd] at h1
  simp at h1
 ·have h1 := List.all_eq_true.1 this.2 o' ho'
  rw [hd] at h1
  simp at h1
theorem zg8 {o : Oper} {r : List Oper} (h : z4i o r = true) {d : Tmp} (hd : o.dst = some d) : NoDst r d := by
 unfold z4i at h
 rw [hd] at h
 intro o' ho' hd'
 have h1 := List.all_eq_true.1 h o' ho'
 rw [hd'] at h1
 simp at h1
theorem z4g {t u : Tmp} {a : AV} {env : Env} : look ((t, a) :: env) u = if t = u then some a else look env u := by
 simp only [look]
 by_cases h : t = u
 ·subst h; simp
 ·rw [if_neg h]
  split
  ·rename_i e
   exact absurd (by simpa using e) h
  ·rfl
theorem z8d {o : Oper} {r : List Oper} {a : AV} {e : Env} (hfree : z72 o r (o.looksAt ops) = true) (halone : z4i o r = true) (hput : putE n o.dst a env = some e)
  (hop : ∀ envF : Env, (∀ t ∈ o.looksAt ops, ∀ b, look env t = some b → ∃ a, look envF t = some a ∧ VLe a b) → (∀ d, o.dst = some d → d < n ∧ ∃ b, look envF d = some b ∧ VLe a b) → z8h P n X objs ops envF o)
  (h : DSat P n X objs ops K r e) : DSat P n X objs ops K (o :: r) env := by
 obtain ⟨envF, h1, h2, h3, h4⟩ := h
 have hlook : ∀ t, o.dst ≠ some t → look e t = look env t := by
  intro t ht
  cases hd : o.dst with
  | none => rw [hd] at hput; simp only [putE, Option.some.injEq] at hput; rw [← hput]
  | some d =>
   rw [hd] at hput
   simp only [putE] at hput
   split at hput
   ·simp only [Option.some.injEq] at hput
    rw [← hput, z4g, if_neg (fun hh => ht (by rw [hd, hh]))]
   ·cases hput
 refine ⟨envF, fun t ht b hb => ?_, fun t ht b hb => ?_, fun o' ho' => ?_, h4⟩
 ·obtain ⟨c, hc, hle⟩ := h1 t (z43.1 ht).2 b hb
  rw [hlook t (z43.1 ht).1] at hc
  exact ⟨c, hc, hle⟩
 ·rw [← hlook t (z43.1 ht).1] at hb
  exact h2 t (z43.1 ht).2 b hb
 ·rcases List.mem_cons.1 ho' with rfl | ho'
  ·refine hop envF (fun t ht b hb => ?_) (fun d hd => ?_)
   ·have hn := z43.1 (zh7 hfree ht)
    rw [← hlook t hn.1] at hb
    exact h2 t hn.2 b hb
   ·have hn := zg8 halone hd
    rw [hd] at hput
    simp only [putE] at hput
    split at hput
    ·rename_i hlt
     simp only [Option.some.injEq] at hput
     obtain ⟨a', ha', _⟩ := h2 d hn a (by rw [← hput, z4g, if_pos rfl])
     obtain ⟨b, hb, hle⟩ := h1 d hn a' ha'
     rw [← hput, z4g, if_pos rfl] at hb
     cases hb
     exact ⟨by simpa [Nat.blt_eq] using hlt, a', ha', hle⟩
    ·cases hput
  ·exact h3 o' ho'
theorem z4o {w : World} {ok : Nat → Prop} {π : List Value} {tmps : Array Value} {o : Oper} (h1 : ∀ t ∈ o.looksAt ops, ∀ b, look env t = some b → ∃ a, look envF t = some a ∧ VLe a b) (h2 : ∀ t ∈ o.looksAt ops, ∀ a, look envF t = some a → RelV w ok π a (tmps.getD t undef)) : zz w ok π (restr env (o.looksAt ops)) tmps := by
 intro t a ht
 obtain ⟨hm, hl⟩ := z28 ht
 obtain ⟨a', ha', hle⟩ := h1 t hm a hl
 exact hle _ _ _ _ (h2 t hm a' ha')
theorem ds_op {o : Oper} {r : List Oper} {a : AV} {e : Env} (hfree : z72 o r (o.looksAt ops) = true) (halone : z4i o r = true) (hput : putE n o.dst a env = some e)
  (hw : wantE ops (restr env (o.looksAt ops)) o = .yes)
  (hop : ∀ π w tmps, Mem X π objs w → zz w (okOf X π objs) π (restr env (o.looksAt ops)) tmps → ∃ v w2, (execOp (Act.eval ⟨tmps, []⟩) o).run P w = .ok (.value v) w2 ∧ Later w w2 ∧ RelV w2 (okOf X π objs) π a v)
  (h : DSat P n X objs ops K r e) : DSat P n X objs ops K (o :: r) env := by
 refine z8d hfree halone hput (fun envF g1 g2 => ?_) h
 intro π w tmps hn hm hg hlk
 have he := z4o g1 hlk
 obtain ⟨v, w2, h1, h2, h3⟩ := hop π w tmps hm he
 exact .inr ⟨(zw he).1 hw, .inl ⟨v, w2, h1, h2, fun d hd => by obtain ⟨q1, b, q2, q3⟩ := g2 d hd; exact ⟨q1, b, q2, q3 _ _ _ _ h3⟩⟩⟩
def DCont (P : Program) [Globals P] (n : Nat) (X : Nat → Prop) (objs : List (Option AObj)) (ops : Array Oper) (K : Env → Prop) : QRes → Prop
 | .done nd env => nd ∧ K env
 | .ask nd t b l env => nd ∧ (b = true → DSat P n X objs ops K l ((t, .lit true) :: env)) ∧ (b = false → DSat P n X objs ops K l ((t, .lit false) :: env))
 | .call nd g az dst l env => nd ∧ ∃ r : AV, (∃ e, putE n dst .dead env = some e) ∧
   (∀ π w vs, Mem X π objs w → GOk P π objs w → RelVs w (okOf X π objs) π az vs → (callFunc g vs.toArray).run P w = .ok (.enter g vs.toArray) w ∧ Calls P g vs.toArray w fun e w2 => ∃ v, e = .returned v ∧ Later w w2 ∧ RelV w2 (okOf X π objs) π r v) ∧ DSat P n X objs ops K l (putD dst r env)
 | .stuck => False
theorem z44 (hT : TabOk P T) : ∀ (l : List Oper) (nd : Prop) (env : Env), DCont P n X objs ops K (dpre T n ops l nd env objs) → nd ∧ DSat P n X objs ops K l env
 | [], nd, env, h => ⟨h.1, env, fun t _ a ha => ⟨a, ha, .refl a⟩, fun t _ a ha => ⟨a, ha, .refl a⟩, by simp, h.2⟩
 | o :: r, nd, env, h => by
  simp only [dpre] at h
  cases hf : z72 o r (o.looksAt ops) && z4i o r with
  | false => rw [hf] at h; exact h.elim
  | true =>
  rw [hf] at h
  simp only at h
  simp only [Bool.and_eq_true] at hf
  obtain ⟨hf1, hf2⟩ := hf
  have quiet : ∀ {a : AV} {e : Env} {c : Prop}, c → wantE ops (restr env (o.looksAt ops)) o = .yes → (pstep T o (restr env (o.looksAt ops)) objs = .ok a ∨ pstep T o (restr env (o.looksAt ops)) objs = .iff c a) → putE n o.dst a env = some e → DSat P n X objs ops K r e → DSat P n X objs ops K (o :: r) env := by
   intro a e c hc hw hp hput hr
   refine z8d hf1 hf2 hput (fun envF g1 g2 => ?_) hr
   intro π w tmps hn hm hg hlk
   have he := z4o g1 hlk
   refine .inr ⟨(zw he).1 hw, .inl ?_⟩
   have hdo := z5f (ds := []) hT hm he o
   have hy : Yields P w (okOf X π objs) π a (do match ← execOp (Act.eval ⟨tmps, []⟩) o with | .value v => pure v | _ => pure undef) ∨ True := .inr trivial
   rcases hp with hp | hp
   ·rw [hp] at hdo
    obtain ⟨v, d1, d2⟩ := hdo
    exact ⟨v, w, d2 w (.refl w), .refl w, fun d hd => by obtain ⟨q1, b, q2, q3⟩ := g2 d hd; exact ⟨q1, b, q2, q3 _ _ _ _ d1⟩⟩
   ·rw [hp] at hdo
    obtain ⟨v, d1, d2⟩ := hdo hc
    exact ⟨v, w, d2 w (.refl w), .refl w, fun d hd => by obtain ⟨q1, b, q2, q3⟩ := g2 d hd; exact ⟨q1, b, q2, q3 _ _ _ _ d1⟩⟩
  cases hw : wantE ops (restr env (o.looksAt ops)) o with
  | yes =>
   rw [hw] at h
   simp only at h
   cases hp : pstep T o (restr env (o.looksAt ops)) objs with
   | ok a =>
    rw [hp] at h
    simp only at h
    cases hput : putE n o.dst a env with
    | none => rw [hput] at h; exact h.elim
    | some e =>
     rw [hput] at h
     obtain ⟨r1, r2⟩ := z44 hT r nd e h
     exact ⟨r1, quiet trivial hw (.inl hp) hput r2⟩
   | iff c a =>
    rw [hp] at h
    simp only at h
    cases hput : putE n o.dst a env with
    | none => rw [hput] at h; exact h.elim
    | some e =>
     rw [hput] at h
     obtain ⟨r1, r2⟩ := z44 hT r (c ∧ nd) e h
     exact ⟨r1.2, quiet r1.1 hw (.inr hp) hput r2⟩
   | no =>
    rw [hp] at h
    simp only at h
    cases hco : zcv (restr env (o.looksAt ops)) o with
    | none => rw [hco] at h; exact h.elim
    | some ga =>
     obtain ⟨g, az⟩ := ga
     rw [hco] at h
     obtain ⟨h1, x, ⟨e, hput⟩, hq, h2⟩ := h
     refine ⟨h1, z8d hf1 hf2 (z7f hput) (fun envF g1 g2 => ?_) h2⟩
     intro π w tmps hn hm hg hlk
     have he := z4o g1 hlk
     obtain ⟨vs, c1, c2⟩ := zcu he hco
     obtain ⟨q1, q2⟩ := hq π w vs hm hg c1
     refine .inr ⟨(zw he).1 hw, .inr ⟨g, vs.toArray, by rw [c2, q1], q2.mono fun e w2 ⟨v, a1, a2, a3⟩ => ⟨v, a1, a2, fun d hd => ?_⟩⟩⟩
     obtain ⟨p1, b, p2, p3⟩ := g2 d hd
     exact ⟨p1, b, p2, p3 _ _ _ _ a3⟩
  | no =>
   rw [hw] at h
   simp only at h
   cases hput : putE n o.dst .und env with
   | none => rw [hput] at h; exact h.elim
   | some e =>
    rw [hput] at h
    obtain ⟨r1, r2⟩ := z44 hT r nd e h
    refine ⟨r1, z8d hf1 hf2 hput (fun envF g1 g2 => ?_) r2⟩
    intro π w tmps hn hm hg hlk
    have he := z4o g1 hlk
    exact .inl ⟨(zw he).2 hw, fun d hd => by obtain ⟨q1, b, q2, q3⟩ := g2 d hd; exact ⟨q1, b, q2, q3 _ _ _ _ .und⟩⟩
  | ask t b =>
   rw [hw] at h
   obtain ⟨h1, h2, h3⟩ := h
   refine ⟨h1, ?_⟩
   have hl := (z28 (zby hw)).2
   have fin : ∀ c : Bool, b = c → DSat P n X objs ops K (o :: r) ((t, .lit c) :: env) → DSat P n X objs ops K (o :: r) env := by
    rintro c rfl ⟨envF, k1, k2, k3, k4⟩
    refine ⟨envF, fun u hu a ha => ?_, fun u hu a ha => ?_, k3, k4⟩
    ·obtain ⟨c, hc, hle⟩ := k1 u hu a ha
     rw [z4g] at hc
     split at hc
     ·rename_i e
      subst e
      cases hc
      exact ⟨_, hl, (VLe.toLit b).trans hle⟩
     ·exact ⟨c, hc, hle⟩
    ·by_cases e : t = u
     ·subst e
      rw [hl] at ha
      cases ha
      obtain ⟨a, h5, h6⟩ := k2 t hu (.lit b) (by rw [z4g, if_pos rfl])
      exact ⟨a, h5, h6.trans VLe.lit⟩
     ·exact k2 u hu a (by rw [z4g, if_neg e]; exact ha)
   cases b with
   | true => exact fin true rfl (h2 rfl)
   | false => exact fin false rfl (h3 rfl)
  | dunno => rw [hw] at h; exact h.elim
theorem zo (hT : TabOk P T) (h : dpre T n ops l True env objs = .done nd env') (hn : nd) (hK : K env') : DSat P n X objs ops K l env :=
 (z44 hT l True env (by rw [h]; exact ⟨hn, hK⟩)).2
theorem z14 {t : Tmp} {b : Bool} {l' : List Oper} (hT : TabOk P T) (h : dpre T n ops l True env objs = .ask nd t b l' env') (hn : nd)
  (k1 : b = true → DSat P n X objs ops K l' ((t, .lit true) :: env')) (k2 : b = false → DSat P n X objs ops K l' ((t, .lit false) :: env')) : DSat P n X objs ops K l env :=
 (z44 hT l True env (by rw [h]; exact ⟨hn, k1, k2⟩)).2
theorem zx {g : FuncId} {az bs : List AV} {dst : Option Tmp} {l' : List Oper} {R' : AV → List (Option AObj) → Prop} {r0 : AV} (hT : TabOk P T) (h : dpre T n ops l True env objs = .call nd g az dst l' env') (hn : nd)
  (hc : ACall P g bs [] R') (hen : ∀ args w, (callFunc g args).run P w = .ok (.enter g args) w) (hr : ∀ r o, R' r o → r = r0) (hv : VLs az bs) (hd : refsBs 0 bs = true) (hr0 : refsB 0 r0 = true) (hdst : ∃ e, putE n dst .dead env' = some e)
  (k : DSat P n X objs ops K l' (putD dst r0 env')) : DSat P n X objs ops K l env := by
 suffices hq : ∀ π w vs, Mem X π objs w → GOk P π objs w → RelVs w (okOf X π objs) π az vs → Calls P g vs.toArray w fun e w2 => ∃ v, e = .returned v ∧ Later w w2 ∧ RelV w2 (okOf X π objs) π r0 v from
  (z44 hT l True env (by rw [h]; exact ⟨hn, r0, hdst, fun π w vs hm hg hvs => ⟨hen _ _, hq π w vs hm hg hvs⟩, k⟩)).2
 intro π w vs hm hg hvs
 have h1 : RelVs w (okOf (Xof X π objs) [] []) [] bs vs := (hv.rel hvs).cut (m := 0) (fun b o u a1 a2 => ⟨zj8.2 a1, a2⟩) (fun j _ hj => absurd hj (Nat.not_lt_zero j)) hd
 rcases hc _ _ w vs hg.nil (zmi hm) h1 with ⟨_, hcl⟩ | ⟨v, w', hcl, _⟩
 ·refine Calls.mono hcl ?_
  rintro e w' ⟨v, r, o, π', rfl, hR, hm', hrel, hhist⟩
  have := hr r o hR
  subst this
  refine ⟨v, rfl, z6q hhist, ?_⟩
  refine hrel.cut (m := 0) (fun b o u a1 a2 => ⟨?_, a2⟩) (fun j _ hj => absurd hj (Nat.not_lt_zero j)) hr0
  exact zj8.1 ⟨a1.1, fun i o h h1 => by simp [nth] at h1⟩
 ·rw [hen] at hcl
  cases hcl
theorem zn (m : Nat) {id : Nat} {ops : Array Oper} {k : List Item} (hT : TabOk P T) (hf : P.funcs[f]? = some fn) (hmx : P.follows .mixedOrders = true) (h : srun T n fn.results.toList 2000 True todo env objs = .draw nd id ops k env' objs') (hn : nd)
  (hB : drawB ops m = true) (hq : DSat P n C.X objs' ops (fun env2 => ASat P f n C (.inRegion ops (List.range' m (ops.size - m)) :: k) env2 objs' R) (ops.toList.take m) env') (hG : GOk P C.π C.objs C.w := by with_reducible assumption) : ASat P f n C todo env objs R := by
 suffices hc : Cont P f n C R (.draw nd id ops k env' objs') from (z1f hT hf 2000 True todo env objs (by rw [h]; exact hc)).2
 obtain ⟨envF, h1, h2, h3, h4⟩ := hq
 have hop : ∀ j o, j < m → ops[j]? = some o → o ∈ ops.toList.take m := by
  intro j o hj ho
  rw [List.mem_take_iff_getElem]
  have hjs := (Array.getElem?_eq_some_iff.1 ho).1
  refine ⟨j, by simp; omega, ?_⟩
  rw [Array.getElem?_eq_getElem hjs] at ho
  simpa using ho
 refine ⟨hn, zhg hmx hB (envF := envF) (fun j o hj ho => h3 o (hop j o hj ho)) (fun t ht a ha => h1 t (fun o ho hd => ?_) a ha) h4⟩
 rw [List.mem_take_iff_getElem] at ho
 obtain ⟨j, hj, rfl⟩ := ho
 have hjs : j < ops.size := by simp at hj; omega
 have := ht j (by simp at hj; omega)
 rw [z1d.2 ⟨_, Array.getElem?_eq_getElem hjs, by simpa using hd⟩] at this
 cases this
end
end Ab
namespace Ab
open Go
variable [Draws]
section
variable {P : Program} [Globals P] {T : Tab} {f : FuncId} {fn : Func} {n m : Nat} {C : Cx} {R : AV → List (Option AObj) → Prop} {todo todo' k : List Item} {env env0 env' envF : Env} {objs objs' : List (Option AObj)} {nd : Prop} {ops : Array Oper} {l : List Oper} {K : Env → Prop} {X : Nat → Prop}
structure StepG (X : Nat → Prop) (O : List Nat → List (Option AObj)) (G : AV → Prop) (L : List Nat) (j : Nat) (π : List Value) (w : World) (π' : List Value) (w2 : World) : Prop where
 mem : Mem X π' (O (j :: L)) w2
 hist : Hist π (O L) w π' (O (j :: L)) w2
 keep : ∀ a v, G a → RelV w (okOf X π (O L)) π a v → RelV w2 (okOf X π' (O (j :: L))) π' a v
end
end Ab
namespace Ab
open Go
variable [Draws]
section
variable {P : Program} [Globals P] {T : Tab} {f : FuncId} {fn : Func} {n m : Nat} {C : Cx} {R : AV → List (Option AObj) → Prop} {todo todo' k : List Item} {env env0 env' envF E : Env} {objs objs' objs1 : List (Option AObj)} {nd : Prop} {ops : Array Oper} {l : List Oper} {K : Env → Prop} {X : Nat → Prop}
end
end Ab
namespace Ab
open Go
variable [Draws]
section
variable {P : Program} [Globals P] {T : Tab} {f : FuncId} {fn : Func} {n m : Nat} {C : Cx} {R : AV → List (Option AObj) → Prop} {todo todo' k : List Item} {env env0 env' envF E : Env} {objs objs' objs1 : List (Option AObj)} {nd : Prop} {ops : Array Oper} {l : List Oper} {K : Env → Prop} {X : Nat → Prop}
end
end Ab
namespace Ab
open Go
variable [Draws]
mutual
theorem RelV.monoT {w w' : World} {ok ok' : Nat → Prop} {π π' : List Value} (hk : Keeps w ok w' ok') (hp : ∀ j h, nth π j = some h → h ≠ .tuple #[] → nth π' j = some h) {a : AV} {v : Value} : RelV w ok π a v → RelV w' ok' π' a v
 | .d h => .d (h.mono hk)
 | .ro h hm => .ro (h.mono hk) (z2x hk hm)
 | .ptr h => .ptr (hp _ _ h (by intro e; cases e))
 | .gs h => .gs (hp _ _ h (by intro e; cases e))
 | .ge h => .ge (hp _ _ h (by intro e; cases e))
 | .mp h => .mp (hp _ _ h (by intro e; cases e))
 | .e0 => .e0
 | .lit => .lit
 | .und => .und
 | .orc => .orc
 | .ag h hf => .ag (h.monoT hk hp) hf
 | .tp h => .tp (h.monoT hk hp)
 | .fn h => .fn (h.monoT hk hp)
 | .ifc h => .ifc (h.monoT hk hp)
 | .dead => .dead
theorem RelVs.monoT {w w' : World} {ok ok' : Nat → Prop} {π π' : List Value} (hk : Keeps w ok w' ok') (hp : ∀ j h, nth π j = some h → h ≠ .tuple #[] → nth π' j = some h) {a : List AV} {v : List Value} : RelVs w ok π a v → RelVs w' ok' π' a v
 | .nil => .nil
 | .cons h t => .cons (h.monoT hk hp) (t.monoT hk hp)
end
theorem RelEs.monoT {w w' : World} {ok ok' : Nat → Prop} {π π' : List Value} (hk : Keeps w ok w' ok') (hp : ∀ j h, nth π j = some h → h ≠ .tuple #[] → nth π' j = some h) : ∀ {a : List (Value × AV)} {v : List MapEntry}, RelEs w ok π a v → RelEs w' ok' π' a v
 | _, _, .nil => .nil
 | _, _, .cons h t => .cons (h.monoT hk hp) (t.monoT hk hp)
theorem RelO.monoT {w w' : World} {ok ok' : Nat → Prop} {π π' : List Value} (hk : Keeps w ok w' ok') (hp : ∀ j h, nth π j = some h → h ≠ .tuple #[] → nth π' j = some h) {o : AObj} {h : Value} (hh : ∀ b, blk h = some b → w'.heap[b]? = w.heap[b]?) : RelO w ok π o h → RelO w' ok' π' o h
 | .cells hb h hf => .cells ((hh _ rfl).trans hb) (h.monoT hk hp) hf
 | .gnil => .gnil
 | .grow hb hz h hu hc hm ho hr => .grow ((hh _ rfl).trans hb) hz (h.mono hk) hu hc hm ho hr
 | .map hb h => .map ((hh _ rfl).trans hb) (h.monoT hk hp)
 | .hold h => .hold (h.monoT hk hp)
 | .siter hb => .siter ((hh _ rfl).trans hb)
def HD : AObj := .hold (.d (.v .nilIface)) .nilIface
theorem relHD {w : World} {ok : Nat → Prop} {π : List Value} : RelO w ok π HD (.tuple #[]) := .hold (.d (.v rfl))
theorem zr5 {w : World} {ok : Nat → Prop} {π : List Value} {h : Value} : RelO w ok π HD h → h = .tuple #[] := by
 intro h
 cases h
 rfl
theorem z2s {α : Type} {l : List α} {i j : Nat} {x : α} : nth (zi l i x) j = if i = j then (if j < l.length then some x else none) else nth l j := by
 rw [z1p, z1n, z1n, List.getElem?_set]
 split
 ·rename_i e
  subst e
  rfl
 ·rfl
theorem fill {X : Nat → Prop} {π : List Value} {objs : List (Option AObj)} {w w' : World} (m : Mem X π objs w) {p : Nat} (hp : nth objs p = some (some HD)) (hos : w'.os = w.os) (htape : w'.tape = w.tape) (hout : w'.output = w.output ∧ dr w ≤ dr w') (hsz : w.heap.size ≤ w'.heap.size) (hw : ∀ b, b < w.heap.size → w'.heap[b]? = w.heap[b]?)
  (h : Value) (o : AObj) (hh : ∀ b, blk h = some b → w.heap.size ≤ b) (hrel : RelO w' (okOf X (zi π p h) (zi objs p (some o))) (zi π p h) o h) :
  Mem X (zi π p h) (zi objs p (some o)) w' ∧
   (∀ {π0 : List Value} {objs0 : List (Option AObj)} {w0 : World}, π0.length ≤ p → Hist π0 objs0 w0 π objs w → Hist π0 objs0 w0 (zi π p h) (zi objs p (some o)) w') ∧
   (∀ a v, RelV w (okOf X π objs) π a v → RelV w' (okOf X (zi π p h) (zi objs p (some o))) (zi π p h) a v) := by
 have hpl := z1w hp
 have hml := m.len
 obtain ⟨h0, hp0, hr0⟩ := m.obj p _ hp
 obtain rfl := zr5 hr0
 have hsame : ∀ {j : Nat} {x : Value}, nth (zi π p h) j = some x → (j = p ∧ x = h) ∨ (j ≠ p ∧ nth π j = some x) := by
  intro j x hj
  rw [z2s] at hj
  split at hj
  ·rename_i e
   split at hj
   ·cases hj; exact .inl ⟨e.symm, rfl⟩
   ·cases hj
  ·rename_i e
   exact .inr ⟨fun e2 => e e2.symm, hj⟩
 have hsameO : ∀ {j : Nat} {x : AObj}, nth (zi objs p (some o)) j = some (some x) → (j = p ∧ x = o) ∨ (j ≠ p ∧ nth objs j = some (some x)) := by
  intro j x hj
  rw [z2s] at hj
  split at hj
  ·rename_i e
   split at hj
   ·cases hj; exact .inl ⟨e.symm, rfl⟩
   ·cases hj
  ·rename_i e
   exact .inr ⟨fun e2 => e e2.symm, hj⟩
 have hok : ∀ b, b < w.heap.size → okOf X π objs b → okOf X (zi π p h) (zi objs p (some o)) b := by
  intro b hb hk
  refine ⟨hk.1, fun i o' h' h1 h2 => ?_⟩
  rcases hsame h2 with ⟨rfl, rfl⟩ | ⟨hne, h3⟩
  ·intro hc
   have := hh _ hc
   omega
  ·rcases hsameO h1 with ⟨rfl, _⟩ | ⟨_, h4⟩
   ·exact absurd rfl hne
   ·exact hk.2 i o' h' h4 h3
 have hk : Keeps w (okOf X π objs) w' (okOf X (zi π p h) (zi objs p (some o))) := by
  intro b off u h1 h2
  have hb := z38 h2
  refine ⟨hok b hb h1, ?_⟩
  unfold World.cell? at h2 ⊢
  rw [hw b hb]
  exact h2
 have hpp : ∀ j x, nth π j = some x → x ≠ .tuple #[] → nth (zi π p h) j = some x := by
  intro j x hj hx
  rw [z2s, if_neg ?_]
  ·exact hj
  ·rintro rfl
   rw [hp0] at hj
   cases hj
   exact hx rfl
 have hblk : ∀ {j : Nat} {x : AObj} {y : Value} {b : Nat}, nth objs j = some (some x) → nth π j = some y → blk y = some b → b < w.heap.size := fun h1 h2 h3 => m.lt h1 h2 h3
 refine ⟨⟨by rw [z2n, z2n]; exact hml, ?_, ?_, ?_, fun b hx => Nat.lt_of_lt_of_le (m.inX b hx) hsz⟩, ?_, fun a v h1 => h1.monoT hk hpp⟩
 ·intro i o' ho
  rcases hsameO ho with ⟨rfl, rfl⟩ | ⟨hne, h1⟩
  ·exact ⟨h, by rw [z2s, if_pos rfl, if_pos (by omega)], hrel⟩
  ·obtain ⟨k, h2, h3⟩ := m.obj i o' h1
   exact ⟨k, by rw [z2s, if_neg (fun e => hne e.symm)]; exact h2, h3.monoT hk hpp (fun b e => hw b (h3.lt e))⟩
 ·intro i j o1 o2 h1 h2 b hne ho1 ho2 hp1 hp2 hb1 hb2
  rcases hsameO ho1 with ⟨rfl, rfl⟩ | ⟨hi, e1⟩ <;> rcases hsameO ho2 with ⟨rfl, rfl⟩ | ⟨hj, e2⟩
  ·exact hne rfl
  ·rcases hsame hp1 with ⟨_, rfl⟩ | ⟨hc, _⟩
   ·rcases hsame hp2 with ⟨rfl, _⟩ | ⟨_, h4⟩
    ·exact hj rfl
    ·have := hblk e2 h4 hb2
     have := hh _ hb1
     omega
   ·exact hc rfl
  ·rcases hsame hp2 with ⟨_, rfl⟩ | ⟨hc, _⟩
   ·rcases hsame hp1 with ⟨rfl, _⟩ | ⟨_, h4⟩
    ·exact hi rfl
    ·have := hblk e1 h4 hb1
     have := hh _ hb2
     omega
   ·exact hc rfl
  ·rcases hsame hp1 with ⟨rfl, _⟩ | ⟨_, h3⟩
   ·exact hi rfl
   ·rcases hsame hp2 with ⟨rfl, _⟩ | ⟨_, h4⟩
    ·exact hj rfl
    ·exact m.dist i j o1 o2 h1 h2 b hne e1 e2 h3 h4 hb1 hb2
 ·intro i o' h' b ho' hp' hb' hx
  rcases hsameO ho' with ⟨rfl, rfl⟩ | ⟨hi, e1⟩
  ·rcases hsame hp' with ⟨_, rfl⟩ | ⟨hc, _⟩
   ·have := hh _ hb'
    have := m.inX b hx
    omega
   ·exact hc rfl
  ·rcases hsame hp' with ⟨rfl, _⟩ | ⟨_, h4⟩
   ·exact hi rfl
   ·exact m.ext i o' h' b e1 h4 hb' hx
 ·intro π0 objs0 w0 hle hst
  refine ⟨hos.trans hst.os, htape.trans hst.tape, ⟨hout.1.trans hst.output.1, Nat.le_trans hst.output.2 hout.2⟩, Nat.le_trans hst.size hsz, ?_, ?_, ?_⟩
  ·intro b hb hn
   rw [hw b (Nat.lt_of_lt_of_le hb hst.size)]
   exact hst.heap b hb hn
  ·intro i o' h' b ho' hp' hb'
   rcases hsameO ho' with ⟨rfl, rfl⟩ | ⟨hi, e1⟩
   ·rcases hsame hp' with ⟨_, rfl⟩ | ⟨hc, _⟩
    ·exact .inl (Nat.le_trans hst.size (hh _ hb'))
    ·exact absurd rfl hc
   ·rcases hsame hp' with ⟨rfl, _⟩ | ⟨_, h4⟩
    ·exact absurd rfl hi
    ·exact hst.own i o' h' b e1 h4 hb'
  ·intro i x hi hs
   have h1 := z1w hi
   rw [z2s, if_neg (by omega)]
   exact hst.hand i x hi hs
section
variable {P : Program} [Globals P] {T : Tab} {f : FuncId} {fn : Func} {n m : Nat} {C : Cx} {R : AV → List (Option AObj) → Prop} {todo todo' k : List Item} {env env0 env' envF : Env} {objs objs' : List (Option AObj)} {nd : Prop} {ops : Array Oper} {l : List Oper} {K : Env → Prop} {X : Nat → Prop}
structure StepH (C : Cx) (O : List Nat → List (Option AObj)) (L : List Nat) (j : Nat) (π : List Value) (w : World) (π' : List Value) (w2 : World) : Prop where
 mem : Mem C.X π' (O (j :: L)) w2
 hist : Hist C.π C.objs C.w π (O L) w → Hist C.π C.objs C.w π' (O (j :: L)) w2
 keep : ∀ a v, RelV w (okOf C.X π (O L)) π a v → RelV w2 (okOf C.X π' (O (j :: L))) π' a v
def HeadH (P : Program) [Globals P] (n : Nat) (C : Cx) (O : List Nat → List (Option AObj)) (m : Nat) (ops : Array Oper) (envF : Env) (j : Nat) (o : Oper) : Prop :=
 ∀ L, (∀ q ∈ L, q < m) → j ∉ L → (∀ q, z1m ops j q = true → q ∈ L) → (∀ q ∈ L, ∀ q', z1m ops q q' = true → q' ∈ L) → ∀ π w tmps, tmps.size = n → Mem C.X π (O L) w → GOk P π (O L) w → (∀ t ∈ o.looksAt ops, ∀ a, look envF t = some a → RelV w (okOf C.X π (O L)) π a (tmps.getD t undef)) →
  (Region.wanted o (yielded ops tmps) = false ∧ ∃ π', StepH C O L j π w π' w ∧ PutOk n w (okOf C.X π' (O (j :: L))) π' envF o undef) ∨
  (Region.wanted o (yielded ops tmps) = true ∧
   ((∃ v w2 π', (execOp (Act.eval ⟨tmps, []⟩) o).run P w = .ok (.value v) w2 ∧ StepH C O L j π w π' w2 ∧ PutOk n w2 (okOf C.X π' (O (j :: L))) π' envF o v) ∨
    (∃ w2 π', (execOp (Act.eval ⟨tmps, []⟩) o).run P w = .ok .skip w2 ∧ StepH C O L j π w π' w2 ∧ PutOk n w2 (okOf C.X π' (O (j :: L))) π' envF o undef) ∨
    (∃ g args, (execOp (Act.eval ⟨tmps, []⟩) o).run P w = .ok (.enter g args) w ∧ Calls P g args w fun e w2 => ∃ v π', e = .returned v ∧ StepH C O L j π w π' w2 ∧ PutOk n w2 (okOf C.X π' (O (j :: L))) π' envF o v)))
def drawZ (ops : Array Oper) (m : Nat) : Bool := drawB ops m || (decide (m = ops.size) && backB ops && zny ops m)
theorem zft {O : List Nat → List (Option AObj)} {objsF : List (Option AObj)} (hmx : P.follows .mixedOrders = true) (hB : drawZ ops m = true) (hops : ∀ j o, j < m → ops[j]? = some o → HeadH P n C O m ops envF j o)
  (hO0 : O [] = objs) (hOF : ∀ L, (∀ i, i < m → i ∈ L) → O L = objsF)
  (henv : ∀ t, (∀ j, j < m → dstIs ops j t = false) → ∀ a, look envF t = some a → ∃ b, look env0 t = some b ∧ VLe b a)
  (hK : ASat P f n C (.inRegion ops (List.range' m (ops.size - m)) :: k) envF objsF R) {id : Nat} (hGk : GOk P C.π C.objs C.w := by with_reducible assumption) : ASat P f n C (.code (.region id ops true) :: k) env0 objs R := by
 obtain ⟨hms, hback, hsc, hap⟩ : m ≤ ops.size ∧ backB ops = true ∧ (m < ops.size → zl4 ops m = true ∧ ze1 ops m = true) ∧ zny ops m = true := by
  simp only [drawZ, drawB, Bool.or_eq_true, Bool.and_eq_true, decide_eq_true_eq] at hB
  rcases hB with ⟨⟨⟨⟨h1, h2⟩, h3⟩, h4⟩, h5⟩ | ⟨⟨h1, h2⟩, h5⟩
  ·exact ⟨by omega, h2, fun _ => ⟨h3, h4⟩, h5⟩
  ·exact ⟨by omega, h2, fun h => by omega, h5⟩
 have hap : ∀ j o, j < m → ops[j]? = some o → (∀ k, k < m → k ≠ j → ∀ d, o.dst = some d → dstIs ops k d = false) ∧ ∀ k, k < m → ∀ t ∈ o.looksAt ops, dstIs ops k t = true → z1m ops j k = true := by
  intro j o hj ho
  have h1 := List.all_eq_true.1 hap j (List.mem_range.2 hj)
  rw [ho] at h1
  have h2 : ∀ k, k < m → ((decide (k = j) || z7k ops o k) = true ∧ (o.looksAt ops).all (fun t => !dstIs ops k t || z1m ops j k) = true) := fun k hk => by
   have := List.all_eq_true.1 h1 k (List.mem_range.2 hk)
   simpa only [Bool.and_eq_true] using this
  refine ⟨fun k hk hne d hd => ?_, fun k hk t ht hd => ?_⟩
  ·have := (h2 k hk).1
   unfold z7k at this
   rw [hd] at this
   simpa [hne] using this
  ·have := List.all_eq_true.1 (h2 k hk).2 t ht
   simpa [hd] using this
 intro π w tmps0 hn hm hh he
 have hl1 : Later w { w with drawn := w.drawn + 1 } := ⟨rfl, rfl, ⟨rfl, zv (Nat.le_succ _)⟩, Nat.le_refl _, fun _ _ => rfl⟩
 have htr1 := hl1.tr hm
 have key : ∀ (fuel t : Nat) (listed : Array Bool) (L : List Nat) (tmps : Array Value) (w' : World) (π : List Value), Lst ops m L listed → L.length + fuel = ops.size → Mem C.X π (O L) w' → Hist C.π C.objs C.w π (O L) w' → tmps.size = n →
   (∀ j ∈ L, ∀ o, ops[j]? = some o → ∀ d, o.dst = some d → ∃ b, look envF d = some b ∧ RelV w' (okOf C.X π (O L)) π b (tmps.getD d undef)) →
   (∀ t, (∀ j, j < m → dstIs ops j t = false) → ∀ a, look envF t = some a → RelV w' (okOf C.X π (O L)) π a (tmps.getD t undef)) →
   Sat P f C.ds (.inRegion ops (Region.linearise.go .any ops fuel t listed []) :: k) tmps w' (APost C R) := by
  have fin : ∀ (L : List Nat) (tmps : Array Value) (w' : World) (π : List Value), (∀ i, i < m → i ∈ L) → Mem C.X π (O L) w' → Hist C.π C.objs C.w π (O L) w' → tmps.size = n →
    (∀ j ∈ L, ∀ o, ops[j]? = some o → ∀ d, o.dst = some d → ∃ b, look envF d = some b ∧ RelV w' (okOf C.X π (O L)) π b (tmps.getD d undef)) →
    (∀ t, (∀ j, j < m → dstIs ops j t = false) → ∀ a, look envF t = some a → RelV w' (okOf C.X π (O L)) π a (tmps.getD t undef)) →
    Sat P f C.ds (.inRegion ops (List.range' m (ops.size - m)) :: k) tmps w' (APost C R) := by
   intro L tmps w' π hall hm hh hsz hdone hrest
   rw [hOF L hall] at hm hh hdone hrest
   refine hK π w' tmps hsz hm hh fun u a hu => ?_
   by_cases hd : ∃ j, j < m ∧ dstIs ops j u = true
   ·obtain ⟨j, hj, hd⟩ := hd
    obtain ⟨o, ho, hdo⟩ := z1d.1 hd
    obtain ⟨b, hb, hr⟩ := hdone j (hall j hj) o ho u hdo
    rw [hu] at hb
    cases hb
    exact hr
   ·have hd' : ∀ j, j < m → dstIs ops j u = false := fun j hj => by
     cases hx : dstIs ops j u with
     | false => rfl
     | true => exact absurd ⟨j, hj, hx⟩ hd
    exact hrest u hd' a hu
  intro fuel
  induction fuel with
  | zero =>
   intro t listed L tmps w' π hL hlen hm hh hsz hdone hrest
   have hLm := z2u hL.nd (b := List.range m) fun y hy => List.mem_range.2 (hL.lt y hy)
   rw [List.length_range] at hLm
   have hall : ∀ i, i < m → i ∈ L := fun i hi => by
    apply Classical.byContradiction
    intro hiL
    have := z2u (List.nodup_cons.2 ⟨hiL, hL.nd⟩) (b := List.range m) fun y hy => by
     rcases List.mem_cons.1 hy with rfl | hy
     ·exact List.mem_range.2 hi
     ·exact List.mem_range.2 (hL.lt y hy)
    rw [List.length_range, List.length_cons] at this
    omega
   have := fin L tmps w' π hall hm hh hsz hdone hrest
   rw [show ops.size - m = 0 by omega] at this
   simpa [Region.linearise.go] using this
  | succ fuel ih =>
   intro t listed L tmps w' π hL hlen hm hh hsz hdone hrest
   have hLm := z2u hL.nd (b := List.range m) fun y hy => List.mem_range.2 (hL.lt y hy)
   rw [List.length_range] at hLm
   by_cases hall : ∀ i, i < m → i ∈ L
   ·have hml := z2u (List.nodup_range (n := m)) (b := L) fun y hy => hall y (List.mem_range.1 hy)
    rw [List.length_range] at hml
    have hfu : fuel + 1 = ops.size - m := by omega
    obtain ⟨hsink, hchain⟩ := hsc (by omega)
    rw [hfu]
    have hg := z9x hback hchain (ops.size - m) t listed (.inl (by omega)) (by omega) hL.size (fun i hi => by
     rw [hL.mem i hi, show ops.size - (ops.size - m) = m by omega]
     exact ⟨fun h => hL.lt i h, fun h => hall i h⟩)
    rw [hg, show ops.size - (ops.size - m) = m by omega]
    exact fin L tmps w' π hall hm hh hsz hdone hrest
   ·have hex : ∃ i, i ∈ Region.ready .any ops listed := by
     have hmin : ∀ q i, i ≤ q → i < m → i ∉ L → ∃ j, j < m ∧ j ∉ L ∧ ∀ j', j' < j → j' ∈ L := by
      intro q
      induction q with
      | zero => intro i hi hm hL; exact ⟨i, hm, hL, by omega⟩
      | succ q ihq =>
       intro i hi him hiL
       by_cases hx : ∃ j', j' < i ∧ j' ∉ L
       ·obtain ⟨j', h1, h2⟩ := hx
        exact ihq j' (by omega) (by omega) h2
       ·exact ⟨i, him, hiL, fun j' hj' => Decidable.byContradiction fun h2 => hx ⟨j', hj', h2⟩⟩
     obtain ⟨i, hi⟩ := Classical.not_forall.1 hall
     have hi1 : i < m := Classical.byContradiction fun h => hi fun h2 => absurd h2 h
     have hi2 : i ∉ L := fun h => hi fun _ => h
     obtain ⟨j, h1, h2, h3⟩ := hmin i i (Nat.le_refl _) hi1 hi2
     refine ⟨j, (z3h (by omega) hL).2 ⟨by omega, h2, ops[j], Array.getElem?_eq_getElem (by omega), fun e hee hb => ?_⟩⟩
     have hlt := z6v hback (Array.getElem?_eq_getElem (by omega : j < ops.size)) hee hb
     exact (hL.mem e.on (by omega)).2 (h3 e.on hlt)
    rw [zdp]
    have hlen2 : 0 < (Region.ready .any ops listed).length := List.length_pos_of_mem hex.choose_spec
    have hmod : t % (Region.ready .any ops listed).length < (Region.ready .any ops listed).length := Nat.mod_lt _ hlen2
    rw [List.getElem?_eq_getElem hmod]
    simp only
    have hir : (Region.ready .any ops listed)[t % (Region.ready .any ops listed).length] ∈ Region.ready .any ops listed := List.getElem_mem hmod
    generalize (Region.ready .any ops listed)[t % (Region.ready .any ops listed).length] = i at hir
    have him : i < m := by
     apply Classical.byContradiction
     intro hge
     have hilt : i < ops.size := ((z3h (by omega) hL).1 hir).1
     obtain ⟨hsink, hchain⟩ := hsc (by omega)
     exact hall (z95 (by omega) hsink hback hL (by omega) hchain hir).2
    obtain ⟨his, hiL, o, ho, hdeps⟩ := (z3h (by omega) hL).1 hir
    obtain ⟨ha1, ha2⟩ := hap i o him ho
    have hlooks : ∀ u ∈ o.looksAt ops, ∀ a, look envF u = some a → RelV w' (okOf C.X π (O L)) π a (tmps.getD u undef) := by
     intro u hu a hua
     by_cases hd : ∃ j, j < m ∧ dstIs ops j u = true
     ·obtain ⟨j, hj, hd⟩ := hd
      have hw := ha2 j hj u hu hd
      obtain ⟨o2, ho2, e, hee, hb, heq⟩ := z1l hw
      rw [ho] at ho2
      cases ho2
      have hjL := z2g hL (hdeps e hee hb)
      rw [heq] at hjL
      obtain ⟨oj, hoj, hdj⟩ := z1d.1 hd
      obtain ⟨b, hb2, hr⟩ := hdone j hjL oj hoj u hdj
      rw [hua] at hb2
      cases hb2
      exact hr
     ·have hd' : ∀ j, j < m → dstIs ops j u = false := fun j hj => by
       cases hx : dstIs ops j u with
       | false => rfl
       | true => exact absurd ⟨j, hj, hx⟩ hd
      exact hrest u hd' a hua
    have hL' : Lst ops m (i :: L) (listed.setIfInBounds i true) := by
     refine ⟨by simpa using hL.size, fun j hj => ?_, List.nodup_cons.2 ⟨hiL, hL.nd⟩, fun j hj => ?_, fun j hj oj hoj e hee hb => ?_⟩
     ·by_cases e : i = j
      ·subst e
       rw [show (listed.setIfInBounds i true).getD i false = true by simp [hL.size, hj]]
       simp
      ·rw [show (listed.setIfInBounds i true).getD j false = listed.getD j false by simp [Array.getElem?_setIfInBounds, e]]
       rw [hL.mem j hj, List.mem_cons]
       exact ⟨.inr, fun h => h.resolve_left fun h2 => e h2.symm⟩
     ·rcases List.mem_cons.1 hj with rfl | hj
      ·exact him
      ·exact hL.lt j hj
     ·rcases List.mem_cons.1 hj with rfl | hj
      ·rw [ho] at hoj
       cases hoj
       exact List.mem_cons_of_mem _ (z2g hL (hdeps e hee hb))
      ·exact List.mem_cons_of_mem _ (hL.cl j hj oj hoj e hee hb)
    have hdeps2 : ∀ q, z1m ops i q = true → q ∈ L := by
     intro q hq
     obtain ⟨o2, ho2, e, hee, hb, heq⟩ := z1l hq
     rw [ho] at ho2
     cases ho2
     rw [← heq]
     exact z2g hL (hdeps e hee hb)
    have hcl2 : ∀ q ∈ L, ∀ q', z1m ops q q' = true → q' ∈ L := by
     intro q hqL q' hq
     obtain ⟨o2, ho2, e, hee, hb, heq⟩ := z1l hq
     rw [← heq]
     exact hL.cl q hqL o2 ho2 e hee hb
    have next : ∀ (v : Value) (w2 : World) (π' : List Value), StepH C O L i π w' π' w2 → PutOk n w2 (okOf C.X π' (O (i :: L))) π' envF o v → Sat P f C.ds (.inRegion ops (Region.linearise.go .any ops fuel (t / (Region.ready .any ops listed).length) (listed.setIfInBounds i true) []) :: k) (putT o.dst v tmps) w2 (APost C R) := by
     intro v w2 π' hst hput
     refine ih _ _ (i :: L) _ w2 π' hL' (by simp only [List.length_cons]; omega) hst.mem (hst.hist hh) ?_ ?_ ?_
     ·cases hd : o.dst with
      | none => exact hsz
      | some d => simpa [putT] using hsz
     ·intro j hj0 oj hoj d hd
      rcases List.mem_cons.1 hj0 with e | hj
      ·subst e
       rw [ho] at hoj
       cases hoj
       obtain ⟨h1, b, h2, h3⟩ := hput d hd
       refine ⟨b, h2, ?_⟩
       rw [hd, z2z, if_pos ⟨rfl, by rw [hsz]; exact h1⟩]
       exact h3
      ·obtain ⟨b, h2, h3⟩ := hdone j hj oj hoj d hd
       refine ⟨b, h2, ?_⟩
       have hne : ∀ d', o.dst = some d' → d' ≠ d := by
        rintro d' hd' rfl
        have := ha1 j (hL.lt j hj) (fun e => hiL (e ▸ hj)) d' hd'
        rw [z1d.2 ⟨oj, hoj, hd⟩] at this
        cases this
       cases hdo : o.dst with
       | none => exact hst.keep _ _ h3
       | some d' =>
        rw [z2z, if_neg fun hh => hne d' hdo hh.1]
        exact hst.keep _ _ h3
     ·intro u hu a hua
      have h3 := hst.keep _ _ (hrest u hu a hua)
      cases hdo : o.dst with
      | none => exact h3
      | some d' =>
       rw [z2z, if_neg fun hh => ?_]
       ·exact h3
       ·have := hu i him
        rw [z1d.2 ⟨o, ho, by rw [hdo, hh.1]⟩] at this
        cases this
    rcases hops i o him ho L (fun q hq => hL.lt q hq) hiL hdeps2 hcl2 π w' tmps hsz hm (hGk.hist hh) hlooks with ⟨hw, hput⟩ | ⟨hw, ⟨v, w2, π', hrun, hst, hput⟩ | ⟨w2, π', hrun, hst, hput⟩ | ⟨g, args, hrun, hcall⟩⟩
    ·obtain ⟨π', hst, hput⟩ := hput
     exact .opSkip ho hw (next undef w' π' hst hput)
    ·exact .opVal ho hw hrun (next v w2 π' hst hput)
    ·exact .opUnit ho hw hrun (next undef w2 π' hst hput)
    ·exact .opCall ho hw hrun (hcall.mono fun e w2 ⟨v, π', h1, h2, h3⟩ => ⟨v, h1, next v w2 π' h2 h3⟩)
 refine .step (fun kd cs => zab) ?_
 simp only [Region.schedule, hmx, Bool.true_or, if_true]
 subst hO0
 refine key ops.size _ _ [] tmps0 _ π ⟨by simp, fun i hi => ?_, List.nodup_nil, by simp, by simp⟩ (by simp) htr1.mem (z1u hh htr1) hn (by simp) (fun u hu a hua => ?_)
 ·simp [hi]
 ·obtain ⟨b, hb, hle⟩ := henv u hu a hua
  exact z3g hl1 (hle _ _ _ _ (he u b hb))
theorem zok (h : ASat P f n C todo env (objs ++ [some HD]) R) : ASat P f n C todo env objs R := by
 intro π w tmps hn hm hh he
 have htr : Tr C.X π objs w none (π ++ [.tuple #[]]) (objs ++ [some HD]) w := z2m hm rfl rfl ⟨rfl, zv (Nat.le_refl _)⟩ (Nat.le_refl _) (fun _ _ => rfl) _ _ (by intro b e; cases e) relHD
 exact h _ w tmps hn htr.mem (z1u hh htr) (z3u he htr)
theorem zq1 (k : Nat) (h : ASat P f n C todo env (objs ++ List.replicate k (some HD)) R) : ASat P f n C todo env objs R := by
 induction k generalizing objs with
 | zero => simpa using h
 | succ k ih =>
  refine zok (ih ?_)
  rw [List.append_assoc]
  exact h
theorem zp3 {O : List Nat → List (Option AObj)} {j : Nat} {o : Oper} (hO : ∀ L, O (j :: L) = O L) (h : ∀ L, z8h P n C.X (O L) ops envF o) : HeadH P n C O m ops envF j o := by
 have st : ∀ {L : List Nat} {π : List Value} {w w2 : World}, Mem C.X π (O L) w → Later w w2 → StepH C O L j π w π w2 := by
  intro L π w w2 hm l
  have htr := l.tr hm
  refine ⟨by rw [hO]; exact htr.mem, fun hh => by rw [hO]; exact hh.trans htr.hist, fun a v h => ?_⟩
  rw [hO]
  exact z3g l h
 intro L _ _ _ _ π w tmps hs hm hgk hl
 rcases h L π w tmps hs hm hgk hl with ⟨hw, hp⟩ | ⟨hw, ⟨v, w2, hr, hlt, hp⟩ | ⟨g, args, hr, hc⟩⟩
 ·exact .inl ⟨hw, π, st hm (.refl w), by rw [hO]; exact hp⟩
 ·exact .inr ⟨hw, .inl ⟨v, w2, π, hr, st hm hlt, by rw [hO]; exact hp⟩⟩
 ·exact .inr ⟨hw, .inr (.inr ⟨g, args, hr, hc.mono fun e w2 ⟨v, h1, h2, h3⟩ => ⟨v, π, h1, st hm h2, by rw [hO]; exact h3⟩⟩)⟩
theorem zf8 {O : List Nat → List (Option AObj)} {j p : Nat} {o : Oper} {t d : Nat} {r : TRow} (hT : TabOk P T) (hop : o.op = .alloc t) (hg : o.guard = none) (hr : tlook T t = some r) (hdst : o.dst = some d) (hdn : Nat.blt d n = true) (hlook : look envF d = some (.ptr p 0)) (hple : C.π.length ≤ p)
  (hO0 : ∀ L, j ∉ L → (∀ q ∈ L, ∀ q', z1m ops q q' = true → q' ∈ L) → nth (O L) p = some (some HD)) (hO : ∀ L, j ∉ L → (∀ q ∈ L, ∀ q', z1m ops q q' = true → q' ∈ L) → O (j :: L) = zi (O L) p (some (.cells t (r.zero.map fun v => .d (.v v))))) : HeadH P n C O m ops envF j o := by
 intro L _ hjL _ hcl π w tmps hs hm hgk _
 obtain ⟨z, hz1, hz2, hz3, _⟩ := (zt hT hr).zero
 have e : z.cells = r.zero.toArray := by rw [← hz2]
 have hrun : (execOp (Act.eval ⟨tmps, []⟩) o).run P w = .ok (.value (.pointer (some ⟨w.heap.size, 0, none⟩))) (w.alloc (.cells r.zero.toArray t)) := by
  unfold execOp
  rw [hop]
  simp [Instr.alloc, hz1, newVar, z1r, e]
 have hpl := z1w (hO0 L hjL hcl)
 have hml := hm.len
 have hf := fill (w' := w.alloc (.cells r.zero.toArray t)) hm (hO0 L hjL hcl) rfl rfl ⟨rfl, zv (Nat.le_refl _)⟩ (by rw [z17, Array.size_push]; omega) (fun b hb => z15 _ hb) (.pointer (some ⟨w.heap.size, 0, none⟩)) (.cells t (r.zero.map fun v => .d (.v v)))
  (by intro b e; cases e; exact Nat.le_refl _) (.cells (z1k _) (z5m r.zero hz3) hz3)
 refine .inr ⟨by simp [Region.wanted, hg], .inl ⟨_, _, zi π p (.pointer (some ⟨w.heap.size, 0, none⟩)), hrun, ⟨?_, ?_, ?_⟩, ?_⟩⟩
 ·rw [hO L hjL hcl]; exact hf.1
 ·rw [hO L hjL hcl]; exact hf.2.1 hple
 ·rw [hO L hjL hcl]; exact hf.2.2
 ·intro d' hd'
  rw [hdst] at hd'
  cases hd'
  refine ⟨by simpa [Nat.blt_eq] using hdn, _, hlook, ?_⟩
  rw [hO L hjL hcl]
  exact .ptr (by rw [z2s, if_pos rfl, if_pos (by omega)])
theorem zlf (m kk : Nat) (O : List Nat → List (Option AObj)) (envF : Env) {id : Nat} {objsF : List (Option AObj)} (hT : TabOk P T) (hf : P.funcs[f]? = some fn) (hmx : P.follows .mixedOrders = true) (h : srun T n fn.results.toList 2000 True todo env objs = .draw nd id ops k env' objs') (hn : nd)
  (hB : drawZ ops m = true) (hO0 : O [] = objs' ++ List.replicate kk (some HD)) (hOF : ∀ L, (∀ i, i < m → i ∈ L) → O L = objsF)
  (hops : ∀ j o, j < m → ops[j]? = some o → HeadH P n C O m ops envF j o)
  (henv : ∀ t, (∀ j, j < m → dstIs ops j t = false) → ∀ a, look envF t = some a → ∃ b, look env' t = some b ∧ VLe b a)
  (hk : ASat P f n C (.inRegion ops (List.range' m (ops.size - m)) :: k) envF objsF R) (hGk : GOk P C.π C.objs C.w := by with_reducible assumption) : ASat P f n C todo env objs R := by
 suffices hcc : Cont P f n C R (.draw nd id ops k env' objs') from (z1f hT hf 2000 True todo env objs (by rw [h]; exact hcc)).2
 exact ⟨hn, zq1 kk (zft hmx hB hops hO0 hOF henv hk)⟩
theorem z81 {t : Nat} : ∀ {A E : Env}, (∀ x ∈ A, x.1 ≠ t) → look (A ++ E) t = look E t
 | [], _, _ => rfl
 | (d, a) :: r, E, h => by
  have h1 : d ≠ t := h (d, a) (List.mem_cons_self ..)
  show look ((d, a) :: (r ++ E)) t = _
  rw [z4g, if_neg h1]
  exact z81 fun x hx => h x (List.mem_cons_of_mem _ hx)
theorem zk1 {o : Oper} {E : Env} (hl : ∀ t ∈ o.looksAt ops, look envF t = look E t) (hd : ∀ d, o.dst = some d → look envF d = look E d) (h : z8h P n X objs ops E o) : z8h P n X objs ops envF o := by
 intro π w tmps hs hm hgk hlk
 have hlk' : ∀ t ∈ o.looksAt ops, ∀ b, look E t = some b → RelV w (okOf X π objs) π b (tmps.getD t undef) := fun t ht b hb => hlk t ht b (by rw [hl t ht]; exact hb)
 have hp : ∀ {w : World} {v : Value}, PutOk n w (okOf X π objs) π E o v → PutOk n w (okOf X π objs) π envF o v := fun hp u hu => by
  obtain ⟨h1, b, h2, h3⟩ := hp u hu
  exact ⟨h1, b, by rw [hd u hu]; exact h2, h3⟩
 rcases h π w tmps hs hm hgk hlk' with ⟨hw, h1⟩ | ⟨hw, ⟨v, w2, hr, hlt, h1⟩ | ⟨g, args, hr, hc⟩⟩
 ·exact .inl ⟨hw, hp h1⟩
 ·exact .inr ⟨hw, .inl ⟨v, w2, hr, hlt, hp h1⟩⟩
 ·exact .inr ⟨hw, .inr ⟨g, args, hr, hc.mono fun e w2 ⟨v, a1, a2, a3⟩ => ⟨v, a1, a2, hp a3⟩⟩⟩
theorem z6r {O : List Nat → List (Option AObj)} {j : Nat} {o : Oper} {E : Env} {a : AV} {c : Option Prop} (hT : TabOk P T) (hw : wantE ops (restr E (o.looksAt ops)) o = .yes) (hE : ∀ t ∈ o.looksAt ops, ∀ b, look E t = some b → look envF t = some b)
  (hs : ∀ L, j ∉ L → estep T o (restr E (o.looksAt ops)) (O L) = some ⟨c, true, a, none, O (j :: L)⟩) (hc : cond c) (hdst : o.dst = none) : HeadH P n C O m ops envF j o := by
 intro L _ hjL _ _ π w tmps hsz hm hgk hlk
 have he : zz w (okOf C.X π (O L)) π (restr E (o.looksAt ops)) tmps := fun t b ht => by
  obtain ⟨h1, h2⟩ := z28 ht
  exact hlk t h1 b (hE t h1 b h2)
 have hst := z8a (ds := []) hT hm he o
 rw [hs L hjL] at hst
 obtain ⟨v, w', π', h1, h2, _⟩ := hst hc
 refine .inr ⟨(zw he).1 hw, .inr (.inl ⟨w', π', h1, ⟨h2.mem, fun hh => hh.trans h2.hist, h2.keep⟩, fun d hd => ?_⟩)⟩
 rw [hdst] at hd
 cases hd
abbrev Acts := List (Nat × Option (Tmp × AV))
def actE (A : Acts) : Env := A.filterMap (·.2)
def actB (A : Acts) (j : Nat) : Bool := A.any fun x => Nat.beq x.1 j
def z3c (ops : Array Oper) (m : Nat) (A : Acts) : List Oper := ((List.range m).filter fun j => !actB A j).filterMap fun j => ops[j]?
def seeB (ops : Array Oper) (m : Nat) (A : Acts) : Bool := (List.range m).all fun j => actB A j || match ops[j]? with
 | some o => (actE A).all fun x => !(o.looksAt ops).contains x.1 && o.dst != some x.1
 | none => true
theorem z5s (m kk : Nat) (A : Acts) (O : List Nat → List (Option AObj)) (E : Env) {id : Nat} {objsF : List (Option AObj)} (hT : TabOk P T) (hf : P.funcs[f]? = some fn) (hmx : P.follows .mixedOrders = true) (h : srun T n fn.results.toList 2000 True todo env objs = .draw nd id ops k env' objs') (hn : nd)
  (hB : drawZ ops m = true) (hsee : seeB ops m A = true) (hO0 : O [] = objs' ++ List.replicate kk (some HD)) (hOF : ∀ L, (∀ i, i < m → i ∈ L) → O L = objsF) (hOj : ∀ j L, actB A j = false → O (j :: L) = O L)
  (hAm : (A.all fun x => Nat.blt x.1 m) = true) (hD : ∀ L, DSat P n C.X (O L) ops (fun x => x = E) (z3c ops m A) env')
  (hA : ∀ x ∈ A, ∃ oe, ops[x.1]? = some oe ∧ oe.dst = x.2.map (·.1) ∧ HeadH P n C O m ops (actE A ++ E) x.1 oe)
  (hk : ASat P f n C (.inRegion ops (List.range' m (ops.size - m)) :: k) (actE A ++ E) objsF R) (hGk : GOk P C.π C.objs C.w := by with_reducible assumption) : ASat P f n C todo env objs R := by
 have hq : ∀ {j : Nat} {o : Oper}, j < m → actB A j = false → ops[j]? = some o → o ∈ z3c ops m A := by
  intro j o hj hb ho
  unfold z3c
  rw [List.mem_filterMap]
  exact ⟨j, List.mem_filter.2 ⟨List.mem_range.2 hj, by rw [hb]; rfl⟩, ho⟩
 have hns : ∀ {j : Nat} {o : Oper}, j < m → actB A j = false → ops[j]? = some o → ∀ x ∈ actE A, x.1 ∉ o.looksAt ops ∧ o.dst ≠ some x.1 := by
  intro j o hj hb ho x hx
  have h1 := List.all_eq_true.1 hsee j (List.mem_range.2 hj)
  rw [hb, ho] at h1
  have h1' : ((actE A).all fun x => !(o.looksAt ops).contains x.1 && o.dst != some x.1) = true := by simpa only [Bool.false_or] using h1
  have h2 := List.all_eq_true.1 h1' x hx
  simpa using h2
 refine zlf m kk O (actE A ++ E) hT hf hmx h hn hB hO0 hOF ?_ ?_ hk
 ·intro j o hj ho
  cases hb : actB A j with
  | false =>
   refine zp3 (fun L => hOj j L hb) fun L => ?_
   obtain ⟨E0, a1, a2, a3, rfl⟩ := hD L
   have hn2 := hns hj hb ho
   refine zk1 (fun t ht => z81 fun x hx e => (hn2 x hx).1 (e ▸ ht)) (fun d hd => z81 fun x hx e => (hn2 x hx).2 (e ▸ hd)) (a3 o (hq hj hb ho))
  | true =>
   obtain ⟨x, hx, hxe⟩ := List.any_eq_true.1 hb
   obtain rfl : x.1 = j := Nat.eq_of_beq_eq_true hxe
   obtain ⟨oe, h1, _, h3⟩ := hA x hx
   rw [ho] at h1
   cases h1
   exact h3
 ·intro t ht a ha
  have hne : ∀ x ∈ actE A, x.1 ≠ t := by
   rintro x hx rfl
   obtain ⟨y, hy, hyx⟩ := List.mem_filterMap.1 hx
   obtain ⟨oe, h1, h2, _⟩ := hA y hy
   rw [hyx] at h2
   have hym := List.all_eq_true.1 hAm y hy
   have := ht y.1 (by simpa [Nat.blt_eq] using hym)
   rw [z1d.2 ⟨oe, h1, by simpa using h2⟩] at this
   cases this
  rw [z81 hne] at ha
  obtain ⟨E0, a1, a2, a3, rfl⟩ := hD []
  refine a1 t (fun o ho hd => ?_) a ha
  unfold z3c at ho
  rw [List.mem_filterMap] at ho
  obtain ⟨j, hj, ho⟩ := ho
  have hj := List.mem_range.1 (List.mem_filter.1 hj).1
  have := ht j hj
  rw [z1d.2 ⟨o, ho, hd⟩] at this
  cases this
end
end Ab
namespace Ab
open Go
variable [Draws]
theorem ACall.frz (ι : List Nat) {P : Program} [Globals P] {f : FuncId} {az : List AV} {objs o1 o2 : List (Option AObj)} {r1 r2 r3 : AV} {env2 : Env} (h : ACall P f az objs (fun r o => r = r1 ∧ o = o1)) (hz : frzI ι [] o1 [r1] = some (env2, o2, [r2])) (hle : VLe r2 r3) : ACall P f az objs (fun r o => r = r3) := by
 intro X π w vs g m hv
 refine (h X π w vs g m hv).mono ?_
 rintro e w' ⟨v, r, o, π', rfl, ⟨rfl, rfl⟩, hm, hrel, hh⟩
 obtain ⟨m2, h2, _, r2⟩ := z8v (C := ⟨X, π, objs, w, [], fun _ => False⟩) (tmps := #[]) ι hz hm hh (fun t a ht => by simp [look] at ht) (.cons hrel .nil)
 cases r2 with | cons hr _ => exact ⟨v, _, o2, π', rfl, rfl, m2, hle _ _ _ _ hr, h2⟩
end Ab
namespace Ab
open Go
variable [Draws]
theorem ACall.frzO (ι : List Nat) {P : Program} [Globals P] {f : FuncId} {az : List AV} {objs o1 o2 o3 : List (Option AObj)} {r1 r2 r3 : AV} {env2 : Env} (h : ACall P f az objs (fun r o => r = r1 ∧ o = o1)) (hz : frzI ι [] o1 [r1] = some (env2, o2, [r2])) (hle : VLe r2 r3) (hO : subO o3 o2) (hb : refsB o3.length r3 = true) (hro : refsO o3.length o3 = true) (hl : objs.length ≤ o3.length) : ACall P f az objs (fun r o => r = r3 ∧ o = o3) := by
 have h2 : ACall P f az objs (fun r o => r = r2 ∧ o = o2) := by
  intro X π w vs g m hv
  refine (h X π w vs g m hv).mono ?_
  rintro e w' ⟨v, r, o, π', rfl, ⟨rfl, rfl⟩, hm, hrel, hh⟩
  obtain ⟨m2, h2, _, r2⟩ := z8v (C := ⟨X, π, objs, w, [], fun _ => False⟩) (tmps := #[]) ι hz hm hh (fun t a ht => by simp [look] at ht) (.cons hrel .nil)
  cases r2 with | cons hr _ => exact ⟨v, _, o2, π', rfl, ⟨rfl, rfl⟩, m2, hr, h2⟩
 refine h2.less ?_
 rintro r o ⟨rfl, rfl⟩
 exact ⟨r3, o3, ⟨rfl, rfl⟩, hle, hO, hb, hro, hl⟩
end Ab
