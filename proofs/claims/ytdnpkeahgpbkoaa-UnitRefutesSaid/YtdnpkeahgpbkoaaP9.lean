/- A part of the proof: Ab40, Ab41, U27, U28. -/
import Derived.Test.YtdnpkeahgpbkoaaP8
import Derived.OpenShut
set_option linter.unusedVariables false
set_option linter.unusedSimpArgs false
set_option linter.unusedSimpArgs false
set_option linter.unusedVariables false
namespace Ab
open Go

/-- Fields, one behind the other from a place on. -/
structure ReadsF (P : Program) (fs : List Field) (o tot : Nat) {α : Type} (enc : α → List D) (Q : α → Prop) : Prop where
  len : ∀ a, (enc a).length = tot
  rd : ∀ {H : Type} (eH : TypeId × Value → H) (w : World) (fuel : Nat) (cs : List Value) (ok : Nat → Prop), (∀ b, ok b) → (∀ f ∈ fs, ∃ x, DataW.trod eH P w 0 (fun _ => true) true fuel f.type ((cs.drop f.offset).take (P.cellsOf f.type)) = some x) → ∃ a, Q a ∧ RelL w ok (enc a) ((cs.drop o).take tot)

theorem readsF_nil {P : Program} {o : Nat} : ReadsF P [] o 0 (fun _ : Unit => []) (fun _ => True) where
  len _ := rfl
  rd eH w fuel cs ok hok h := ⟨(), trivial, by simpa using .nil⟩
theorem readsF_cons {P : Program} {f : Field} {fs : List Field} {o tot s : Nat} {α β : Type} {eA : α → D} {QA : α → Prop} {eB : β → List D} {QB : β → Prop} (ho : f.offset = o) (hs : P.cellsOf f.type = s) (hA : Reads P f.type eA QA) (hB : ReadsF P fs (o + s) tot eB QB) :
    ReadsF P (f :: fs) o (s + tot) (fun p : α × β => (eA p.1).cells ++ eB p.2) (fun p => QA p.1 ∧ QB p.2) where
  len p := by rw [List.length_append, hA.len, hB.len, hs]
  rd eH w fuel cs ok hok h := by
    obtain ⟨x, hx⟩ := h f List.mem_cons_self
    obtain ⟨a, qa, ra⟩ := hA.rd eH w fuel _ x ok hok hx
    obtain ⟨b, qb, rb⟩ := hB.rd eH w fuel cs ok hok fun g hg => h g (List.mem_cons_of_mem _ hg)
    refine ⟨(a, b), ⟨qa, qb⟩, ?_⟩
    subst ho hs
    have e : (cs.drop f.offset).take (P.cellsOf f.type + tot) = (cs.drop f.offset).take (P.cellsOf f.type) ++ (cs.drop (f.offset + P.cellsOf f.type)).take tot := by
      rw [List.take_add, List.drop_drop]
    rw [e]
    exact ra.append rb
theorem reads_struct {P : Program} {t : TypeId} {fs : Array Field} {tot : Nat} {α : Type} {enc : α → List D} {Q : α → Prop} (ht : P.underlying t = some (.struct fs)) (hs : P.cellsOf t = tot) (h : ReadsF P fs.toList 0 tot enc Q) : Reads P t (fun a => .ag (enc a)) Q where
  len a := by rw [hs]; exact h.len a
  rd eH w fuel cs x ok hok hx := by
    obtain ⟨xs, n, rfl, rfl, hl, hlen, hf⟩ := DataW.trod_struct ht hx
    obtain ⟨a, qa, ra⟩ := h.rd eH w n cs ok hok (fun f hf' => by
      obtain ⟨i, hi, rfl⟩ := List.mem_iff_getElem.1 hf'
      have hi' : i < fs.size := by simpa using hi
      obtain ⟨x, hx⟩ := fld_at (fun i f hif => hf i f hif) hlen i hi'
      exact ⟨x, by simpa using hx⟩)
    refine ⟨a, qa, ?_⟩
    rw [List.drop_zero, List.take_of_length_le (by omega)] at ra
    exact ra
theorem arr_read {P : Program} {e : TypeId} {s : Nat} {α : Type} {enc : α → D} {Q : α → Prop} (he : P.cellsOf e = s) (R : Reads P e enc Q) {H : Type} (eH : TypeId × Value → H) (w : World) (m : Nat) (ok : Nat → Prop) (hok : ∀ b, ok b) {cs : List Value} {n : Nat} (hx : ∀ i, i < n → ∃ x, DataW.trod eH P w 0 (fun _ => true) true m e ((cs.drop (i * P.cellsOf e)).take (P.cellsOf e)) = some x) :
    ∀ k, k ≤ n → ∃ l : List α, l.length = k ∧ (∀ a ∈ l, Q a) ∧ RelL w ok (l.flatMap fun a => (enc a).cells) (cs.take (k * s))
  | 0, _ => ⟨[], rfl, by simp, by simpa using .nil⟩
  | k + 1, hk => by
    obtain ⟨l, h1, h2, h3⟩ := arr_read he R eH w m ok hok hx k (by omega)
    obtain ⟨x, hx⟩ := hx k (by omega)
    obtain ⟨a, qa, ra⟩ := R.rd eH w m _ x ok hok hx
    refine ⟨l ++ [a], by simp [h1], ?_, ?_⟩
    · intro b hb
      rcases List.mem_append.1 hb with hb | hb
      · exact h2 b hb
      · rw [List.mem_singleton.1 hb]; exact qa
    · rw [List.flatMap_append, Nat.add_mul, Nat.one_mul, List.take_add]
      rw [he] at ra
      refine h3.append ?_
      simpa using ra

theorem reads_arr {P : Program} {t e : TypeId} {n s : Nat} {α : Type} {enc : α → D} {Q : α → Prop} (ht : P.underlying t = some (.array n e)) (he : P.cellsOf e = s) (hs : P.cellsOf t = n * s) (d0 : D) (R : Reads P e enc Q) :
    ∀ {H : Type} (eH : TypeId × Value → H) (w : World) (fuel : Nat) (cs : List Value) (x : DataW H × List MemPlace) (ok : Nat → Prop), (∀ b, ok b) → DataW.trod eH P w 0 (fun _ => true) true fuel t cs = some x → ∃ l : List α, l.length = n ∧ (∀ a ∈ l, Q a) ∧ RelL w ok (l.flatMap fun a => (enc a).cells) cs := by
  intro H eH w fuel cs x ok hok hx
  obtain ⟨xs, m, rfl, rfl, hl, hlen, hf⟩ := DataW.trod_array ht hx
  obtain ⟨l, h1, h2, h3⟩ := arr_read he R eH w m ok hok (cs := cs) (n := n) (fun i hi => by
    have := hf i hi
    rw [List.getElem?_eq_getElem (by omega : i < xs.length)] at this
    exact ⟨_, this⟩) n (Nat.le_refl _)
  refine ⟨l, h1, h2, ?_⟩
  rw [List.take_of_length_le (by omega)] at h3
  exact h3
/-- Arrays of three. -/
theorem reads_arr3 {P : Program} {t e : TypeId} {s : Nat} {α : Type} {enc : α → D} {Q : α → Prop} (ht : P.underlying t = some (.array 3 e)) (he : P.cellsOf e = s) (hs : P.cellsOf t = 3 * s) (R : Reads P e enc Q) :
    Reads P t (fun p : α × α × α => .ag ((enc p.1).cells ++ (enc p.2.1).cells ++ (enc p.2.2).cells)) (fun p => Q p.1 ∧ Q p.2.1 ∧ Q p.2.2) where
  len p := by
    show ((enc p.1).cells ++ (enc p.2.1).cells ++ (enc p.2.2).cells).length = _
    rw [List.length_append, List.length_append, R.len, R.len, R.len, hs, he]
    omega
  rd eH w fuel cs x ok hok hx := by
    obtain ⟨l, h1, h2, h3⟩ := reads_arr ht he hs (.v .nilIface) R eH w fuel cs x ok hok hx
    match l, h1 with
    | [a, b, c], _ =>
      refine ⟨(a, b, c), ⟨h2 a (by simp), h2 b (by simp), h2 c (by simp)⟩, ?_⟩
      show RelL w ok ((enc a).cells ++ (enc b).cells ++ (enc c).cells) cs
      simpa [List.flatMap_cons, List.append_assoc] using h3

/-- From the row's reading to an argument that is a struct. -/
theorem Reads.argS {P : Program} {t : TypeId} {α : Type} {enc : α → D} {Q : α → Prop} (R : Reads P t enc Q) {H : Type} {eH : TypeId × Value → H} {W : World} {cs : Array Value} {d : DataW H} {p : List MemPlace} (h : DataW.Trod eH P W 0 (fun _ => true) true t (.agg cs) d p) (ok : Nat → Prop) (hok : ∀ b, ok b) :
    ∃ a, Q a ∧ RelL W ok (enc a).cells cs.toList := by
  obtain ⟨fuel, hf⟩ := h
  exact R.rd eH W fuel cs.toList _ ok hok hf
theorem relV_ofS {w : World} {ok : Nat → Prop} {π : List Value} {ds : List D} {cs : Array Value} (h : RelL w ok ds cs.toList) : RelV w ok π (.d (.ag ds)) (.agg cs) := by
  have := RelV.d (π := π) (RelD.ag h)
  simpa using this
/-- What follows is shown once for all ways that come there. -/
theorem letK {p q : Prop} (h : p → q) (k : p) : q := h k
end Ab
set_option linter.unusedSimpArgs false
set_option linter.unusedVariables false
namespace Ab
open Go

section
variable {P : Program} {T : Tab} {f : FuncId} {fn : Func} {n : Nat} {C : Cx} {R : AV → List (Option AObj) → Prop} {todo todo' : List Item} {env env' env2 : Env} {objs objs' objs2 : List (Option AObj)} {nd : Prop}

theorem freeze_core (i : Nat) {e : TypeId} {s : Nat} {xs : List D} {rd : Nat → D} (ho : nth objs i = some (some (.grow e s xs rd))) {π : List Value} {w : World} {tmps : Array Value} (hm : Mem C.X π objs w) (hh : Hist C.π C.objs C.w π objs w) (he : EnvRel w (okOf C.X π objs) π env tmps) {az : List AV} {vs : List Value} (hvs : RelVs w (okOf C.X π objs) π az vs) :
    Mem C.X π (frzO i (.sl s xs rd) 0 objs) w ∧ Hist C.π C.objs C.w π (frzO i (.sl s xs rd) 0 objs) w ∧ EnvRel w (okOf C.X π (frzO i (.sl s xs rd) 0 objs)) π (frzE i (.sl s xs rd) env) tmps ∧ RelVs w (okOf C.X π (frzO i (.sl s xs rd) 0 objs)) π (AV.frzs i (.sl s xs rd) az) vs := by
  have hold : ∀ {j : Nat} {o1 : AObj}, nth (frzO i (.sl s xs rd) 0 objs) j = some (some o1) → j ≠ i ∧ ∃ o2, nth objs j = some (some o2) ∧ o1 = o2.frz i (.sl s xs rd) := by
    intro j o1 hj
    obtain ⟨h1, h2⟩ := frzO_nth hj
    exact ⟨by omega, h2⟩
  have hk : Keeps w (okOf C.X π objs) w (okOf C.X π (frzO i (.sl s xs rd) 0 objs)) := by
    refine fun b o u h1 h2 => ⟨⟨h1.1, fun j o1 h hj hp => ?_⟩, h2⟩
    obtain ⟨_, o2, h3, _⟩ := hold hj
    exact h1.2 j o2 h h3 hp
  have hx : ∀ h, nth π i = some h → isSl h = true → RelD w (okOf C.X π (frzO i (.sl s xs rd) 0 objs)) (.sl s xs rd) h := by
    intro h hp hsl
    obtain ⟨h', hp', hrel⟩ := hm.obj i _ ho
    rw [hp] at hp'
    cases hp'
    cases hrel with
    | gnil => exact .nil (Nat.zero_le _)
    | grow hb hz he hu hc hmx ho2 hr2 =>
      refine .sl (he.mono hk) (fun q hq => ⟨⟨hm.ext i _ _ _ ho hp rfl, fun j o1 h hj hpj => ?_⟩, ?_⟩) hc hmx hr2
      · obtain ⟨hne, o2, h3, _⟩ := hold hj
        intro e
        exact hm.dist j i o2 _ h _ _ hne h3 ho hpj hp e rfl
      · rw [cell_of_heap hb]
        exact hu q hq
  refine ⟨⟨by rw [frzO_len]; exact hm.len, ?_, ?_, ?_, hm.inX⟩, ⟨hh.os, hh.tape, hh.output, hh.size, hh.heap, ?_, hh.hand⟩, ?_, hvs.frz hk hx⟩
  · intro j o1 hj
    obtain ⟨_, o2, h3, rfl⟩ := hold hj
    obtain ⟨h, h5, h6⟩ := hm.obj j o2 h3
    exact ⟨h, h5, h6.frz hk hx (fun _ _ => rfl)⟩
  · intro j j' o1 o2 h1 h2 b hne a1 a2
    obtain ⟨_, p1, b1, _⟩ := hold a1
    obtain ⟨_, p2, b2, _⟩ := hold a2
    exact hm.dist j j' p1 p2 h1 h2 b hne b1 b2
  · intro j o1 h b a1
    obtain ⟨_, p1, b1, _⟩ := hold a1
    exact hm.ext j p1 h b b1
  · intro j o1 h b a1
    obtain ⟨_, p1, b1, _⟩ := hold a1
    exact hh.own j p1 h b b1
  · intro t a ht
    rw [look_frzE] at ht
    cases hl : look env t with
    | none => rw [hl] at ht; cases ht
    | some b =>
      rw [hl] at ht
      simp only [Option.map_some, Option.some.injEq] at ht
      subst ht
      exact (he t b hl).frz hk hx

def frzI : List Nat → Env → List (Option AObj) → List AV → Option (Env × List (Option AObj) × List AV)
  | [], env, objs, az => some (env, objs, az)
  | i :: r, env, objs, az => match nth objs i with
    | some (some (.grow _ s xs rd)) => frzI r (frzE i (.sl s xs rd) env) (frzO i (.sl s xs rd) 0 objs) (AV.frzs i (.sl s xs rd) az)
    | _ => none
theorem freeze_all {π : List Value} {w : World} {tmps : Array Value} {vs : List Value} : ∀ (ι : List Nat) {env : Env} {objs : List (Option AObj)} {az : List AV} {env2 : Env} {objs2 : List (Option AObj)} {as2 : List AV}, frzI ι env objs az = some (env2, objs2, as2) →
    Mem C.X π objs w → Hist C.π C.objs C.w π objs w → EnvRel w (okOf C.X π objs) π env tmps → RelVs w (okOf C.X π objs) π az vs →
    Mem C.X π objs2 w ∧ Hist C.π C.objs C.w π objs2 w ∧ EnvRel w (okOf C.X π objs2) π env2 tmps ∧ RelVs w (okOf C.X π objs2) π as2 vs
  | [], _, _, _, _, _, _, h, hm, hh, he, hv => by
    simp only [frzI, Option.some.injEq, Prod.mk.injEq] at h
    obtain ⟨rfl, rfl, rfl⟩ := h
    exact ⟨hm, hh, he, hv⟩
  | i :: r, _, _, _, _, _, _, h, hm, hh, he, hv => by
    simp only [frzI] at h
    split at h
    · rename_i ho
      obtain ⟨a, b, c, d⟩ := freeze_core i ho hm hh he hv
      exact freeze_all r h a b c d
    · cases h

/-- What is put into a temporary, though the environment is told in other words. -/
theorem put_any {dst : Option Tmp} {a b : AV} {e : Env} (h : putE n dst a env = some e) (env3 : Env) : putE n dst b env3 = some (putD dst b env3) := by
  cases dst with
  | none => rfl
  | some d =>
    simp only [putE] at h ⊢
    cases hb : Nat.blt d n with
    | false => rw [hb] at h; cases h
    | true => rfl

theorem sat_callF (ι : List Nat) {g : FuncId} {az as2 bs : List AV} {dst : Option Tmp} {R' : AV → List (Option AObj) → Prop} (hT : TabOk P T) (hf : P.funcs[f]? = some fn) (h : srun T n fn.results.toList 2000 True todo env objs = .call nd g az dst todo' env' objs') (hn : nd)
    (hz : frzI ι env' objs' az = some (env2, objs2, as2)) (hc : ACall P g bs [] R') (hv : VLs as2 bs) (hd : refsBs 0 bs = true) (hdst : ∃ e, putE n dst .dead env' = some e) (hr : ∀ r o, R' r o → refsB 0 r = true) (k : ∀ r o, R' r o → ASat P f n C todo' (putD dst r env2) objs2 R) : ASat P f n C todo env objs R := by
  suffices hcc : Cont P f n C R (.call nd g az dst todo' env' objs') from (run_sound hT hf 2000 True todo env objs (by rw [h]; exact hcc)).2
  refine ⟨hn, hdst, fun π w tmps hs hm hh he vs hvs => ?_⟩
  obtain ⟨hm2, hh2, he2, hvs2⟩ := freeze_all ι hz hm hh he hvs
  have h1 : RelVs w (okOf (Xof C.X π objs2) [] []) [] bs vs := (hv.rel hvs2).cut (m := 0) (fun b o u a1 a2 => ⟨Xof_ok.2 a1, a2⟩) (fun j _ hj => absurd hj (Nat.not_lt_zero j)) hd
  refine (hc _ _ w vs (mem_nil hm2) h1).mono ?_
  rintro e w' ⟨v, r, o, π', rfl, hR, hm', hrel, hhist⟩
  refine ⟨v, rfl, ?_⟩
  have htr := (hist_later hhist).tr hm2
  obtain ⟨e, hput⟩ := hdst
  have hrv : RelV w' (okOf C.X π objs2) π r v := by
    refine hrel.cut (m := 0) (fun b o u a1 a2 => ⟨?_, a2⟩) (fun j _ hj => absurd hj (Nat.not_lt_zero j)) (hr r o hR)
    exact Xof_ok.1 ⟨a1.1, fun i o h h1 => by simp [nth] at h1⟩
  obtain ⟨p1, p2⟩ := put_rel (env_tr he2 htr) hs (put_any hput env2) hrv
  exact k r o hR π w' _ p2 htr.mem (hist_tr hh2 htr) p1
end

theorem CLes.refl : ∀ l : List D, CLes l l
  | [] => trivial
  | x :: r => ⟨.refl x, CLes.refl r⟩
theorem CLes.append : ∀ {a a' b b' : List D}, CLes a a' → CLes b b' → CLes (a ++ b) (a' ++ b')
  | [], [], _, _, _, h => h
  | x :: r, y :: s, _, _, h, k => ⟨h.1, CLes.append h.2 k⟩
  | [], _ :: _, _, _, h, _ => h.elim
  | _ :: _, [], _, _, h, _ => h.elim
theorem OLe.growC {e : TypeId} {s : Nat} {xs ys : List D} {rd rd' : Nat → D} (h : CLes xs ys) (hr : ∀ i, i < ys.length → ys[i]? = some (rd' i)) : OLe (.grow e s xs rd) (.grow e s ys rd') := by
  intro w ok π v hh
  have hl := h.len
  cases hh with
  | gnil =>
    cases ys with
    | nil => exact .gnil
    | cons _ _ => exact h.elim
  | grow a b c d e f g h2 =>
    rw [hl] at e ⊢
    exact .grow a b (h.rel c) d e f g hr
theorem OLe.gL_c {α : Type} {t : TypeId} {s : Nat} {e : α → D} {d : α} {l : List α} {xs : List D} {rd : Nat → D} (h : CLes xs (l.map e)) : OLe (.grow t s xs rd) (Ab.gL t s e d l) := .growC h (map_rd e d l)
theorem VLe.eL_c {α : Type} {s : Nat} {e : α → D} {d : α} {l : List α} {xs : List D} {rd : Nat → D} (h : CLes xs (l.map e)) : VLe (.d (.sl s xs rd)) (.d (Ab.eL s e d l)) := .sl_c (.sl h (map_rd e d l))
/-- A literal row. -/
theorem CLe.lit {α : Type} {s : Nat} (e : α → D) (d : α) (l : List α) {xs : List D} (h : xs = l.map e) : CLe (.sl s xs (litRd xs)) (eL s e d l) := by
  subst h
  exact CLe.sl (CLes.refl _) (map_rd e d l)
end Ab
namespace Go.Proofs.Ytdnpkeahgpbkoaa
open Go Ab
set_option maxRecDepth 100000
set_option linter.unusedVariables false
set_option linter.unusedSimpArgs false

theorem fo_subst {l l' : List (List Int)} {a a' : List Int} (hl : ∀ c ∈ l, c ∈ l') (ha : ∀ x ∈ a, Fo l' a' x) {x : Int} (h : Fo l a x) : Fo l' a' x := by
  induction h with
  | mem hx => exact ha _ hx
  | unit hc hx _ ih => exact .unit (hl _ hc) hx ih
theorem cf_subst {l l' : List (List Int)} {a a' : List Int} (hl : ∀ c ∈ l, c ∈ l') (ha : ∀ x ∈ a, Fo l' a' x) (h : Cf l a) : Cf l' a' := by
  rcases h with ⟨x, h1, h2⟩ | ⟨c, hc, hall⟩
  · exact .inl ⟨x, fo_subst hl ha h1, fo_subst hl ha h2⟩
  · exact .inr ⟨c, hl c hc, fun y hy => fo_subst hl ha (hall y hy)⟩
theorem lits_append (l k : List (List Int)) : lits (l ++ k) = lits l + lits k := by simp [lits]
theorem in_false (l : List Int) (x : Int) (h : x ∉ l) : ACall Try.prog 21 [.d (eIs l), vI .i64 x] [] (fun r o => r = vB false) :=
  (In_call l x).mono fun r o hr => by rw [hr]; simp [h]

theorem UnitMore_law (n : Int) (l : List (List Int)) (c more : List Int) (hll : l.length ≤ maxLen) (hlc : ∀ c ∈ l, c.length ≤ maxLen) (hcm : c.length ≤ maxLen) (hmm : more.length ≤ maxLen) : ACall Try.prog 5 [.d (.ag [eI n, eIss l, eIs c, eIs more])] [] (fun r _ => r = vB true) := by
  refine acall_enter Try.func5 rfl rfl (Nat.le_of_ble_eq_true rfl) fun C hC hCl => ?_
  refine sat_call tabOk Try.func5 rfl trivial shown_call trivial rfl ⟨_, rfl⟩ (by rintro r o rfl; rfl) ?_
  rintro r o rfl
  refine sat_call tabOk Try.func5 rfl trivial (may_call n l c hll hlc hcm) (.refl _) rfl ⟨_, rfl⟩ (by rintro r o ⟨b, rfl, _⟩; rfl) ?_
  rintro r o ⟨b, rfl, hmay⟩
  refine sat_branch tabOk Try.func5 rfl trivial (fun h => ?_) (fun h => ?_)
  · refine sat_branch tabOk Try.func5 rfl trivial (fun _ => ?_) (fun h => by cases h)
    refine sat_branch tabOk Try.func5 rfl trivial (fun _ => ?_) (fun h => by cases h)
    exact sat_ret tabOk Try.func5 rfl trivial rfl
  have hb : b = true := by simpa using h
  have hm := hmay hb
  obtain ⟨hok, hn1, hlt0, hc40⟩ := may_ok hm
  have hl40 : l.length ≤ 40 := hm.2.2.1
  refine sat_call tabOk Try.func5 rfl trivial (may_call n [] more (Nat.zero_le _) (by simp) hmm) ⟨.refl _, .nil, .refl _, trivial⟩ rfl ⟨_, rfl⟩ (by rintro r o ⟨b, rfl, _⟩; rfl) ?_
  rintro r o ⟨b2, rfl, hmay2⟩
  refine sat_branch tabOk Try.func5 rfl trivial (fun h => ?_) (fun h => ?_)
  · refine sat_branch tabOk Try.func5 rfl trivial (fun _ => ?_) (fun h => by cases h)
    exact sat_ret tabOk Try.func5 rfl trivial rfl
  have hb2 : b2 = true := by simpa using h
  have hm2 := hmay2 hb2
  refine sat_branch tabOk Try.func5 rfl trivial (fun h => ?_) (fun h => ?_)
  · exact sat_ret tabOk Try.func5 rfl trivial rfl
  have hsub : ∀ d ∈ l, d ∈ l ++ [more] := fun d hd => List.mem_append_left _ hd
  have hok2 : Okl n (l ++ [more]) c := ⟨hok.n0, fun d hd => by
    rcases List.mem_append.1 hd with hd | hd
    · exact hok.cl d hd
    · rw [List.mem_singleton.1 hd]; exact hm2.2.2.2.2.2, hok.asm⟩
  have hlits2 : lits (l ++ [more]) ≤ 1000000 := by
    rw [lits_append]
    have : lits [more] = more.length := by simp [lits]
    have := hm2.2.2.2.2.1
    omega
  have hmono : Cf l c → Cf (l ++ [more]) c := cf_subst hsub fun x hx => .mem hx
  refine sat_call tabOk Try.func5 rfl trivial (close_c hok hn1 (by omega)) (.refl _) rfl ⟨_, rfl⟩ closeR_refs ?_
  rintro r o (⟨rfl, hcf⟩ | ⟨xs, rfl, hx⟩)
  · refine sat_callF [1] tabOk Try.func5 rfl (by simp only [andP, and_true, true_and, Int.toNat_natCast, List.length_map, List.length_append, List.length_cons, List.length_nil, List.length_replicate]; omega) rfl (close_c hok2 hn1 hlits2) ⟨.refl _, .eL (by rw [List.map_append]; rfl), .refl _, trivial⟩ rfl ⟨_, rfl⟩ closeR_refs ?_
    rintro r o (⟨rfl, _⟩ | ⟨ys, rfl, hy⟩)
    · refine sat_branch tabOk Try.func5 rfl trivial (fun _ => ?_) (fun h => by cases h)
      refine sat_branch tabOk Try.func5 rfl trivial (fun _ => ?_) (fun h => by cases h)
      refine sat_branch tabOk Try.func5 rfl trivial (fun _ => ?_) (fun h => by cases h)
      exact sat_ret tabOk Try.func5 rfl trivial rfl
    · exact absurd (hmono hcf) hy.1
  refine sat_callF [1] tabOk Try.func5 rfl (by simp only [andP, and_true, true_and, Int.toNat_natCast, List.length_map, List.length_append, List.length_cons, List.length_nil, List.length_replicate]; omega) rfl (close_c hok2 hn1 hlits2) ⟨.refl _, .eL (by rw [List.map_append]; rfl), .refl _, trivial⟩ rfl ⟨_, rfl⟩ closeR_refs ?_
  rintro r o hr2
  obtain ⟨y, other, rfl, hother⟩ : ∃ (y : D) (other : Bool), r = .tp [.d y, vB other] ∧ ((other = true ∧ y = .v (.slice none 0 0)) ∨ (other = false ∧ ∃ ys, y = eIs ys ∧ Clo (l ++ [more]) c ys)) := by
    rcases hr2 with ⟨rfl, _⟩ | ⟨ys, rfl, hy⟩
    · exact ⟨_, _, rfl, .inl ⟨rfl, rfl⟩⟩
    · exact ⟨_, _, rfl, .inr ⟨rfl, ys, rfl, hy⟩⟩
  have hokx : Okl n l xs := ⟨hok.n0, hok.cl, fun x hm => fo_lit hok ((hx.2.2 x).1 hm)⟩
  have hxf : ∀ {y}, Fo l xs y → Fo l c y := fun h => fo_subst (fun _ h => h) (fun x hm => (hx.2.2 x).1 hm) h
  refine sat_branch tabOk Try.func5 rfl trivial (fun h => by cases h) (fun _ => ?_)
  refine sat_call tabOk Try.func5 rfl trivial (close_c hokx hn1 (by omega)) (.refl _) rfl ⟨_, rfl⟩ closeR_refs ?_
  rintro r o (⟨rfl, hcf⟩ | ⟨zs, rfl, hz⟩)
  · exact absurd (cf_subst (fun _ h => h) (fun x hm => (hx.2.2 x).1 hm) hcf) hx.1
  obtain rfl : zs = xs := pw_unique hz.2.1 hx.2.1 fun z => by
    rw [hz.2.2, hx.2.2]
    exact ⟨hxf, fun h => .mem ((hx.2.2 z).2 h)⟩
  refine sat_branch tabOk Try.func5 rfl trivial (fun h => by cases h) (fun _ => ?_)
  refine sat_call tabOk Try.func5 rfl trivial (Ints_call zs zs) (.refl _) rfl ⟨_, rfl⟩ (by rintro r o rfl; rfl) ?_
  rintro r o rfl
  refine sat_branch tabOk Try.func5 rfl trivial (fun h => by simp at h) (fun _ => ?_)
  refine sat_len (t := 8) rfl fun hlx => ?_
  rw [List.length_map] at hlx
  refine sat_stop tabOk Try.func5 rfl trivial ?_
  refine sat_while (α := Nat) (fun i => [(5, .d (eIs c)), (7, vB true), (8, .d (eIs zs)), (11, .d y), (12, vB other), (15, vI .i64 i)]) (fun _ => []) (fun i => i ≤ zs.length) (fun i => zs.length - i) 0 (Nat.zero_le _) ?_ ?_
  · refine fun h => sat_le h hC hCl ⟨⟨_, rfl, .refl _⟩, ⟨_, rfl, .refl _⟩, ⟨_, rfl, .refl _⟩, ⟨_, rfl, .refl _⟩, ⟨_, rfl, .refl _⟩, ⟨_, rfl, .refl _⟩, trivial⟩ trivial ?_ rfl (Nat.zero_le _)
    rcases hother with ⟨_, rfl⟩ | ⟨_, ys, rfl, _⟩ <;> rfl
  rintro i hi ih
  refine sat_branch tabOk Try.func5 rfl trivial (fun hb => ?_) (fun hb => ?_) <;> simp only [decide_eq_true_eq, decide_eq_false_iff_not, List.length_map] at hb
  · have hlt : i < zs.length := by omega
    have hget : zs.getD i 0 = zs[i] := by simp [hlt]
    have hmem := List.getElem_mem hlt
    generalize hxx : zs[i] = x at *
    obtain ⟨b1, b2⟩ := litOk_b (hokx.asm x hmem) hn1
    have e1 : IntKind.i64.wrap (0 - x) = -x := by rw [wrap_id (by omega) (by omega), Int.zero_sub]
    have hnx : -x ∉ zs := fun hh => hx.1 (.inl ⟨x, (hx.2.2 x).1 hmem, (hx.2.2 _).1 hh⟩)
    refine sat_call tabOk Try.func5 rfl (by simp only [andP, and_true, true_and, Int.toNat_natCast, List.length_map, List.length_append, List.length_cons, List.length_nil, List.length_replicate]; omega) (in_false zs (-x) hnx) ⟨.refl _, .of (by show vI .i64 (IntKind.i64.wrap (0 - zs.getD i 0)) = _; rw [hget, e1]), trivial⟩ rfl ⟨_, rfl⟩ (by rintro r o rfl; rfl) ?_
    rintro r o rfl
    refine sat_branch tabOk Try.func5 rfl trivial (fun h => by cases h) (fun _ => ?_)
    rcases hother with ⟨rfl, rfl⟩ | ⟨rfl, ys, rfl, hy⟩
    · refine sat_branch tabOk Try.func5 rfl trivial (fun h => by cases h) (fun _ => ?_)
      refine sat_branch tabOk Try.func5 rfl trivial (fun h => by cases h) (fun _ => ?_)
      refine sat_stop tabOk Try.func5 rfl trivial ?_
      exact sat_le (ih (i + 1) (by omega) (by omega)) hC hCl ⟨⟨_, rfl, .refl _⟩, ⟨_, rfl, .refl _⟩, ⟨_, rfl, .refl _⟩, ⟨_, rfl, .refl _⟩, ⟨_, rfl, .refl _⟩, ⟨_, rfl, .of (by rw [wrap_id (by omega) (by omega)]; rfl)⟩, trivial⟩ trivial rfl rfl (Nat.zero_le _)
    · refine sat_branch tabOk Try.func5 rfl trivial (fun _ => ?_) (fun h => by cases h)
      have hxy : x ∈ ys := (hy.2.2 x).2 (fo_subst hsub (fun z hz => .mem hz) ((hx.2.2 x).1 hmem))
      refine sat_call tabOk Try.func5 rfl (by simp only [andP, and_true, true_and, Int.toNat_natCast, List.length_map, List.length_append, List.length_cons, List.length_nil, List.length_replicate]; omega) (in_true ys x hxy) ⟨.refl _, .of (by show vI .i64 (zs.getD i 0) = _; rw [hget]), trivial⟩ rfl ⟨_, rfl⟩ (by rintro r o rfl; rfl) ?_
      rintro r o rfl
      refine sat_branch tabOk Try.func5 rfl trivial (fun h => by cases h) (fun _ => ?_)
      refine sat_stop tabOk Try.func5 rfl trivial ?_
      exact sat_le (ih (i + 1) (by omega) (by omega)) hC hCl ⟨⟨_, rfl, .refl _⟩, ⟨_, rfl, .refl _⟩, ⟨_, rfl, .refl _⟩, ⟨_, rfl, .refl _⟩, ⟨_, rfl, .refl _⟩, ⟨_, rfl, .of (by rw [wrap_id (by omega) (by omega)]; rfl)⟩, trivial⟩ trivial rfl rfl (Nat.zero_le _)
  clear ih
  refine sat_stop tabOk Try.func5 rfl trivial ?_
  refine sat_while (α := Nat) (fun i => [(5, .d (eIs c)), (7, vB true), (8, .d (eIs zs)), (16, vI .i64 i)]) (fun _ => []) (fun i => i ≤ c.length) (fun i => c.length - i) 0 (Nat.zero_le _) ?_ ?_
  · exact fun h => sat_le h hC hCl ⟨⟨_, rfl, .refl _⟩, ⟨_, rfl, .refl _⟩, ⟨_, rfl, .refl _⟩, ⟨_, rfl, .refl _⟩, trivial⟩ trivial rfl rfl (Nat.zero_le _)
  rintro i hi ih
  refine sat_branch tabOk Try.func5 rfl trivial (fun hb => ?_) (fun hb => ?_) <;> simp only [decide_eq_true_eq, decide_eq_false_iff_not, List.length_map] at hb
  · have hlt : i < c.length := by omega
    have hget : c.getD i 0 = c[i] := by simp [hlt]
    have hmem := List.getElem_mem hlt
    generalize hxx : c[i] = x at *
    refine sat_call tabOk Try.func5 rfl (by simp only [andP, and_true, true_and, Int.toNat_natCast, List.length_map, List.length_append, List.length_cons, List.length_nil, List.length_replicate]; omega) (in_true zs x ((hx.2.2 x).2 (.mem hmem))) ⟨.refl _, .of (by show vI .i64 (c.getD i 0) = _; rw [hget]), trivial⟩ rfl ⟨_, rfl⟩ (by rintro r o rfl; rfl) ?_
    rintro r o rfl
    refine sat_branch tabOk Try.func5 rfl trivial (fun h => by cases h) (fun _ => ?_)
    refine sat_stop tabOk Try.func5 rfl trivial ?_
    exact sat_le (ih (i + 1) (by omega) (by omega)) hC hCl ⟨⟨_, rfl, .refl _⟩, ⟨_, rfl, .refl _⟩, ⟨_, rfl, .refl _⟩, ⟨_, rfl, .of (by rw [wrap_id (by omega) (by omega)]; rfl)⟩, trivial⟩ trivial rfl rfl (Nat.zero_le _)
  · exact sat_ret tabOk Try.func5 rfl trivial rfl
end Go.Proofs.Ytdnpkeahgpbkoaa
namespace Go.Proofs.Ytdnpkeahgpbkoaa
open Go Ab
set_option maxRecDepth 100000
set_option linter.unusedVariables false
set_option linter.unusedSimpArgs false

theorem fo_nil {a : List Int} {x : Int} (h : Fo [] a x) : x ∈ a := by
  cases h with
  | mem h => exact h
  | unit hc _ _ => simp at hc
theorem cf_nil {c : List Int} : Cf [] (c.map fun x => -x) ↔ ∃ x ∈ c, -x ∈ c := by
  constructor
  · rintro (⟨x, h1, h2⟩ | ⟨c, hc, _⟩)
    · obtain ⟨y, hy, e⟩ := List.mem_map.1 (fo_nil h1)
      obtain ⟨z, hz, e2⟩ := List.mem_map.1 (fo_nil h2)
      exact ⟨y, hy, by rw [show -y = z by omega]; exact hz⟩
    · simp at hc
  · rintro ⟨x, h1, h2⟩
    exact .inl ⟨x, .mem (List.mem_map.2 ⟨-x, h2, by omega⟩), .mem (List.mem_map.2 ⟨x, h1, rfl⟩)⟩
theorem cf_own {l : List (List Int)} {c : List Int} (h : c ∈ l) : Cf l (c.map fun x => -x) := .inr ⟨c, h, fun y hy => .mem (List.mem_map.2 ⟨y, hy, rfl⟩)⟩

theorem UnitRefutes_law (n : Int) (l : List (List Int)) (c more : List Int) (hll : l.length ≤ maxLen) (hlc : ∀ c ∈ l, c.length ≤ maxLen) (hcm : c.length ≤ maxLen) (hmm : more.length ≤ maxLen) : ACall Try.prog 8 [.d (.ag [eI n, eIss l, eIs c, eIs more])] [] (fun r _ => r = vB true) := by
  have hml : maxLen = 9223372036854775807 := rfl
  refine acall_enter Try.func8 rfl rfl (Nat.le_of_ble_eq_true rfl) fun C hC hCl => ?_
  refine sat_call tabOk Try.func8 rfl trivial shown_call trivial rfl ⟨_, rfl⟩ (by rintro r o rfl; rfl) ?_
  rintro r o rfl
  refine sat_call tabOk Try.func8 rfl trivial (may_call n l c hll hlc hcm) (.refl _) rfl ⟨_, rfl⟩ (by rintro r o ⟨b, rfl, _⟩; rfl) ?_
  rintro r o ⟨b, rfl, hmay⟩
  refine sat_branch tabOk Try.func8 rfl trivial (fun h => ?_) (fun h => ?_)
  · refine sat_branch tabOk Try.func8 rfl trivial (fun _ => ?_) (fun h => by cases h)
    refine sat_branch tabOk Try.func8 rfl trivial (fun _ => ?_) (fun h => by cases h)
    exact sat_ret tabOk Try.func8 rfl trivial rfl
  have hb : b = true := by simpa using h
  have hm := hmay hb
  obtain ⟨hok, hn1, hlt0, hc40⟩ := may_ok hm
  have hl40 : l.length ≤ 40 := hm.2.2.1
  refine sat_call tabOk Try.func8 rfl trivial (may_call n [] more (Nat.zero_le _) (by simp) hmm) ⟨.refl _, .nil, .refl _, trivial⟩ rfl ⟨_, rfl⟩ (by rintro r o ⟨b, rfl, _⟩; rfl) ?_
  rintro r o ⟨b2, rfl, hmay2⟩
  refine sat_branch tabOk Try.func8 rfl trivial (fun h => ?_) (fun h => ?_)
  · refine sat_branch tabOk Try.func8 rfl trivial (fun _ => ?_) (fun h => by cases h)
    exact sat_ret tabOk Try.func8 rfl trivial rfl
  have hb2 : b2 = true := by simpa using h
  have hm2 := hmay2 hb2
  refine sat_branch tabOk Try.func8 rfl trivial (fun h => ?_) (fun h => ?_)
  · exact sat_ret tabOk Try.func8 rfl trivial rfl
  have hm40 : more.length ≤ 40 := hm2.2.2.2.2.1
  refine sat_stop tabOk Try.func8 rfl (by simp only [andP, and_true, true_and, Int.toNat_natCast, List.length_map, List.length_append, List.length_cons, List.length_nil, List.length_replicate]; omega) ?_
  refine sat_while (α := Nat) (fun i => [(3, vI .i64 n), (4, .d (eIss l)), (5, .d (eIs c)), (7, vB true), (8, .gs 1), (9, vI .i64 i)]) (fun _ => [none, some (gIs (c ++ more))]) (fun i => i ≤ l.length) (fun i => l.length - i) 0 (Nat.zero_le _) ?_ ?_
  · exact fun h => sat_le h hC hCl ⟨⟨_, rfl, .refl _⟩, ⟨_, rfl, .refl _⟩, ⟨_, rfl, .refl _⟩, ⟨_, rfl, .refl _⟩, ⟨_, rfl, .refl _⟩, ⟨_, rfl, .refl _⟩, trivial⟩ ⟨.gL (by rw [List.map_append]), trivial⟩ rfl rfl (Nat.zero_le _)
  rintro i hi ih
  refine sat_branch tabOk Try.func8 rfl trivial (fun hb => ?_) (fun hb => ?_) <;> simp only [decide_eq_true_eq, decide_eq_false_iff_not, List.length_map] at hb
  · have hlt : i < l.length := by omega
    have hget : l.getD i [] = l[i] := by simp [hlt]
    have hmem := List.getElem_mem hlt
    generalize hxx : l[i] = d at *
    refine sat_call tabOk Try.func8 rfl (by simp only [andP, and_true, true_and, Int.toNat_natCast, List.length_map, List.length_append, List.length_cons, List.length_nil, List.length_replicate]; omega) (refutes_c (c := d) ⟨hok.n0, hok.cl, hok.cl d hmem⟩ hn1 (by omega) (by have := (hm.2.2.2.1 d hmem).1; omega)) ⟨.refl _, .refl _, .of (by show AV.d (eIs (l.getD i [])) = _; rw [hget]), trivial⟩ rfl ⟨_, rfl⟩ refR_refs ?_
    rintro r o ⟨b3, rfl, hb3⟩
    have : b3 = true := hb3.2 (cf_own hmem)
    subst this
    refine sat_branch tabOk Try.func8 rfl trivial (fun h => by cases h) (fun _ => ?_)
    refine sat_stop tabOk Try.func8 rfl trivial ?_
    exact sat_le (ih (i + 1) (by omega) (by omega)) hC hCl ⟨⟨_, rfl, .refl _⟩, ⟨_, rfl, .refl _⟩, ⟨_, rfl, .refl _⟩, ⟨_, rfl, .refl _⟩, ⟨_, rfl, .refl _⟩, ⟨_, rfl, .of (by rw [wrap_id (by omega) (by omega)]; rfl)⟩, trivial⟩ ⟨.refl _, trivial⟩ rfl rfl (Nat.zero_le _)
  clear ih
  refine sat_stop tabOk Try.func8 rfl trivial ?_
  refine sat_while (α := Nat × Bool) (fun s => [(3, vI .i64 n), (4, .d (eIss l)), (5, .d (eIs c)), (7, vB true), (8, .gs 1), (10, vB s.2), (11, vI .i64 s.1)]) (fun _ => [none, some (gIs (c ++ more))]) (fun s => s.1 ≤ c.length ∧ (s.2 = true ↔ ∃ x ∈ c.take s.1, -x ∈ c)) (fun s => c.length - s.1) (0, false) ⟨Nat.zero_le _, by simp⟩ ?_ ?_
  · exact fun h => sat_le h hC hCl ⟨⟨_, rfl, .refl _⟩, ⟨_, rfl, .refl _⟩, ⟨_, rfl, .refl _⟩, ⟨_, rfl, .refl _⟩, ⟨_, rfl, .refl _⟩, ⟨_, rfl, .refl _⟩, ⟨_, rfl, .refl _⟩, trivial⟩ ⟨.refl _, trivial⟩ rfl rfl (Nat.zero_le _)
  rintro ⟨i, tw⟩ ⟨hi, htw⟩ ih
  simp only at hi htw ⊢
  refine sat_branch tabOk Try.func8 rfl trivial (fun hb => ?_) (fun hb => ?_) <;> simp only [decide_eq_true_eq, decide_eq_false_iff_not, List.length_map] at hb
  · have hlt : i < c.length := by omega
    have hget : c.getD i 0 = c[i] := by simp [hlt]
    have htk : c.take (i + 1) = c.take i ++ [c[i]] := by rw [List.take_add_one]; simp [hlt]
    have hmem := List.getElem_mem hlt
    generalize hxx : c[i] = x at *
    obtain ⟨b1, b2⟩ := litOk_b (hok.asm x hmem) hn1
    have e1 : IntKind.i64.wrap (0 - x) = -x := by rw [wrap_id (by omega) (by omega), Int.zero_sub]
    have hex : (∃ y ∈ c.take (i + 1), -y ∈ c) ↔ (∃ y ∈ c.take i, -y ∈ c) ∨ -x ∈ c := by
      rw [htk]
      constructor
      · rintro ⟨y, hy, h⟩
        rcases List.mem_append.1 hy with hy | hy
        · exact .inl ⟨y, hy, h⟩
        · rw [List.mem_singleton.1 hy] at h; exact .inr h
      · rintro (⟨y, hy, h⟩ | h)
        · exact ⟨y, List.mem_append_left _ hy, h⟩
        · exact ⟨x, by simp, h⟩
    refine sat_branch tabOk Try.func8 rfl trivial (fun h1 => ?_) (fun h1 => ?_)
    · refine sat_stop tabOk Try.func8 rfl trivial ?_
      exact sat_le (ih (i + 1, true) ⟨by simp; omega, by show (true = true ↔ _); rw [hex]; exact ⟨fun _ => .inl (htw.1 h1), fun _ => rfl⟩⟩ (by simp; omega)) hC hCl ⟨⟨_, rfl, .refl _⟩, ⟨_, rfl, .refl _⟩, ⟨_, rfl, .refl _⟩, ⟨_, rfl, .refl _⟩, ⟨_, rfl, .refl _⟩, ⟨_, rfl, .refl _⟩, ⟨_, rfl, .of (by rw [wrap_id (by omega) (by omega)]; rfl)⟩, trivial⟩ ⟨.refl _, trivial⟩ rfl rfl (Nat.zero_le _)
    · refine sat_call tabOk Try.func8 rfl (by simp only [andP, and_true, true_and, Int.toNat_natCast, List.length_map, List.length_append, List.length_cons, List.length_nil, List.length_replicate]; omega) (In_call c (-x)) ⟨.refl _, .of (by show vI .i64 (IntKind.i64.wrap (0 - c.getD i 0)) = _; rw [hget, e1]), trivial⟩ rfl ⟨_, rfl⟩ (by rintro r o rfl; rfl) ?_
      rintro r o rfl
      refine sat_stop tabOk Try.func8 rfl trivial ?_
      refine sat_le (ih (i + 1, c.contains (-x)) ⟨by simp; omega, by
        simp only
        rw [hex]
        have : ¬ ∃ y ∈ c.take i, -y ∈ c := fun h => by rw [htw.2 h] at h1; cases h1
        simp [this]⟩ (by simp; omega)) hC hCl ⟨⟨_, rfl, .refl _⟩, ⟨_, rfl, .refl _⟩, ⟨_, rfl, .refl _⟩, ⟨_, rfl, .refl _⟩, ⟨_, rfl, .refl _⟩, ⟨_, rfl, .refl _⟩, ⟨_, rfl, .of (by rw [wrap_id (by omega) (by omega)]; rfl)⟩, trivial⟩ ⟨.refl _, trivial⟩ rfl rfl (Nat.zero_le _)
  obtain rfl : i = c.length := by omega
  rw [List.take_length] at htw
  clear ih
  have hokb : Okl n l (c ++ more) := ⟨hok.n0, hok.cl, fun x hx => by
    rcases List.mem_append.1 hx with hx | hx
    · exact hok.asm x hx
    · exact hm2.2.2.2.2.2 x hx⟩
  have hmono : Cf l (c.map fun x => -x) → Cf l ((c ++ more).map fun x => -x) := cf_subst (fun _ h => h) fun x hx => .mem (by rw [List.map_append]; exact List.mem_append_left _ hx)
  have hok0 : Okl n [] c := ⟨hok.n0, by simp, hok.asm⟩
  refine sat_branch tabOk Try.func8 rfl trivial (fun _ => ?_) (fun h => by cases h)
  refine sat_call tabOk Try.func8 rfl trivial (refutes_c hok hn1 (by omega) (by omega)) (.refl _) rfl ⟨_, rfl⟩ refR_refs ?_
  rintro r o ⟨b3, rfl, hb3⟩
  have hfin : ∀ b5 : Bool, (b5 = true ↔ Cf [] (c.map fun x => -x)) → b5 = tw := fun b5 h => by
    rw [cf_nil, ← htw] at h
    cases b5 <;> cases tw <;> simp_all
  refine sat_branch tabOk Try.func8 rfl trivial (fun h1 => ?_) (fun h1 => ?_)
  · refine sat_branch tabOk Try.func8 rfl trivial (fun _ => ?_) (fun h => by cases h)
    refine sat_call tabOk Try.func8 rfl trivial (refutes_c hok0 hn1 (by simp [lits]) (by omega)) ⟨.refl _, .nil, .refl _, trivial⟩ rfl ⟨_, rfl⟩ refR_refs ?_
    rintro r o ⟨b5, rfl, hb5⟩
    obtain rfl := hfin b5 hb5
    refine sat_ret tabOk Try.func8 rfl trivial ?_
    show vB _ = vB true
    simp
  · refine sat_callL tabOk Try.func8 rfl trivial (refutes_c hokb hn1 (by omega) (by simp; omega)) ⟨.inl (.refl _), .inl (.refl _), .inr ⟨1, 3, 1, _, _, _, rfl, rfl, rfl, map_rd eI 0 _⟩, trivial⟩ rfl ⟨_, rfl⟩ (by rintro r o ⟨b, rfl, _⟩; rfl) ?_
    rintro r o ⟨b4, rfl, hb4⟩
    have : b4 = true := hb4.2 (hmono (hb3.1 (by simpa using h1)))
    subst this
    refine sat_branch tabOk Try.func8 rfl trivial (fun _ => ?_) (fun h => by cases h)
    refine sat_call tabOk Try.func8 rfl trivial (refutes_c hok0 hn1 (by simp [lits]) (by omega)) ⟨.refl _, .nil, .refl _, trivial⟩ rfl ⟨_, rfl⟩ refR_refs ?_
    rintro r o ⟨b5, rfl, hb5⟩
    obtain rfl := hfin b5 hb5
    refine sat_ret tabOk Try.func8 rfl trivial ?_
    show vB _ = vB true
    simp
end Go.Proofs.Ytdnpkeahgpbkoaa
