/- Operations that only read: addresses, fields, cuts, lengths, conversions. -/
import Derived.Test.YtdnpkeahgpbkoaaAb6
namespace Ab
open Go

def pField (T : Tab) (t : TypeId) (f : Nat) (x : AV) : PR :=
  match tlook T t with
  | none => .no
  | some r => match r.kd with
    | .struct fs => match nth fs f with
      | none => .no
      | some fl => match x with
        | .ag cs => cut1 fl.agg fl.size fl.off cs
        | .d (.ag cs) => cut1 fl.agg fl.size fl.off (cs.map .d)
        | _ => .no
    | _ => .no

theorem flds_get {P : Program} : ∀ {fs : List Fld} {gs : List Field} (_ : fldsOk P fs gs = true) {n : Nat} {f : Fld}, nth fs n = some f →
    ∃ g i, gs[n]? = some g ∧ f.off = g.offset ∧ P.info? g.type = some i ∧ i.size = f.size ∧ (∃ d, P.underlying g.type = some d) ∧ Pagg P g.type = f.agg
  | [], [], _, _, _, h => by simp [nth] at h
  | [], _ :: _, h, _, _, _ => by simp [fldsOk] at h
  | _ :: _, [], h, _, _, _ => by simp [fldsOk] at h
  | f :: fs, g :: gs, h, 0, x, hx => by
    simp only [nth, Option.some.injEq] at hx
    subst hx
    simp only [fldsOk, Bool.and_eq_true, beq_iff_eq] at h
    obtain ⟨⟨⟨⟨h1, h2⟩, h3⟩, h4⟩, _⟩ := h
    split at h2
    · rename_i i hi
      exact ⟨g, i, by simp, h1, hi, by simpa using h2, Option.isSome_iff_exists.1 h3, h4⟩
    · cases h2
  | f :: fs, g :: gs, h, n + 1, x, hx => by
    simp only [fldsOk, Bool.and_eq_true] at h
    obtain ⟨g', i, h1, h2⟩ := flds_get h.2 (n := n) (f := x) hx
    exact ⟨g', i, by simpa using h1, h2⟩

theorem struct_fields {P : Program} {T : Tab} (hT : TabOk P T) {t : TypeId} {r : TRow} (hr : tlook T t = some r) {fs : List Fld} (hk : r.kd = .struct fs) : ∃ gs : Array Field, P.underlying t = some (.struct gs) ∧ fldsOk P fs gs.toList = true := by
  obtain ⟨i, d, hi, hd, _, _, _, hkd⟩ := (tab_row hT hr).ex
  rw [hk] at hkd
  cases d <;> simp only [kdOk] at hkd <;> first | exact ⟨_, hd, hkd⟩ | (exact absurd hkd (by simp))

theorem run_isAgg {P : Program} {t : TypeId} {d : TypeDesc} (hd : P.underlying t = some d) (w : World) : (isAgg t).run P w = .ok (Pagg P t) w := by
  simp only [isAgg, Sem.run_bind, run_underlying hd, Result.andThen_ok, Pagg, hd]
  cases d <;> simp
theorem run_sizeOf {P : Program} {t : TypeId} {i : TypeInfo} (hi : P.info? t = some i) (w : World) : (Go.sizeOf t).run P w = .ok i.size w := by
  simp [Go.sizeOf, run_typeInfo w hi, Result.andThen]

theorem cut_part {P : Program} {w : World} {ok : Nat → Prop} {π : List Value} {t : TypeId} {d : TypeDesc} {i : TypeInfo} (hi : P.info? t = some i) (hd : P.underlying t = some d) {off : Nat} {cs : List AV} {us : List Value} (h : RelVs w ok π cs us) (hf : ∀ v ∈ us, flat v = true)
    {a : AV} (hc : cut1 (Pagg P t) i.size off cs = .ok a) : Yields P w ok π a (part t us.toArray off) := by
  unfold cut1 at hc
  split at hc
  · rename_i ha
    split at hc
    · rename_i vs hv
      cases hc
      obtain ⟨e1, e2⟩ := takeN_eq hv
      rw [dropN_eq] at e1
      refine ⟨.agg ((us.drop off).take i.size).toArray, ?_, fun w' _ => ?_⟩
      · rw [e1]
        exact mkAg_rel ((h.drop_ off).take i.size) (fun v hv => hf v (List.mem_of_mem_drop (List.mem_of_mem_take hv)))
      · simp only [part, Sem.run_bind, run_isAgg hd, Result.andThen_ok, ha, if_true, run_sizeOf hi, Sem.run_pure]
        congr 2
        simp [List.extract_eq_take_drop]
    · cases hc
  · rename_i ha
    split at hc
    · rename_i x hx
      cases hc
      obtain ⟨v, hv, hrel⟩ := h.get hx
      exact ⟨v, hrel, fun w' _ => by simp [part, run_isAgg hd, ha, hv]⟩
    · cases hc

theorem cut1_cases (b : Bool) (s o : Nat) (cs : List AV) : (∃ a, cut1 b s o cs = .ok a) ∨ cut1 b s o cs = .no := by
  unfold cut1
  split <;> split <;> simp

theorem pField_ok {P : Program} {T : Tab} (hT : TabOk P T) {w : World} {ok : Nat → Prop} {π : List Value} {t : TypeId} {f : Nat} {x : AV} {v : Value} (hx : RelV w ok π x v) : PRok P w ok π (pField T t f x) (Instr.field t v f) := by
  unfold pField
  split
  · trivial
  · rename_i r hr
    split
    · rename_i fs hk
      obtain ⟨gs, hgs, hfo⟩ := struct_fields hT hr hk
      split
      · trivial
      · rename_i fl hfl
        obtain ⟨g, i, hg, hoff, hi, hsz, ⟨d, hd⟩, hag⟩ := flds_get hfo hfl
        have hg' : gs[f]? = some g := by simpa using hg
        split
        · rename_i cs
          cases hx with
          | ag h hf =>
            rcases cut1_cases fl.agg fl.size fl.off cs with ⟨a, hc⟩ | hc
            · rw [hc]
              rw [← hag, ← hsz, hoff] at hc
              obtain ⟨u, h1, h2⟩ := cut_part (P := P) hi hd h hf hc
              exact ⟨u, h1, fun w' hw => by simp [Instr.field, run_underlying hgs, hg', asAgg, h2 w' hw]⟩
            · rw [hc]; trivial
        · rename_i cs
          cases hx with
          | d h => cases h with
            | ag h =>
              rcases cut1_cases fl.agg fl.size fl.off (cs.map .d) with ⟨a, hc⟩ | hc
              · rw [hc]
                rw [← hag, ← hsz, hoff] at hc
                obtain ⟨u, h1, h2⟩ := cut_part (P := P) hi hd (h.toVs (π := π)) h.flat hc
                exact ⟨u, h1, fun w' hw => by simp [Instr.field, run_underlying hgs, hg', asAgg, h2 w' hw]⟩
              · rw [hc]; trivial
        · trivial
    · trivial

def pFieldAddr (T : Tab) (t : TypeId) (f : Nat) (x : AV) : PR :=
  match tlook T t with
  | none => .no
  | some r => match r.kd with
    | .struct fs => match nth fs f with
      | none => .no
      | some fl => match fl.size with
        | 0 => .no
        | _ + 1 => match x with
          | .ptr i off => .ok (.ptr i (off + fl.off))
          | .ro cs => .ok (.ro (dropN fl.off cs))
          | .ge i s j off => .ok (.ge i s j (off + fl.off))
          | _ => .no
    | _ => .no

theorem pFieldAddr_ok {P : Program} {T : Tab} (hT : TabOk P T) {w : World} {ok : Nat → Prop} {π : List Value} {t : TypeId} {f : Nat} {x : AV} {v : Value} (hx : RelV w ok π x v) : PRok P w ok π (pFieldAddr T t f x) (Instr.fieldAt t v f) := by
  unfold pFieldAddr
  split
  · trivial
  · rename_i r hr
    split
    · rename_i fs hk
      obtain ⟨gs, hgs, hfo⟩ := struct_fields hT hr hk
      split
      · trivial
      · rename_i fl hfl
        obtain ⟨g, i, hg, hoff, hi, hsz, ⟨d, hd⟩, hag⟩ := flds_get hfo hfl
        have hg' : gs[f]? = some g := by simpa using hg
        split
        · trivial
        · rename_i n hn
          have hne : i.size ≠ 0 := by omega
          have hrun : ∀ b o (w' : World), (Instr.fieldAt t (.pointer (some ⟨b, o, none⟩)) f).run P w' = .ok (.pointer (some ⟨b, o + fl.off, none⟩)) w' := by
            intro b o w'
            simp [Instr.fieldAt, run_underlying hgs, hg', Instr.sureAddr, fieldPlace, run_sizeOf hi, hne, addr_add, hoff]
          split
          · cases hx with
            | ptr h => exact ⟨_, .ptr h, fun w' _ => hrun _ _ _⟩
          · cases hx with
            | ro h hm =>
              refine ⟨_, .ro (us := _) (by rw [dropN_eq]; exact h.drop fl.off) (fun j hj => ?_), fun w' _ => hrun _ _ _⟩
              rw [List.length_drop] at hj
              have := hm (fl.off + j) (by omega)
              rw [Nat.add_assoc, List.getElem?_drop]
              exact this
          · cases hx with
            | ge h =>
              refine ⟨_, ?_, fun w' _ => hrun _ _ _⟩
              rw [Nat.add_assoc]
              exact .ge h
          · trivial
    · trivial

def asNat : AV → Option Nat
  | .d (.v (.int _ (.ofNat n))) => some n
  | _ => none

def pIndexAddr (T : Tab) (t : TypeId) (objs : List (Option AObj)) (x ix : AV) : PR :=
  match tlook T t with
  | none => .no
  | some r => match r.kd with
    | .slice e => match tlook T e with
      | none => .no
      | some re => match ix with
        | .d (.v (.int _ i)) => match x with
          | .d (.sl s xs rd) => match Nat.beq re.size s with
            | true => .iff (0 ≤ i ∧ i < xs.length) (.ro (rd i.toNat).cells)
            | false => .no
          | .gs k => match objAt objs k with
            | some (.grow _ s xs _) => match Nat.beq re.size s with
              | true => .iff (0 ≤ i ∧ i < xs.length) (.ge k s i.toNat 0)
              | false => .no
            | _ => .no
          | _ => .no
        | _ => .no
    | .array n e => match tlook T e with
      | none => .no
      | some re => match asNat ix with
        | some i => match Nat.blt i n with
          | true => match x with
            | .ptr k off => .ok (.ptr k (off + i * re.size))
            | .ro cs => .ok (.ro (dropN (i * re.size) cs))
            | _ => .no
          | false => .no
        | none => .no
    | _ => .no

theorem slice_elem {P : Program} {T : Tab} (hT : TabOk P T) {t : TypeId} {r : TRow} (hr : tlook T t = some r) {e : TypeId} (hk : r.kd = .slice e) : P.underlying t = some (.slice e) := by
  obtain ⟨i, d, hi, hd, _, _, _, hkd⟩ := (tab_row hT hr).ex
  rw [hk] at hkd
  cases d <;> simp only [kdOk] at hkd <;> first | (rw [hd]; congr 2; exact (by simpa using hkd : e = _).symm) | (exact absurd hkd (by simp))
theorem array_elem {P : Program} {T : Tab} (hT : TabOk P T) {t : TypeId} {r : TRow} (hr : tlook T t = some r) {n : Nat} {e : TypeId} (hk : r.kd = .array n e) : P.underlying t = some (.array n e) := by
  obtain ⟨i, d, hi, hd, _, _, _, hkd⟩ := (tab_row hT hr).ex
  rw [hk] at hkd
  cases d <;> simp only [kdOk] at hkd <;> first | (simp only [Bool.and_eq_true, beq_iff_eq] at hkd; rw [hd, hkd.1, hkd.2]) | (exact absurd hkd (by simp))

theorem pIndexAddr_ok {P : Program} {T : Tab} (hT : TabOk P T) {X : Nat → Prop} {π : List Value} {objs : List (Option AObj)} {w : World} (m : Mem X π objs w) {t : TypeId} {x ix : AV} {v vi : Value}
    (hx : RelV w (okOf X π objs) π x v) (hi : RelV w (okOf X π objs) π ix vi) : PRok P w (okOf X π objs) π (pIndexAddr T t objs x ix) (Instr.indexAt t v vi) := by
  unfold pIndexAddr
  split
  · trivial
  · rename_i r hr
    split
    · rename_i e hk
      have hu := slice_elem hT hr hk
      split
      · trivial
      · rename_i re hre
        have hsz := (tab_row hT hre).sizeOf
        split
        · rename_i k i
          cases hi with | d hi => cases hi with | v _ =>
          split
          · rename_i s xs rd
            split
            · rename_i hs
              have hs' : re.size = s := by simpa using hs
              intro hc
              cases hx with
              | d hx => cases hx with
                | nil _ => exact absurd hc.2 (by simp; omega)
                | sl he hm hcap hmax hrd =>
                  rename_i b o c us
                  have hj : i.toNat < xs.length := by omega
                  have hcell := he.get hj
                  have hx' := hrd _ hj
                  rw [List.getElem?_eq_getElem hj] at hx'
                  have hx' : xs[i.toNat] = rd i.toNat := by simpa using hx'
                  rw [hx'] at hcell
                  have hlen := he.length
                  refine ⟨.pointer (some ⟨b, o + i.toNat * s, none⟩), .ro hcell (fun q hq => ?_), fun w' _ => ?_⟩
                  · rw [List.length_take, List.length_drop] at hq
                    have := hm (i.toNat * s + q) (by omega)
                    rw [Nat.add_assoc, List.getElem?_take, if_pos (by omega), List.getElem?_drop]
                    exact this
                  · simp [Instr.indexAt, asIntOf, run_underlying hu, hsz, hs', hc, addr_add]
            · trivial
          · rename_i kk
            split
            · rename_i e' s xs rd ho
              split
              · rename_i hs
                have hs' : re.size = s := by simpa using hs
                intro hc
                obtain ⟨h, hp, hrel⟩ := m.obj _ _ (objAt_eq ho)
                cases hx with
                | gs hh =>
                  rw [hh] at hp
                  cases hp
                  cases hrel with
                  | gnil => exact absurd hc.2 (by simp; omega)
                  | grow hb hz he hu2 hc2 hm2 ho2 hr2 =>
                    rename_i b o c us vs fz
                    refine ⟨.pointer (some ⟨b, o + i.toNat * s + 0, none⟩), .ge hh, fun w' _ => ?_⟩
                    simp [Instr.indexAt, asIntOf, run_underlying hu, hsz, hs', hc, addr_add]
              · trivial
            · trivial
          · trivial
        · trivial
    · rename_i n e hk
      have hu := array_elem hT hr hk
      split
      · trivial
      · rename_i re hre
        have hsz := (tab_row hT hre).sizeOf
        split
        · rename_i i hni
          split
          · rename_i hlt
            have hlt' : i < n := by simpa [Nat.blt_eq] using hlt
            obtain ⟨k, rfl⟩ : ∃ k, ix = .d (.v (.int k (Int.ofNat i))) := by
              unfold asNat at hni
              split at hni
              · cases hni; exact ⟨_, rfl⟩
              · cases hni
            cases hi with | d hi => cases hi with | v _ =>
            have hrun : ∀ b o (w' : World), (Instr.indexAt t (.pointer (some ⟨b, o, none⟩)) (.int k (Int.ofNat i))).run P w' = .ok (.pointer (some ⟨b, o + i * re.size, none⟩)) w' := by
              intro b o w'
              simp [Instr.indexAt, asIntOf, run_underlying hu, hsz, Instr.sureAddr, addr_add]
              omega
            split
            · cases hx with
              | ptr h => exact ⟨_, .ptr h, fun w' _ => hrun _ _ _⟩
            · cases hx with
              | ro h hm =>
                refine ⟨_, .ro (us := _) (by rw [dropN_eq]; exact h.drop _) (fun j hj => ?_), fun w' _ => hrun _ _ _⟩
                rw [List.length_drop] at hj
                have := hm (i * re.size + j) (by omega)
                rw [Nat.add_assoc, List.getElem?_drop]
                exact this
            · trivial
          · trivial
        · trivial
    · trivial

end Ab
