/- A part of the proof: Ab48, Ab49, K31, K32, K33, K34, K35. -/
import Derived.Test.YtjjlipbddlignaaGreatDoorP10
import Derived.Lib.UnsafeStr
import Derived.Lib.Builder
set_option linter.unusedVariables false
set_option linter.unusedSimpArgs false
set_option linter.unusedSimpArgs false
set_option linter.unusedVariables false
set_option linter.unusedSectionVars false
namespace Ab
open Go
variable [Draws]

section
variable {P : Program} [Globals P] {T : Tab} {f : FuncId} {fn : Func} {n : Nat} {C : Cx} {R : AV → List (Option AObj) → Prop} {todo todo' k : List Item} {env env' : Env} {objs objs' : List (Option AObj)} {nd : Prop} {ops : Array Oper}

theorem sat_quiet {i : Nat} {r : List Nat} {o : Oper} {e : Env} (a : AV) (ho : ops[i]? = some o) (hw : wantE ops env o = .yes)
    (hdo : ∀ X π w tmps, Mem X π objs w → EnvRel w (okOf X π objs) π env tmps → ∃ v, (execOp (Act.eval ⟨tmps, []⟩) o).run P w = .ok (.value v) w ∧ RelV w (okOf X π objs) π a v) (hput : putE n o.dst a env = some e)
    (h : ASat P f n C (.inRegion ops r :: k) e objs R) : ASat P f n C (.inRegion ops (i :: r) :: k) env objs R := by
  refine sat_op ⟨none, false, a, none, objs⟩ ho hw (fun X π w tmps m he _ => ?_) trivial hput h
  obtain ⟨v, h1, h2⟩ := hdo X π w tmps m he
  exact ⟨v, w, π, h1, tr_plain m rfl rfl ⟨rfl, dr_mono (Nat.le_refl _)⟩ (Nat.le_refl _) (fun _ _ => rfl), fun _ => h2⟩

theorem ptr_cells {X : Nat → Prop} {π : List Value} {w : World} (m : Mem X π objs w) {i off : Nat} {e : TypeId} {cs : List AV} {v : Value} (ho : nth objs i = some (some (.cells e cs))) (h : RelV w (okOf X π objs) π (.ptr i off) v) :
    ∃ b, v = .pointer (some ⟨b, off, none⟩) ∧ w.shape? b = some (e, cs.length) := by
  cases h with
  | ptr hp =>
    obtain ⟨h', hp', hrel⟩ := m.obj i _ ho
    rw [hp] at hp'
    cases hp'
    cases hrel with
    | cells hb hcs hf =>
      refine ⟨_, rfl, ?_⟩
      rw [World.shape?, hb]
      simp [hcs.length]

/-- A pointer turned to unsafe.Pointer. -/
theorem sat_toUnsafe {i : Nat} {r : List Nat} {o : Oper} {e : Env} {src dst t el : TypeId} {x : Operand} {j : Nat} {cs : List AV} {sz : Nat} (ho : ops[i]? = some o) (hw : wantE ops env o = .yes) (hop : o.op = .convert src dst x) (hx : opnd env x = some (.ptr j 0))
    (hobj : nth objs j = some (some (.cells el cs))) (hc : 0 < cs.length) (hs : P.underlying src = some (.pointer t)) (hd : P.underlying dst = some .unsafePointer) (ht0 : (P.info? t).map (·.size) = some (sz + 1)) (hput : putE n o.dst (.ptr j 0) env = some e)
    (h : ASat P f n C (.inRegion ops r :: k) e objs R) : ASat P f n C (.inRegion ops (i :: r) :: k) env objs R := by
  obtain ⟨inf, ht, hz0⟩ := Option.map_eq_some_iff.1 ht0
  refine sat_quiet (.ptr j 0) ho hw (fun X π w tmps m he => ?_) hput h
  have hv := opnd_rel (ds := []) he hx
  obtain ⟨b, hb, hsh⟩ := ptr_cells m hobj hv
  have hrun := Go.Lib.run_to_unsafe (P := P) (w := w) ⟨b, 0, none⟩ hs hd ht (by omega) hsh (by simpa using hc)
  refine ⟨_, ?_, hv⟩
  unfold execOp
  simp only [hop, hb]
  simp only [Sem.run_bind, hrun, Result.andThen_ok, Sem.run_pure]
theorem sat_fromUnsafe {i : Nat} {r : List Nat} {o : Oper} {e : Env} {src dst t el : TypeId} {x : Operand} {j : Nat} {cs : List AV} {sz : Nat} (ho : ops[i]? = some o) (hw : wantE ops env o = .yes) (hop : o.op = .convert src dst x) (hx : opnd env x = some (.ptr j 0))
    (hobj : nth objs j = some (some (.cells el cs))) (hs : P.underlying src = some .unsafePointer) (hd : P.underlying dst = some (.pointer t)) (ht0 : (P.info? t).map (·.size) = some sz) (hl : liesAt P P.depth el (cs.length / P.cellsOf el) 0 t 1 = true) (hput : putE n o.dst (.ptr j 0) env = some e)
    (h : ASat P f n C (.inRegion ops r :: k) e objs R) : ASat P f n C (.inRegion ops (i :: r) :: k) env objs R := by
  obtain ⟨inf, ht, hz0⟩ := Option.map_eq_some_iff.1 ht0
  refine sat_quiet (.ptr j 0) ho hw (fun X π w tmps m he => ?_) hput h
  have hv := opnd_rel (ds := []) he hx
  obtain ⟨b, hb, hsh⟩ := ptr_cells m hobj hv
  have hrun := Go.Lib.run_from_unsafe (P := P) (w := w) ⟨b, 0, none⟩ hs hd ht hsh hl
  refine ⟨_, ?_, hv⟩
  unfold execOp
  simp only [hop, hb]
  simp only [Sem.run_bind, hrun, Result.andThen_ok, Sem.run_pure]
/-- A pointer is the same as itself. -/
theorem sat_neqSame {i : Nat} {r : List Nat} {o : Oper} {e : Env} {tp te ty el : TypeId} {x y : Operand} {j : Nat} {cs : List AV} {sz : Nat} (ho : ops[i]? = some o) (hw : wantE ops env o = .yes) (hop : o.op = .binOp .neq tp x y ty) (hx : opnd env x = some (.ptr j 0)) (hy : opnd env y = some (.ptr j 0))
    (hobj : nth objs j = some (some (.cells el cs))) (hp : P.underlying tp = some (.pointer te)) (ht0 : (P.info? te).map (·.size) = some sz) (hput : putE n o.dst (.lit false) env = some e)
    (h : ASat P f n C (.inRegion ops r :: k) e objs R) : ASat P f n C (.inRegion ops (i :: r) :: k) env objs R := by
  obtain ⟨inf, ht, hz0⟩ := Option.map_eq_some_iff.1 ht0
  refine sat_quiet (.lit false) ho hw (fun X π w tmps m he => ?_) hput h
  have hv := opnd_rel (ds := []) he hx
  have hv2 := opnd_rel (ds := []) he hy
  obtain ⟨b, hb, hsh⟩ := ptr_cells m hobj hv
  obtain ⟨b2, hb2, hsh2⟩ := ptr_cells m hobj hv2
  have hbb : b2 = b := by
    rw [hb] at hv
    rw [hb2] at hv2
    cases hv with | ptr h1 => cases hv2 with | ptr h2 => rw [h1] at h2; cases h2; rfl
  subst hbb
  have hrun := Go.Lib.run_neq_ptr_same (P := P) (w := w) ⟨b2, 0, none⟩ hp ht
  refine ⟨.bool false, ?_, .lit⟩
  have hg : (eqGuard .neq tp x y (.pointer (some ⟨b2, 0, none⟩)) (.pointer (some ⟨b2, 0, none⟩))).run P w = .ok () w := by simp [eqGuard]
  unfold execOp
  simp only [hop, hb, hb2]
  simp only [Sem.run_bind, hg, Result.andThen_ok, hrun, Sem.run_pure]

/-! ### The bytes of a slice as a string -/
def eU8 (b : UInt8) : D := .v (.int .u8 (b.toNat : Int))

/-- An object is let go; in its block nothing is kept but its cells. -/
theorem tr_gone {X : Nat → Prop} {π : List Value} {w w' : World} (m : Mem X π objs w) {j : Nat} {o : AObj} {h : Value} (ho : nth objs j = some (some o)) (hp : nth π j = some h) (hos : w'.os = w.os) (htape : w'.tape = w.tape) (hout : w'.output = w.output ∧ dr w ≤ dr w') (hsz : w.heap.size ≤ w'.heap.size)
    (hw : ∀ b, b < w.heap.size → blk h ≠ some b → w'.heap[b]? = w.heap[b]?) : Tr X π objs w none π (setNth objs j none) w' := by
  have hold : ∀ {i : Nat} {o' : AObj}, nth (setNth objs j none) i = some (some o') → i ≠ j ∧ nth objs i = some (some o') := by
    intro i o' hi
    rcases nth_setNth hi with ⟨_, h1⟩ | ⟨h1, h2⟩
    · cases h1
    · exact ⟨h1, h2⟩
  have hk : Keeps w (okOf X π objs) w' (okOf X π (setNth objs j none)) := by
    intro b off u h1 h2
    have hb := cell_lt h2
    refine ⟨⟨h1.1, fun i o' h' h3 h4 => h1.2 i o' h' (hold h3).2 h4⟩, ?_⟩
    have := hw b hb (h1.2 j o h ho hp)
    unfold World.cell? at h2 ⊢
    rw [this]
    exact h2
  have hkeep : ∀ {i : Nat} {o' : AObj} {h' : Value}, i ≠ j → nth objs i = some (some o') → nth π i = some h' → ∀ b, blk h' = some b → w'.heap[b]? = w.heap[b]? := by
    intro i o' h' hne h1 h2 b hb
    refine hw b (m.lt h1 h2 hb) fun e => ?_
    exact m.dist i j o' o h' h b hne h1 ho h2 hp hb e
  refine ⟨⟨by rw [setNth_eq, List.length_set]; exact m.len, ?_, ?_, ?_, ?_⟩, fun a v hr => hr.mono hk (fun _ _ h => h), ⟨hos, htape, hout, hsz, ?_, ?_, fun _ _ h _ => h⟩⟩
  · intro i o' hi
    obtain ⟨h1, h2⟩ := hold hi
    obtain ⟨h', h3, h4⟩ := m.obj i o' h2
    exact ⟨h', h3, h4.mono hk (fun _ _ h => h) (hkeep h1 h2 h3)⟩
  · intro i i' o1 o2 h1 h2 b hne a1 a2
    exact m.dist i i' o1 o2 h1 h2 b hne (hold a1).2 (hold a2).2
  · intro i o' h' b a1
    exact m.ext i o' h' b (hold a1).2
  · intro b hb
    exact Nat.lt_of_lt_of_le (m.inX b hb) hsz
  · intro b hb hn
    exact hw b hb fun e => hn j o h ho hp e
  · intro i o' h' b a1 a2 a3
    exact .inr ⟨i, o', h', (hold a1).2, a2, a3⟩

theorem liesAt_at {e : TypeId} (hc : P.cellsOf e = 1) (count off m : Nat) (hn : off + m ≤ count) : liesAt P P.depth e count off e m = true := by
  have hd : P.depth = (2 * (P.types.size + Made.depth) + 1) + 1 := rfl
  rw [hd]
  simp only [liesAt, Bool.or_eq_true]
  left
  rw [hd]
  simp [rowAt, hc, hn, sameLayout]
  exact .inl (Nat.mod_one off)
theorem run_unsafeString_at (w : World) (pt it ty e : TypeId) (hp : P.underlying pt = some (.pointer e)) (hc : P.cellsOf e = 1) (g off cells : Nat) (hsh : w.shape? g = some (e, cells)) (l : List UInt8) (h0 : l ≠ []) (hn : off + l.length ≤ cells) (h63 : l.length ≤ 9223372036854775807)
    (hcell : ∀ j x, l[j]? = some x → w.cell? ⟨g, off + j, none⟩ = some (.int .u8 x.toNat)) :
    (Builtin.unsafeString_ #[pt, it] ty #[.pointer (some ⟨g, off, none⟩), .int .i64 l.length]).run P w = .ok (.string ⟨l.toArray⟩) (w.freeze ⟨g, off, none⟩ l.length) := by
  have hl : l.length ≠ 0 := by simpa using h0
  have hlb := Go.Lib.run_loadBytes (P := P) w l ⟨g, off, none⟩ .empty (fun j x h => by rw [addr_add]; exact hcell j x h)
  have hlies := liesAt_at (P := P) hc (cells / P.cellsOf e) off l.length (by rw [hc]; simpa using hn)
  have h63' : ¬ (9223372036854775807 : Int) < (l.length : Int) := by omega
  have hdef : Builtin.unsafeString_ #[pt, it] ty #[.pointer (some ⟨g, off, none⟩), .int .i64 l.length] =
      (do
        let n ← asInt (.int .i64 l.length)
        if n < 0 then runtimePanic (.error "unsafe.String: len out of range")
        if n > IntKind.i64.max then unsupported (.unsafePointer "String: a length above the largest int")
        if n = 0 then pure (.string .empty)
        else if ← variablesAt ⟨g, off, none⟩ (← elemOf pt) n.toNat then do
          let s ← loadBytes ⟨g, off, none⟩ .empty n.toNat
          freeze ⟨g, off, none⟩ n.toNat
          pure (.string s)
        else unsupported (.unsafePointer "String: not so many bytes at ptr")) := rfl
  rw [hdef]
  have hmax : IntKind.i64.max = 9223372036854775807 := rfl
  have hneg : ¬ (l.length : Int) < 0 := by omega
  simp [asInt, asIntOf, hmax, h63', hneg, hl, variablesAt, hsh, elemOf, run_underlying hp, hlies, hlb]

theorem sat_bytes {i : Nat} {r : List Nat} {o : Oper} {e2 : Env} {x y : Operand} {pt it e : TypeId} {j : Nat} {bs : List UInt8} {len : Int} (ho : ops[i]? = some o) (hw : wantE ops env o = .yes) (hop : o.op = .call { callee := .builtin .unsafeString, args := #[x, y], argTypes := #[pt, it] })
    (hx : opnd env x = some (.ge j 1 0 0)) (hy : opnd env y = some (vI .i64 len)) (hobj : nth objs j = some (some (gL e 1 eU8 0 bs))) (hne : bs ≠ []) (hlen : len = bs.length) (hp : P.underlying pt = some (.pointer e)) (hc : P.cellsOf e = 1)
    (hput : putE n o.dst (vS ⟨bs.toArray⟩) env = some e2) (h : ASat P f n C (.inRegion ops r :: k) e2 (setNth objs j none) R) : ASat P f n C (.inRegion ops (i :: r) :: k) env objs R := by
  subst hlen
  refine sat_op ⟨none, false, vS ⟨bs.toArray⟩, none, setNth objs j none⟩ ho hw (fun X π w tmps m he _ => ?_) trivial hput h
  have hvx := opnd_rel (ds := []) he hx
  have hvy := opnd_rel (ds := []) he hy
  obtain ⟨hd, hpj, hrel⟩ := m.obj j _ hobj
  revert hvx hvy
  generalize hax : Act.eval ⟨tmps, []⟩ x = vx
  generalize hay : Act.eval ⟨tmps, []⟩ y = vy
  intro hvx hvy
  cases hvy with | d hvy => cases hvy with | v _ =>
  cases hvx with
  | ge hh =>
    rename_i b off n' c'
    rw [hpj] at hh
    cases hh
    have hrel' : RelO w (okOf X π objs) π (.grow e 1 (bs.map eU8) (fun i => eU8 (bs.getD i 0))) (.slice (some ⟨b, off, none⟩) n' c') := hrel
    generalize hys : bs.map eU8 = ys at hrel'
    cases hrel' with
    | gnil => exact absurd (List.map_eq_nil_iff.1 hys) hne
    | grow hb hz hE hu hcl hm hol hr =>
      rename_i c us vs fz
      have hyl : ys.length = bs.length := by rw [← hys, List.length_map]
      have hE2 : ∀ (l : List UInt8) (us : List Value), RelE w (okOf X π objs) 1 (l.map eU8) us → us.length = l.length ∧ ∀ (j : Nat) (x : UInt8), l[j]? = some x → us[j]? = some (Value.int .u8 (x.toNat : Int)) := by
        intro l
        induction l with
        | nil => intro us hE; simp only [List.map_nil] at hE; cases hE; exact ⟨rfl, by simp⟩
        | cons x l ih =>
          intro us hE
          simp only [List.map_cons] at hE
          cases hE with
          | cons h hl ht =>
            obtain ⟨h1, h2⟩ := ih _ ht
            have h' : RelL w (okOf X π objs) [D.v (.int .u8 (x.toNat : Int))] _ := h
            cases h' with
            | cons hd hf ht2 =>
              cases ht2
              cases hd with
              | v _ =>
                refine ⟨by simp [h1], fun j y hy => ?_⟩
                cases j with
                | zero => simp at hy; subst hy; simp
                | succ j => simpa using h2 j y (by simpa using hy)
      rw [← hys] at hE
      obtain ⟨hl1, hl2⟩ := hE2 bs us hE
      have hsh : w.shape? b = some (e, vs.length) := by rw [World.shape?, hb]; simp
      have hmx : maxLen = 9223372036854775807 := rfl
      have hcell : ∀ j x, bs[j]? = some x → w.cell? ⟨b, off + j, none⟩ = some (.int .u8 x.toNat) := by
        intro j x hx
        rw [cell_of_heap hb, hu j (by have := (List.getElem?_eq_some_iff.1 hx).1; omega)]
        exact hl2 j x hx
      have hrun := run_unsafeString_at (P := P) w pt it o.type e hp hc b off vs.length hsh bs hne (by omega) (by omega) hcell
      refine ⟨.string ⟨bs.toArray⟩, w.freeze ⟨b, off, none⟩ bs.length, π, ?_, ?_, fun _ => .d (.v rfl)⟩
      · unfold execOp
        simp only [hop]
        have e1 : off + 0 * 1 + 0 = off := by omega
        have hax' : Act.eval ⟨tmps, []⟩ x = .pointer (some ⟨b, off, none⟩) := by rw [hax]; simp
        simp [resolve, invoke, builtin, hax', hay, hrun]
      · have hn0 : bs.length ≠ 0 := by simpa using hne
        have hw : w.freeze ⟨b, off, none⟩ bs.length = { w with heap := (w.freeze ⟨b, off, none⟩ bs.length).heap } := by simp [World.freeze, hn0]
        refine tr_gone m hobj hpj ?_ ?_ ?_ ?_ fun c' hc' hne' => ?_
        · rw [hw]
        · rw [hw]
        · rw [hw]; exact ⟨rfl, dr_mono (Nat.le_refl _)⟩
        · simp [World.freeze, hn0]
        · have hne2 : b ≠ c' := by
            rintro rfl
            have hpos : ∃ q, ys.length = q + 1 := ⟨ys.length - 1, by omega⟩
            obtain ⟨q, hq⟩ := hpos
            rw [hq] at hne'
            exact hne' rfl
          simp [World.freeze, hn0, Array.getElem?_modify, hne2]
end
end Ab
set_option linter.unusedSimpArgs false
set_option linter.unusedVariables false
set_option linter.unusedSectionVars false
namespace Ab
open Go
variable [Draws]

def dpreK (T : Tab) (n : Nat) (ops : Array Oper) : Nat → List Oper → Prop → Env → List (Option AObj) → Option (Prop × List Oper × Env)
  | 0, l, nd, env, _ => some (nd, l, env)
  | _ + 1, [], _, _, _ => none
  | k + 1, o :: r, nd, env, objs =>
    match freeIn o r (o.looksAt ops) && aloneIn o r with
    | false => none
    | true => match wantE ops (restr env (o.looksAt ops)) o with
      | .yes => match pstep T o (restr env (o.looksAt ops)) objs with
        | .ok a => match putE n o.dst a env with | some e => dpreK T n ops k r nd e objs | none => none
        | .iff c a => match putE n o.dst a env with | some e => dpreK T n ops k r (c ∧ nd) e objs | none => none
        | .no => none
      | _ => none

section
variable {P : Program} [Globals P] {T : Tab} {f : FuncId} {fn : Func} {n m : Nat} {C : Cx} {R : AV → List (Option AObj) → Prop} {env env0 env' envF : Env} {objs objs' : List (Option AObj)} {ops : Array Oper} {K : Env → Prop} {X : Nat → Prop}

theorem dpreK_sound (hT : TabOk P T) : ∀ (k : Nat) (l : List Oper) (nd : Prop) (env : Env) {nd' : Prop} {l' : List Oper} {env' : Env}, dpreK T n ops k l nd env objs = some (nd', l', env') → nd' → DSat P n X objs ops K l' env' → nd ∧ DSat P n X objs ops K l env
  | 0, l, nd, env, nd', l', env', h, hn, hd => by
    simp only [dpreK, Option.some.injEq, Prod.mk.injEq] at h
    obtain ⟨rfl, rfl, rfl⟩ := h
    exact ⟨hn, hd⟩
  | k + 1, [], _, _, _, _, _, h, _, _ => by simp [dpreK] at h
  | k + 1, o :: r, nd, env, nd', l', env', h, hn, hd => by
    simp only [dpreK] at h
    cases hf : freeIn o r (o.looksAt ops) && aloneIn o r with
    | false => rw [hf] at h; cases h
    | true =>
    rw [hf] at h
    simp only at h
    simp only [Bool.and_eq_true] at hf
    obtain ⟨hf1, hf2⟩ := hf
    cases hw : wantE ops (restr env (o.looksAt ops)) o with
    | yes =>
      rw [hw] at h
      simp only at h
      have quiet : ∀ {a : AV} {e : Env} {c : Prop}, c → (pstep T o (restr env (o.looksAt ops)) objs = .ok a ∨ pstep T o (restr env (o.looksAt ops)) objs = .iff c a) → putE n o.dst a env = some e → DSat P n X objs ops K r e → DSat P n X objs ops K (o :: r) env := by
        intro a e c hc hp hput hr
        refine ds_op hf1 hf2 hput hw (fun π w tmps hm he => ?_) hr
        have hdo := pstep_ok (ds := []) hT hm he o
        rcases hp with hp | hp
        · rw [hp] at hdo
          obtain ⟨v, d1, d2⟩ := hdo
          exact ⟨v, w, d2 w (.refl w), .refl w, d1⟩
        · rw [hp] at hdo
          obtain ⟨v, d1, d2⟩ := hdo hc
          exact ⟨v, w, d2 w (.refl w), .refl w, d1⟩
      cases hp : pstep T o (restr env (o.looksAt ops)) objs with
      | ok a =>
        rw [hp] at h
        simp only at h
        cases hput : putE n o.dst a env with
        | none => rw [hput] at h; cases h
        | some e =>
          rw [hput] at h
          obtain ⟨r1, r2⟩ := dpreK_sound hT k r nd e h hn hd
          exact ⟨r1, quiet trivial (.inl hp) hput r2⟩
      | iff c a =>
        rw [hp] at h
        simp only at h
        cases hput : putE n o.dst a env with
        | none => rw [hput] at h; cases h
        | some e =>
          rw [hput] at h
          obtain ⟨r1, r2⟩ := dpreK_sound hT k r (c ∧ nd) e h hn hd
          exact ⟨r1.2, quiet r1.1 (.inr hp) hput r2⟩
      | no => rw [hp] at h; cases h
    | no => rw [hw] at h; cases h
    | ask t b => rw [hw] at h; cases h
    | dunno => rw [hw] at h; cases h
theorem ds_steps (k : Nat) {l l' : List Oper} {nd' : Prop} (hT : TabOk P T) (h : dpreK T n ops k l True env objs = some (nd', l', env')) (hn : nd') (hd : DSat P n X objs ops K l' env') : DSat P n X objs ops K l env :=
  (dpreK_sound hT k l True env h hn hd).2

/-- Where a slice's cells lie. -/
theorem ds_data {o : Oper} {r : List Oper} {e2 : Env} {x : Operand} {ty : TypeId} {e : TypeId} {j : Nat} {bs : List UInt8} (hop : o.op = .call { callee := .builtin .unsafeSliceData, args := #[x], argTypes := #[ty] }) (hfree : freeIn o r (o.looksAt ops) = true) (halone : aloneIn o r = true) (hw : wantE ops (restr env (o.looksAt ops)) o = .yes)
    (hx : opnd (restr env (o.looksAt ops)) x = some (.gs j)) (hobj : nth objs j = some (some (gL e 1 eU8 0 bs))) (hne : bs ≠ []) (hput : putE n o.dst (.ge j 1 0 0) env = some e2) (h : DSat P n X objs ops K r e2) : DSat P n X objs ops K (o :: r) env := by
  refine ds_op hfree halone hput hw (fun π w tmps m he => ?_) h
  have hv := opnd_rel (ds := []) he hx
  obtain ⟨hd, hpj, hrel⟩ := m.obj j _ hobj
  revert hv
  generalize hax : Act.eval ⟨tmps, []⟩ x = vx
  intro hv
  cases hv with
  | gs hh =>
    rename_i n' c' A
    rw [hpj] at hh
    cases hh
    have hrel' : RelO w (okOf X π objs) π (.grow e 1 (bs.map eU8) (fun i => eU8 (bs.getD i 0))) (.slice A n' c') := hrel
    generalize hys : bs.map eU8 = ys at hrel'
    cases hrel' with
    | gnil => exact absurd (List.map_eq_nil_iff.1 hys) hne
    | grow hb hz hE hu hcl hm hol hr =>
      rename_i b off c us vs fz
      refine ⟨.pointer (some ⟨b, off, none⟩), w, ?_, .refl w, ?_⟩
      · have hrun := Go.Lib.run_unsafeSliceData_row (P := P) (w := w) #[ty] o.type ⟨b, off, none⟩ ys.length (c + 1) (by omega)
        unfold execOp
        simp only [hop]
        simp [resolve, invoke, builtin, hax, hrun]
      · have := RelV.ge (w := w) (ok := okOf X π objs) (π := π) (s := 1) (j := 0) (off := 0) hpj
        simpa using this
/-- The same of a slice without cells: whatever it tells is not looked at. -/
theorem ds_dataNil {o : Oper} {r : List Oper} {e2 : Env} {x : Operand} {ty pe : TypeId} (hop : o.op = .call { callee := .builtin .unsafeSliceData, args := #[x], argTypes := #[ty] }) (hp : P.underlying o.type = some (.pointer pe)) (hfree : freeIn o r (o.looksAt ops) = true) (halone : aloneIn o r = true) (hw : wantE ops (restr env (o.looksAt ops)) o = .yes)
    (hx : opnd (restr env (o.looksAt ops)) x = some (.d (.v (.slice none 0 0)))) (hput : putE n o.dst (.d (.v (.pointer none))) env = some e2) (h : DSat P n X objs ops K r e2) : DSat P n X objs ops K (o :: r) env := by
  refine ds_op hfree halone hput hw (fun π w tmps m he => ?_) h
  have hv := opnd_rel (ds := []) he hx
  revert hv
  generalize hax : Act.eval ⟨tmps, []⟩ x = vx
  intro hv
  cases hv with
  | d hv => cases hv with
    | v _ =>
      refine ⟨.pointer none, w, ?_, .refl w, .d (.v rfl)⟩
      have hrun := Go.Lib.run_unsafeSliceData_nil (P := P) (w := w) #[ty] o.type 0 0
      unfold execOp
      simp only [hop]
      simp [resolve, invoke, builtin, hax, hrun]
theorem sat_noBytes {i : Nat} {r : List Nat} {k : List Item} {o : Oper} {e2 : Env} {x y : Operand} {pt it : TypeId} (ho : ops[i]? = some o) (hw : wantE ops env o = .yes) (hop : o.op = .call { callee := .builtin .unsafeString, args := #[x, y], argTypes := #[pt, it] })
    (hx : opnd env x = some (.d (.v (.pointer none)))) (hy : opnd env y = some (vI .i64 0)) (hput : putE n o.dst (vS .empty) env = some e2) (h : ASat P f n C (.inRegion ops r :: k) e2 objs R) : ASat P f n C (.inRegion ops (i :: r) :: k) env objs R := by
  refine sat_quiet (vS .empty) ho hw (fun X π w tmps m he => ?_) hput h
  have hax := look_ok (P := P) he hx
  have hay := look_ok (P := P) he hy
  have hrun := Go.Lib.run_unsafeString_none (P := P) (w := w) pt it o.type none
  refine ⟨.string .empty, ?_, .d (.v rfl)⟩
  unfold execOp
  simp only [hop]
  simp [resolve, invoke, builtin, hax, hay, hrun]
end
end Ab
namespace Go.Proofs.YtjjlipbddlignaaGreatDoor
open Go Ab Go.RowKit
set_option maxRecDepth 100000
set_option linter.unusedVariables false

@[reducible] def eBy (l : List UInt8) : D := eL 1 eU8 0 l
theorem Dec_call (l : List UInt8) (hl : l ≠ []) : ACall Tryz.prog 113 [.d (eBy l)] [] (fun r o => r = tupOf [vI .i32 ((Go.Lib.decodeGo ⟨l.toArray⟩).1 : Int), vI .i64 ((Go.Lib.decodeGo ⟨l.toArray⟩).2 : Int)]) := by
  intro X π w us hgk m hv
  refine .inl ⟨callFunc_run Tryz.func113 rfl rfl _ _, ?_⟩
  cases hv with | cons hv ht => cases ht with | nil =>
  cases hv with | d hv =>
  have hv' : RelD w (okOf X π []) (.sl 1 (l.map fun x => D.v (.int .u8 (x.toNat : Int))) (fun i => eU8 (l.getD i 0))) _ := hv
  generalize hxs : (l.map fun x => D.v (.int .u8 (x.toNat : Int))) = xs at hv'
  cases hv' with
  | nil hb => exact absurd (List.map_eq_nil_iff.1 hxs) hl
  | sl he hm hc hb hr =>
    rename_i b o c us
    subst hxs
    obtain rfl := relE_enc (enc := fun x : UInt8 => Value.int .u8 (x.toNat : Int)) he
    have hsz : (⟨l.toArray⟩ : ByteArray).size = l.length := by show l.toArray.size = _; simp
    have hcall := Any7.utf8_DecodeRune Tryz.decL ⟨l.toArray⟩ b o c w (tb_utf hgk.tb) (fun j hj => by
      rw [hsz] at hj
      have h1 := (hm j (by simpa using hj)).2
      rw [h1]
      have e : (⟨l.toArray⟩ : ByteArray).get! j = l[j] := by
        show l.toArray[j]! = _
        simp [hj]
      rw [e]
      simp [hj])
    rw [hsz] at hcall
    have hll : (l.map fun x => D.v (Value.int .u8 (x.toNat : Int))).length = l.length := by simp
    rw [hll]
    refine Calls.mono hcall ?_
    rintro e w' ⟨rfl, bl⟩
    have t := tr_plain m bl.os bl.tape ⟨bl.output, Nat.le_refl _⟩ bl.size bl.block
    exact ⟨_, _, [], π, rfl, rfl, t.mem, .tp (.cons (.d (.v rfl)) (.cons (.d (.v rfl)) .nil)), t.hist⟩
end Go.Proofs.YtjjlipbddlignaaGreatDoor
namespace Go.Proofs.YtjjlipbddlignaaGreatDoor
open Go Ab Go.RowKit
set_option maxRecDepth 100000
set_option linter.unusedVariables false
set_option linter.unusedSimpArgs false
set_option maxHeartbeats 2000000

theorem strBy (a b : List UInt8) : ((⟨a.toArray⟩ : ByteArray).toList == (⟨b.toArray⟩ : ByteArray).toList) = decide (a = b) := by
  rw [Go.Lib.toList_data, Go.Lib.toList_data]
  simp only [List.toList_toArray]
  by_cases h : a = b
  · simp [h]
  · simp [h]
theorem sizeBy (l : List UInt8) : (⟨l.toArray⟩ : ByteArray).size = l.length := by
  show l.toArray.size = l.length
  simp

theorem isPlace_call (b : List UInt8) (at_ : Int) : ACall Tryz.prog 83 [.d (eBy b), vI .i64 at_] [] (fun r o => r = vB (decide (0 ≤ at_ ∧ at_ ≤ b.length))) := by
  refine acall_enter Tryz.func83 rfl rfl (Nat.le_of_ble_eq_true rfl) fun C hC hCl hDs hGk => ?_
  refine sat_branch tabOk Tryz.func83 rfl trivial (fun h => ?_) (fun h => ?_)
  · have h : decide (at_ ≥ 0) = true := h
    rw [decide_eq_true_eq] at h
    refine sat_ret tabOk Tryz.func83 rfl trivial ?_
    show vB (decide (at_ ≤ ((b.map eU8).length : Int))) = _
    rw [List.length_map]
    congr 2
    simp [h]
  · have h : decide (at_ ≥ 0) = false := h
    rw [decide_eq_false_iff_not] at h
    refine sat_ret tabOk Tryz.func83 rfl trivial ?_
    show vB false = _
    rw [decide_eq_false (fun hh => h hh.1)]
theorem exBy (l : List UInt8) (i j : Nat) : (⟨l.toArray⟩ : ByteArray).extract i j = ⟨((l.take j).drop i).toArray⟩ := by
  apply ByteArray.ext
  apply Array.ext'
  simp [ByteArray.data_extract, List.drop_take, List.extract_eq_take_drop]
theorem pre_take (s p : List UInt8) : p.isPrefixOf s = decide (p.length ≤ s.length ∧ s.take p.length = p) := by
  rw [Bool.eq_iff_iff, List.isPrefixOf_iff_prefix, decide_eq_true_eq]
  constructor
  · rintro ⟨r, rfl⟩
    simp
  · rintro ⟨_, h⟩
    rw [← h]
    exact List.take_prefix _ _
theorem iHasPrefix_call (s p : List UInt8) : ACall Tryz.prog 99 [vTx s, vTx p] [] (fun r o => r = vB (p.isPrefixOf s)) := by
  refine acall_enter Tryz.func99 rfl rfl (Nat.le_of_ble_eq_true rfl) fun C hC hCl hDs hGk => ?_
  refine sat_branch tabOk Tryz.func99 rfl trivial (fun h => ?_) (fun h => ?_)
  · have h : decide ((((⟨s.toArray⟩ : ByteArray).size : Nat) : Int) ≥ (((⟨p.toArray⟩ : ByteArray).size : Nat) : Int)) = true := h
    rw [decide_eq_true_eq, sizeBy, sizeBy] at h
    refine sat_ret tabOk Tryz.func99 rfl ?_ ?_
    · rw [sizeBy, sizeBy]
      exact ⟨⟨by omega, by omega, by omega⟩, trivial⟩
    · show vB (((⟨s.toArray⟩ : ByteArray).extract (Int.toNat 0) (((⟨p.toArray⟩ : ByteArray).size : Nat) : Int).toNat).toList == (⟨p.toArray⟩ : ByteArray).toList) = _
      rw [sizeBy, exBy, strBy, pre_take]
      have hle : p.length ≤ s.length := by omega
      simp [hle]
  · have h : decide ((((⟨s.toArray⟩ : ByteArray).size : Nat) : Int) ≥ (((⟨p.toArray⟩ : ByteArray).size : Nat) : Int)) = false := h
    rw [decide_eq_false_iff_not, sizeBy, sizeBy] at h
    refine sat_ret tabOk Tryz.func99 rfl trivial ?_
    show vB false = _
    rw [pre_take, decide_eq_false (fun hh => h (by have := hh.1; omega))]
theorem HasPrefix_call (s p : List UInt8) : ACall Tryz.prog 84 [vTx s, vTx p] [] (fun r o => r = vB (p.isPrefixOf s)) := by
  refine acall_enter Tryz.func84 rfl rfl (Nat.le_of_ble_eq_true rfl) fun C hC hCl hDs hGk => ?_
  refine sat_call tabOk Tryz.func84 rfl trivial (iHasPrefix_call s p) (.refl _) rfl ⟨_, rfl⟩ (by rintro r o rfl; rfl) ?_
  rintro _ o rfl
  exact sat_ret tabOk Tryz.func84 rfl trivial rfl
theorem byteD_eU8 (x : UInt8) : byteD (eU8 x) = x := by
  show UInt8.ofNat ((x.toNat : Int)).toNat = x
  simp
theorem strD_by (l : List UInt8) : strD (l.map eU8) = ⟨l.toArray⟩ := by
  unfold strD
  rw [List.map_map]
  congr 2
  conv => rhs; rw [← List.map_id l]
  exact List.map_congr_left fun x _ => byteD_eU8 x
theorem isByte_by (l : List UInt8) : ∀ x ∈ l.map eU8, isByteD x = true := by
  intro x hx
  obtain ⟨y, _, rfl⟩ := List.mem_map.1 hx
  rfl
theorem tail_by (b : List UInt8) (i : Nat) (n : Nat) (hn : b.length - i ≤ n) : List.take n (List.drop i (b.map eU8)) = (b.drop i).map eU8 := by
  rw [← List.map_drop, List.take_of_length_le (by simp; omega)]
/-- Does a word stand there? -/
def isAt (b : List UInt8) (at_ : Int) (s : List UInt8) : Bool := decide (0 ≤ at_ ∧ at_ ≤ b.length) && s.isPrefixOf (b.drop at_.toNat)
def isTo (b : List UInt8) (at_ : Int) (s : List UInt8) : Int := if ¬ (0 ≤ at_ ∧ at_ ≤ b.length) then 0 else if s.isPrefixOf (b.drop at_.toNat) = true then at_ + s.length else at_
theorem Is_call (b : List UInt8) (at_ : Int) (s : List UInt8) (hb : b.length ≤ 1000000) (hs : s.length ≤ 1000000) : ACall Tryz.prog 63 [.d (eBy b), vI .i64 at_, vTx s] [] (fun r o => r = tupOf [vI .i64 (isTo b at_ s), vB (isAt b at_ s)]) := by
  refine acall_enter Tryz.func63 rfl rfl (Nat.le_of_ble_eq_true rfl) fun C hC hCl hDs hGk => ?_
  refine sat_call tabOk Tryz.func63 rfl trivial (isPlace_call b at_) (.refl _) rfl ⟨_, rfl⟩ (by rintro r o rfl; rfl) ?_
  rintro _ o rfl
  refine sat_branch tabOk Tryz.func63 rfl trivial (fun h => ?_) (fun h => ?_)
  · rw [Bool.not_eq_true', decide_eq_false_iff_not] at h
    refine sat_ret tabOk Tryz.func63 rfl trivial ?_
    rw [isTo, isAt, if_pos h, decide_eq_false h]
    rfl
  have h : 0 ≤ at_ ∧ at_ ≤ b.length := by
    rw [Bool.not_eq_false', decide_eq_true_eq] at h
    exact h
  refine sat_call tabOk Tryz.func63 rfl ?nd (HasPrefix_call (b.drop at_.toNat) s) ⟨.of ?a0, .refl _, trivial⟩ rfl ⟨_, rfl⟩ (by rintro r o rfl; rfl) ?kk
  case nd =>
    rw [List.length_map, tail_by b _ _ (by omega)]
    exact ⟨isByte_by _, ⟨h.1, h.2, Int.le_refl _⟩, trivial⟩
  case a0 =>
    rw [List.length_map, tail_by b _ _ (by omega), strD_by]
  case kk =>
  rintro _ o rfl
  refine sat_branch tabOk Tryz.func63 rfl trivial (fun h2 => ?_) (fun h2 => ?_)
  · have h2 : s.isPrefixOf (b.drop at_.toNat) = false := by simpa using h2
    refine sat_ret tabOk Tryz.func63 rfl trivial ?_
    rw [isTo, isAt, h2, Bool.and_false, if_neg (fun hh => hh h), if_neg (by simp)]
  · have h2 : s.isPrefixOf (b.drop at_.toNat) = true := by simpa using h2
    refine sat_ret tabOk Tryz.func63 rfl trivial ?_
    rw [isTo, isAt, h2, Bool.and_true, decide_eq_true h, if_neg (fun hh => hh h), if_pos rfl]
    show tupOf [vI .i64 (IntKind.i64.wrap (at_ + (((⟨s.toArray⟩ : ByteArray).size : Nat) : Int))), vB true] = _
    rw [sizeBy, wrap_id (by omega) (by omega)]
end Go.Proofs.YtjjlipbddlignaaGreatDoor
namespace Go.Proofs.YtjjlipbddlignaaGreatDoor
open Go Ab Go.RowKit
set_option maxRecDepth 100000
set_option linter.unusedVariables false
set_option linter.unusedSimpArgs false
set_option maxHeartbeats 2000000

theorem dec_first (c : UInt8) (r : List UInt8) : (c.toNat < 128 → Go.Lib.decodeGo ⟨(c :: r).toArray⟩ = (c.toNat, 1)) ∧ (¬ c.toNat < 128 → 128 ≤ (Go.Lib.decodeGo ⟨(c :: r).toArray⟩).1) := by
  have hsz : (⟨(c :: r).toArray⟩ : ByteArray).size = r.length + 1 := by rw [sizeBy]; rfl
  have h0 : (⟨(c :: r).toArray⟩ : ByteArray).get! 0 = c := by
    show (c :: r).toArray[0]! = c
    simp
  unfold Go.Lib.decodeGo
  rw [if_neg (by rw [hsz]; omega), Go.Lib.decode_at, h0]
  generalize (⟨(c :: r).toArray⟩ : ByteArray).size - 0 = n
  generalize ((⟨(c :: r).toArray⟩ : ByteArray).get! (0 + 1)).toNat = b1
  generalize ((⟨(c :: r).toArray⟩ : ByteArray).get! (0 + 2)).toNat = b2
  generalize ((⟨(c :: r).toArray⟩ : ByteArray).get! (0 + 3)).toNat = b3
  generalize c.toNat = b0
  unfold Go.Lib.decodeN
  constructor
  · intro h
    rw [if_pos h]
  · intro h
    rw [if_neg h]
    repeat' split
    all_goals first | (show 128 ≤ 65533; decide) | (simp only; omega)

@[reducible] def vFn (g : FuncId) : AV := .d (.v (.func (.func g) #[] #[]))
@[reducible] def bFn (g : FuncId) : AObj := .cells 126 [vFn g]
theorem run1_call (g : FuncId) (p : UInt8 → Bool) (hp : ∀ c : UInt8, ACall Tryz.prog g [.d (eU8 c)] [] (fun r o => r = vB (p c))) (R : Nat) : ACall Tryz.prog 101 [vI .i32 (R : Int), .ptr 0 0] [some (bFn g)] (fun r o => r = vB (decide (128 ≤ R) || !p (UInt8.ofNat R)) ∧ o = [some (bFn g)]) := by
  refine acall_enter Tryz.func101 rfl rfl (Nat.le_of_ble_eq_true rfl) fun C hC hCl hDs hGk => ?_
  refine sat_branch tabOk Tryz.func101 rfl trivial (fun h => ?_) (fun h => ?_)
  · have h : decide ((R : Int) ≥ 128) = true := h
    rw [decide_eq_true_eq] at h
    refine sat_ret tabOk Tryz.func101 rfl trivial ⟨?_, rfl⟩
    rw [decide_eq_true (by omega : 128 ≤ R)]
    rfl
  have h : decide ((R : Int) ≥ 128) = false := h
  rw [decide_eq_false_iff_not] at h
  have hlt : R < 128 := by omega
  refine sat_call tabOk Tryz.func101 rfl trivial (hp (UInt8.ofNat R)) ⟨.of ?a0, trivial⟩ rfl ⟨_, rfl⟩ (by rintro r o rfl; rfl) ?kk
  case a0 =>
    show AV.d (.v (.int .u8 (IntKind.u8.wrap (R : Int)))) = AV.d (.v (.int .u8 ((UInt8.ofNat R).toNat : Int)))
    have e1 : (UInt8.ofNat R).toNat = R := by rw [UInt8.toNat_ofNat']; omega
    have e2 : IntKind.u8.wrap (R : Int) = (R : Int) := by simp [IntKind.wrap, IntKind.bits, IntKind.signed]; omega
    rw [e1, e2]
  case kk =>
  rintro _ o rfl
  refine sat_ret tabOk Tryz.func101 rfl trivial ⟨?_, rfl⟩
  rw [decide_eq_false (by omega : ¬ 128 ≤ R), Bool.false_or]
  rfl
/-- How far bytes go on that are so. -/
def runN (p : UInt8 → Bool) (l : List UInt8) : Nat := (l.takeWhile fun c => decide (c.toNat < 128) && p c).length
theorem runN_le (p : UInt8 → Bool) (l : List UInt8) : runN p l ≤ l.length := (List.takeWhile_sublist _).length_le
theorem runN_cons (p : UInt8 → Bool) (c : UInt8) (l : List UInt8) : runN p (c :: l) = if c.toNat < 128 ∧ p c = true then runN p l + 1 else 0 := by
  unfold runN
  rw [List.takeWhile_cons]
  by_cases h : c.toNat < 128 ∧ p c = true
  · rw [if_pos h, if_pos (by simp [h.1, h.2])]
    rfl
  · rw [if_neg h, if_neg (by simpa using h)]
    rfl
def idxA (p : UInt8 → Bool) (l : List UInt8) : Int := if runN p l < l.length then runN p l else -1
theorem indexFunc_call (g : FuncId) (p : UInt8 → Bool) (hp : ∀ c : UInt8, ACall Tryz.prog g [.d (eU8 c)] [] (fun r o => r = vB (p c))) (l : List UInt8) (hl : l.length ≤ 1000000) :
    ACall Tryz.prog 107 [.d (eBy l), .fn (.func 101) [.ptr 0 0], vB true] [some (bFn g)] (fun r o => r = vI .i64 (idxA p l) ∧ o = [some (bFn g)]) := by
  refine acall_enter Tryz.func107 rfl rfl (Nat.le_of_ble_eq_true rfl) fun C hC hCl hDs hGk => ?_
  refine sat_stop tabOk Tryz.func107 rfl trivial ?_
  refine sat_while (α := Nat) (fun i => [(0, .d (eBy l)), (1, .fn (.func 101) [.ptr 0 0]), (2, vB true), (7, vI .i64 (i : Int))]) (fun i => [some (bFn g)]) (fun i => i ≤ l.length ∧ runN p l = i + runN p (l.drop i)) (fun i => l.length - i) 0 ⟨Nat.zero_le _, by simp⟩ ?_ ?_
  · exact fun h => sat_le h hC hCl ⟨⟨_, rfl, .refl _⟩, ⟨_, rfl, .refl _⟩, ⟨_, rfl, .refl _⟩, ⟨_, rfl, .refl _⟩, trivial⟩ ⟨.refl _, trivial⟩ rfl rfl (Nat.le_refl _)
  rintro i ⟨hi, hr⟩ ih
  refine sat_branch tabOk Tryz.func107 rfl trivial (fun hb => ?_) (fun hb => ?_)
  · have hb : decide ((i : Int) < ((l.map eU8).length : Int)) = true := hb
    rw [List.length_map, decide_eq_true_eq] at hb
    have hlt : i < l.length := by omega
    obtain ⟨c, r, hcr⟩ : ∃ c r, l.drop i = c :: r := ⟨_, _, List.drop_eq_getElem_cons hlt⟩
    have hdr : l.drop (i + 1) = r := by rw [← List.drop_drop, hcr]; rfl
    obtain ⟨d1, d2⟩ := dec_first c r
    rw [hcr, runN_cons] at hr
    refine sat_call tabOk Tryz.func107 rfl ?nd (Dec_call (l.drop i) (by rw [hcr]; simp)) ⟨.eL ?a0, trivial⟩ rfl ⟨_, rfl⟩ (by rintro r o rfl; rfl) ?kk
    case nd =>
      simp only [List.length_map]
      exact ⟨⟨by omega, by omega, Int.le_refl _⟩, trivial⟩
    case a0 =>
      rw [List.length_map, Int.toNat_natCast, tail_by l _ _ (by omega)]
    case kk =>
    rintro _ o rfl
    rw [hcr]
    obtain ⟨⟨R, K⟩, hRK⟩ : ∃ q, Go.Lib.decodeGo ⟨(c :: r).toArray⟩ = q := ⟨_, rfl⟩
    rw [hRK] at d1 d2 ⊢
    refine sat_callG [0] tabOk Tryz.func107 rfl trivial (run1_call g p hp R) ⟨⟨_, rfl, .refl _⟩, trivial⟩ (.refl _) rfl rfl rfl ⟨_, rfl⟩ ?_
    rintro _ o ⟨rfl, rfl⟩
    refine sat_branch tabOk Tryz.func107 rfl trivial (fun h2 => ?_) (fun h2 => ?_)
    · have h2 : (decide (128 ≤ R) || !p (UInt8.ofNat R)) = true := by simpa using h2
      refine sat_ret tabOk Tryz.func107 rfl trivial ⟨?_, rfl⟩
      have hno : ¬ (c.toNat < 128 ∧ p c = true) := by
        rintro ⟨q1, q2⟩
        cases d1 q1
        rw [UInt8.ofNat_toNat, q2, decide_eq_false (by omega)] at h2
        exact absurd h2 (by decide)
      rw [if_neg hno] at hr
      rw [idxA, if_pos (by omega), hr]
      rfl
    · have h2 : (decide (128 ≤ R) || !p (UInt8.ofNat R)) = false := by simpa using h2
      rw [Bool.or_eq_false_iff, decide_eq_false_iff_not] at h2
      have hc : c.toNat < 128 := Decidable.byContradiction fun hh => h2.1 (d2 hh)
      cases d1 hc
      have hp2 : p c = true := by
        have := h2.2
        rw [UInt8.ofNat_toNat] at this
        simpa using this
      rw [if_pos ⟨hc, hp2⟩, ← hdr] at hr
      refine sat_stop tabOk Tryz.func107 rfl trivial ?_
      refine sat_le (ih (i + 1) ⟨by omega, by omega⟩ (by omega)) hC hCl ⟨⟨_, rfl, .refl _⟩, ⟨_, rfl, .refl _⟩, ⟨_, rfl, .refl _⟩, ⟨_, rfl, .of (by rw [wrap_id (by omega) (by omega)]; rfl)⟩, trivial⟩ ⟨.refl _, trivial⟩ rfl rfl (Nat.le_refl _)
  · have hb : decide ((i : Int) < ((l.map eU8).length : Int)) = false := hb
    rw [List.length_map, decide_eq_false_iff_not] at hb
    obtain rfl : i = l.length := by omega
    refine sat_ret tabOk Tryz.func107 rfl trivial ⟨?_, rfl⟩
    rw [List.drop_length] at hr
    rw [idxA, if_neg (by have : runN p ([] : List UInt8) = 0 := rfl; omega)]
    rfl
end Go.Proofs.YtjjlipbddlignaaGreatDoor
namespace Go.Proofs.YtjjlipbddlignaaGreatDoor
open Go Ab Go.RowKit
set_option maxRecDepth 100000
set_option linter.unusedVariables false
set_option linter.unusedSimpArgs false
set_option maxHeartbeats 2000000

theorem IndexFunc_call (g : FuncId) (p : UInt8 → Bool) (hp : ∀ c : UInt8, ACall Tryz.prog g [.d (eU8 c)] [] (fun r o => r = vB (p c))) (l : List UInt8) (hl : l.length ≤ 1000000) :
    ACall Tryz.prog 100 [.d (eBy l), .fn (.func 101) [.ptr 0 0]] [some (bFn g)] (fun r o => r = vI .i64 (idxA p l) ∧ o = [some (bFn g)]) := by
  refine acall_enter Tryz.func100 rfl rfl (Nat.le_of_ble_eq_true rfl) fun C hC hCl hDs hGk => ?_
  refine sat_callG [0] tabOk Tryz.func100 rfl trivial (indexFunc_call g p hp l hl) ⟨⟨_, rfl, .refl _⟩, trivial⟩ (.refl _) rfl rfl rfl ⟨_, rfl⟩ ?_
  rintro _ o ⟨rfl, rfl⟩
  exact sat_ret tabOk Tryz.func100 rfl trivial ⟨rfl, rfl⟩
theorem run_call (g : FuncId) (p : UInt8 → Bool) (hp : ∀ c : UInt8, ACall Tryz.prog g [.d (eU8 c)] [] (fun r o => r = vB (p c))) (b : List UInt8) (i : Nat) (hi : i ≤ b.length) (hb : b.length ≤ 1000000) :
    ACall Tryz.prog 85 [.d (eBy b), vI .i64 (i : Int), vFn g] [] (fun r o => r = vI .i64 ((i + runN p (b.drop i) : Nat) : Int)) := by
  refine acall_enter Tryz.func85 rfl rfl (Nat.le_of_ble_eq_true rfl) fun C hC hCl hDs hGk => ?_
  have hdl : (b.drop i).length = b.length - i := List.length_drop
  have hrl := runN_le p (b.drop i)
  refine sat_callG [0] tabOk Tryz.func85 rfl ?nd (IndexFunc_call g p hp (b.drop i) (by omega)) ⟨⟨_, rfl, .refl _⟩, trivial⟩ ⟨.eL ?a0, .refl _, trivial⟩ rfl rfl rfl ⟨_, rfl⟩ ?kk
  case nd =>
    rw [List.length_map]
    exact ⟨⟨by omega, by omega, Int.le_refl _⟩, trivial⟩
  case a0 =>
    rw [List.length_map, Int.toNat_natCast, tail_by b _ _ (by omega)]
  case kk =>
  rintro _ o ⟨rfl, rfl⟩
  have hcase : idxA p (b.drop i) = if runN p (b.drop i) < (b.drop i).length then (runN p (b.drop i) : Int) else -1 := rfl
  generalize idxA p (b.drop i) = q at *
  refine sat_branch tabOk Tryz.func85 rfl trivial (fun h => ?_) (fun h => ?_)
  · have h : decide (q < 0) = true := h
    rw [decide_eq_true_eq] at h
    refine sat_ret tabOk Tryz.func85 rfl trivial ?_
    show vI .i64 (((b.map eU8).length : Nat) : Int) = _
    rw [List.length_map]
    split at hcase
    · omega
    · rw [show i + runN p (b.drop i) = b.length by omega]
  · have h : decide (q < 0) = false := h
    rw [decide_eq_false_iff_not] at h
    refine sat_ret tabOk Tryz.func85 rfl trivial ?_
    show vI .i64 (IntKind.i64.wrap ((i : Int) + q)) = _
    split at hcase
    · rw [wrap_id (by omega) (by omega), hcase]
      rfl
    · omega
theorem digit_call (c : UInt8) : ACall Tryz.prog 86 [.d (eU8 c)] [] (fun r o => r = vB (decide (48 ≤ c.toNat ∧ c.toNat ≤ 57))) := by
  refine acall_enter Tryz.func86 rfl rfl (Nat.le_of_ble_eq_true rfl) fun C hC hCl hDs hGk => ?_
  refine sat_branch tabOk Tryz.func86 rfl trivial (fun h => ?_) (fun h => ?_)
  · have h : decide ((c.toNat : Int) ≥ 48) = true := h
    rw [decide_eq_true_eq] at h
    refine sat_ret tabOk Tryz.func86 rfl trivial ?_
    show vB (decide ((c.toNat : Int) ≤ 57)) = _
    congr 2
    simp only [eq_iff_iff]
    omega
  · have h : decide ((c.toNat : Int) ≥ 48) = false := h
    rw [decide_eq_false_iff_not] at h
    refine sat_ret tabOk Tryz.func86 rfl trivial ?_
    show vB false = _
    rw [decide_eq_false (by omega)]
end Go.Proofs.YtjjlipbddlignaaGreatDoor
namespace Go.Proofs.YtjjlipbddlignaaGreatDoor
open Go Ab Go.RowKit
set_option maxRecDepth 100000
set_option linter.unusedVariables false
set_option linter.unusedSimpArgs false
set_option maxHeartbeats 2000000

@[reducible] def isDig (c : UInt8) : Bool := decide (48 ≤ c.toNat ∧ c.toNat ≤ 57)
def numN (l : List UInt8) : Nat := l.foldl (fun n c => n * 10 + (c.toNat - 48)) 0
theorem numN_snoc (l : List UInt8) (c : UInt8) : numN (l ++ [c]) = numN l * 10 + (c.toNat - 48) := by simp [numN]
theorem foldl_ge (l : List UInt8) : ∀ n, n ≤ l.foldl (fun n c => n * 10 + (c.toNat - 48)) n := by
  induction l with
  | nil => exact fun n => Nat.le_refl _
  | cons c r ih =>
    intro n
    have := ih (n * 10 + (c.toNat - 48))
    simp only [List.foldl_cons]
    omega
theorem getD_at {α : Type} {d : α} {l : List α} {i : Nat} (h : i < l.length) : l.getD i d = l[i] := by simp [List.getD_eq_getElem?_getD, h]
theorem numN_pre (a b : List UInt8) : numN a ≤ numN (a ++ b) := by
  unfold numN
  rw [List.foldl_append]
  exact foldl_ge _ _
def numDs (b : List UInt8) (i : Nat) : List UInt8 := (b.drop i).take (runN isDig (b.drop i))
/-- A number that stands there: its value, the place behind, what is wrong. -/
def numR (b : List UInt8) (i most : Int) : Int × Int × Int :=
  if ¬ (0 ≤ i ∧ i ≤ b.length) then (0, 0, 2)
  else if runN isDig (b.drop i.toNat) = 0 ∨ (b.getD i.toNat 0 = 48 ∧ 1 < runN isDig (b.drop i.toNat)) then (0, i, 2)
  else if min most 2147483647 < numN (numDs b i.toNat) then (0, i, 3)
  else (numN (numDs b i.toNat), i + runN isDig (b.drop i.toNat), 0)
theorem takeW {l : List UInt8} {j : Nat} (h : j < runN isDig l) : ∃ c, l[j]? = some c ∧ isDig c = true := by
  induction l generalizing j with
  | nil => simp [runN] at h
  | cons c r ih =>
    rw [runN_cons] at h
    split at h
    · rename_i hc
      cases j with
      | zero => exact ⟨c, rfl, hc.2⟩
      | succ j => obtain ⟨d, h1, h2⟩ := ih (j := j) (by omega); exact ⟨d, by simpa using h1, h2⟩
    · omega
@[reducible] def numA (q : Int × Int × Int) : AV := tupOf [vI .i64 q.1, vI .i64 q.2.1, vI .i64 q.2.2]

theorem Number_call (b : List UInt8) (i most : Int) (hb : b.length ≤ 1000000) : ACall Tryz.prog 65 [.d (eBy b), vI .i64 i, vI .i64 most] [] (fun r o => r = numA (numR b i most)) := by
  refine acall_enter Tryz.func65 rfl rfl (Nat.le_of_ble_eq_true rfl) fun C hC hCl hDs hGk => ?_
  refine sat_call tabOk Tryz.func65 rfl trivial (isPlace_call b i) (.refl _) rfl ⟨_, rfl⟩ (by rintro r o rfl; rfl) ?_
  rintro _ o rfl
  refine sat_branch tabOk Tryz.func65 rfl trivial (fun h => ?_) (fun h => ?_)
  · rw [Bool.not_eq_true', decide_eq_false_iff_not] at h
    refine sat_ret tabOk Tryz.func65 rfl trivial ?_
    rw [numR, if_pos h]
  have h : 0 ≤ i ∧ i ≤ b.length := by
    rw [Bool.not_eq_false', decide_eq_true_eq] at h
    exact h
  obtain ⟨j, rfl⟩ : ∃ j : Nat, i = j := ⟨i.toNat, by omega⟩
  have hj : j ≤ b.length := by omega
  refine sat_call tabOk Tryz.func65 rfl trivial (run_call 86 isDig digit_call b j hj hb) (.refl _) rfl ⟨_, rfl⟩ (by rintro r o rfl; rfl) ?_
  rintro _ o rfl
  have hR : numR b j most = if runN isDig (b.drop j) = 0 ∨ (b.getD j 0 = 48 ∧ 1 < runN isDig (b.drop j)) then (0, (j : Int), 2) else if min most 2147483647 < numN (numDs b j) then (0, (j : Int), 3) else ((numN (numDs b j) : Int), (j : Int) + runN isDig (b.drop j), 0) := by
    rw [numR, if_neg (fun hh => hh h)]
    rfl
  rw [hR]
  have hkl := runN_le isDig (b.drop j)
  rw [List.length_drop] at hkl
  have htk := @takeW (b.drop j)
  have hds : numDs b j = (b.drop j).take (runN isDig (b.drop j)) := rfl
  clear hR
  generalize numDs b j = ds at *
  generalize runN isDig (b.drop j) = k at *
  refine sat_branch tabOk Tryz.func65 rfl trivial (fun h1 => ?_) (fun h1 => ?_)
  · have h1 : ((((j + k : Nat) : Int)) == (j : Int)) = true := h1
    have h1 : k = 0 := by
      rw [beq_iff_eq] at h1
      omega
    refine sat_branch tabOk Tryz.func65 rfl trivial (fun _ => ?_) (fun h => by cases h)
    refine sat_ret tabOk Tryz.func65 rfl trivial ?_
    rw [if_pos (.inl h1)]
  have h1 : ((((j + k : Nat) : Int)) == (j : Int)) = false := h1
  have hk : 0 < k := by
    rw [beq_eq_false_iff_ne] at h1
    omega
  have wj : IntKind.i64.wrap ((j : Int) + 1) = (j : Int) + 1 := wrap_id (by omega) (by omega)
  have hgo : (¬ (b.getD j 0 = 48 ∧ 1 < k)) → ∀ R0, R0 = (if min most 2147483647 < (numN ds : Int) then ((0 : Int), (j : Int), (3 : Int)) else ((numN ds : Int), (j : Int) + k, 0)) → (if k = 0 ∨ (b.getD j 0 = 48 ∧ 1 < k) then ((0 : Int), (j : Int), (2 : Int)) else if min most 2147483647 < (numN ds : Int) then (0, (j : Int), 3) else ((numN ds : Int), (j : Int) + k, 0)) = R0 := fun hh R0 e => by
    rw [if_neg (fun e => e.elim (fun e => by omega) hh), e]
  have hdl : ds.length = k := by rw [hds, List.length_take, List.length_drop]; omega
  have hdig : ∀ q, q < k → 48 ≤ (ds.getD q 0).toNat ∧ (ds.getD q 0).toNat ≤ 57 := fun q hq => by
    obtain ⟨c, g1, g2⟩ := htk hq
    have : ds.getD q 0 = c := by rw [hds, List.getD_eq_getElem?_getD, List.getElem?_take, if_pos hq, g1]; rfl
    rw [this]
    exact of_decide_eq_true g2
  have hsl : List.take (((j + k : Nat) : Int) - (j : Int)).toNat (List.drop (j : Int).toNat (b.map eU8)) = ds.map eU8 := by
    rw [show (((j + k : Nat) : Int) - (j : Int)).toNat = k by omega, Int.toNat_natCast, hds, List.map_take, List.map_drop]
  apply letK (p := ASat Tryz.prog 65 Tryz.f65.ntmps C _ [(1, vI .i64 (j : Int)), (2, vI .i64 most), (9, vI .i64 ((j + k : Nat) : Int)), (10, vI .i64 0), (40, .d (eBy ds)), (41, vI .i64 (k : Int)), (42, vI .i64 ((0 : Nat) : Int))] [] (fun r o => r = numA (if min most 2147483647 < (numN ds : Int) then ((0 : Int), (j : Int), (3 : Int)) else ((numN ds : Int), (j : Int) + k, 0))))
  · intro key
    refine sat_branch tabOk Tryz.func65 rfl ?nd (fun h2 => ?_) (fun h2 => ?_)
    case nd =>
      simp only [List.length_map]
      exact ⟨⟨by omega, by omega⟩, trivial⟩
    · have h2 : (((b.getD j 0).toNat : Int) == 48) = true := h2
      have h2 : b.getD j 0 = 48 := by
        rw [beq_iff_eq] at h2
        exact UInt8.toNat_inj.1 (by show (b.getD j 0).toNat = 48; omega)
      refine sat_branch tabOk Tryz.func65 rfl trivial (fun h3 => ?_) (fun h3 => ?_)
      · have h3 : decide (((j + k : Nat) : Int) > IntKind.i64.wrap ((j : Int) + 1)) = true := h3
        rw [wj, decide_eq_true_eq] at h3
        refine sat_ret tabOk Tryz.func65 rfl trivial ?_
        rw [if_pos (.inr ⟨h2, by omega⟩)]
      · have h3 : decide (((j + k : Nat) : Int) > IntKind.i64.wrap ((j : Int) + 1)) = false := h3
        rw [wj, decide_eq_false_iff_not] at h3
        rw [hgo (fun hh => by omega) _ rfl]
        refine sat_stop tabOk Tryz.func65 rfl ?nd2 ?_
        case nd2 =>
          simp only [List.length_map]
          exact ⟨⟨by omega, by omega, by omega⟩, trivial⟩
        refine sat_le key hC hCl ⟨⟨_, rfl, .refl _⟩, ⟨_, rfl, .refl _⟩, ⟨_, rfl, .refl _⟩, ⟨_, rfl, .refl _⟩, ⟨_, rfl, .eL hsl⟩, ⟨_, rfl, .of ?_⟩, ⟨_, rfl, .refl _⟩, trivial⟩ trivial rfl rfl (Nat.zero_le _)
        show vI .i64 (((List.take (((j + k : Nat) : Int) - (j : Int)).toNat (List.drop (j : Int).toNat (b.map eU8))).length : Nat) : Int) = _
        rw [hsl, List.length_map, hdl]
    · have h2 : (((b.getD j 0).toNat : Int) == 48) = false := h2
      have h2 : b.getD j 0 ≠ 48 := fun e => by rw [e] at h2; exact absurd h2 (by decide)
      rw [hgo (fun hh => h2 hh.1) _ rfl]
      refine sat_branch tabOk Tryz.func65 rfl trivial (fun h => by cases h) (fun _ => ?_)
      refine sat_stop tabOk Tryz.func65 rfl ?nd3 ?_
      case nd3 =>
        simp only [List.length_map]
        exact ⟨⟨by omega, by omega, by omega⟩, trivial⟩
      refine sat_le key hC hCl ⟨⟨_, rfl, .refl _⟩, ⟨_, rfl, .refl _⟩, ⟨_, rfl, .refl _⟩, ⟨_, rfl, .refl _⟩, ⟨_, rfl, .eL hsl⟩, ⟨_, rfl, .of ?_⟩, ⟨_, rfl, .refl _⟩, trivial⟩ trivial rfl rfl (Nat.zero_le _)
      show vI .i64 (((List.take (((j + k : Nat) : Int) - (j : Int)).toNat (List.drop (j : Int).toNat (b.map eU8))).length : Nat) : Int) = _
      rw [hsl, List.length_map, hdl]
  refine sat_while (α := Nat) (fun q => [(1, vI .i64 (j : Int)), (2, vI .i64 most), (9, vI .i64 ((j + k : Nat) : Int)), (10, vI .i64 ((numN (ds.take q) : Nat) : Int)), (40, .d (eBy ds)), (41, vI .i64 (k : Int)), (42, vI .i64 ((q : Nat) : Int))]) (fun q => []) (fun q => q ≤ k ∧ (q = 0 ∨ (numN (ds.take q) : Int) ≤ min most 2147483647)) (fun q => k - q) 0 ⟨Nat.zero_le _, .inl rfl⟩ ?_ ?_
  · exact fun h => sat_le h hC hCl ⟨⟨_, rfl, .refl _⟩, ⟨_, rfl, .refl _⟩, ⟨_, rfl, .refl _⟩, ⟨_, rfl, .refl _⟩, ⟨_, rfl, .refl _⟩, ⟨_, rfl, .refl _⟩, ⟨_, rfl, .refl _⟩, trivial⟩ trivial rfl rfl (Nat.zero_le _)
  rintro q ⟨hq, hn⟩ ih
  have hnb : numN (ds.take q) ≤ 2147483647 := by
    rcases hn with rfl | hn
    · simp [numN]
    · omega
  refine sat_branch tabOk Tryz.func65 rfl trivial (fun hb2 => ?_) (fun hb2 => ?_)
  · have hb2 : decide ((q : Int) < (k : Int)) = true := hb2
    rw [decide_eq_true_eq] at hb2
    have hlt : q < k := by omega
    obtain ⟨g1, g2⟩ := hdig q hlt
    have hsn : numN (ds.take (q + 1)) = numN (ds.take q) * 10 + ((ds.getD q 0).toNat - 48) := by
      rw [List.take_succ_eq_append_getElem (by omega), numN_snoc, getD_at (d := 0) (by omega)]
    have e0 : IntKind.u8.wrap (((ds.getD q 0).toNat : Int) - 48) = ((ds.getD q 0).toNat : Int) - 48 := by
      generalize (ds.getD q 0).toNat = v at g1 g2
      simp [IntKind.wrap, IntKind.bits, IntKind.signed]
      omega
    have e1 : IntKind.i64.wrap (IntKind.i64.wrap (((numN (ds.take q) : Nat) : Int) * 10) + IntKind.i64.wrap (IntKind.u8.wrap (((ds.getD q 0).toNat : Int) - 48))) = ((numN (ds.take (q + 1)) : Nat) : Int) := by
      rw [e0, wrap_id (n := ((numN (ds.take q) : Nat) : Int) * 10) (by omega) (by omega), wrap_id (n := ((ds.getD q 0).toNat : Int) - 48) (by omega) (by omega), wrap_id (by omega) (by omega), hsn]
      omega
    refine sat_branch tabOk Tryz.func65 rfl ?nd (fun h4 => ?_) (fun h4 => ?_)
    case nd =>
      simp only [List.length_map]
      exact ⟨⟨by omega, by omega⟩, trivial⟩
    · have h4 : decide (IntKind.i64.wrap (IntKind.i64.wrap (((numN (ds.take q) : Nat) : Int) * 10) + IntKind.i64.wrap (IntKind.u8.wrap (((ds.getD q 0).toNat : Int) - 48))) > min most 2147483647) = true := h4
      rw [e1, decide_eq_true_eq] at h4
      have hpre := numN_pre (ds.take (q + 1)) (ds.drop (q + 1))
      rw [List.take_append_drop] at hpre
      refine sat_ret tabOk Tryz.func65 rfl trivial ?_
      rw [if_pos (by omega)]
    · have h4 : decide (IntKind.i64.wrap (IntKind.i64.wrap (((numN (ds.take q) : Nat) : Int) * 10) + IntKind.i64.wrap (IntKind.u8.wrap (((ds.getD q 0).toNat : Int) - 48))) > min most 2147483647) = false := h4
      rw [e1, decide_eq_false_iff_not] at h4
      refine sat_stop tabOk Tryz.func65 rfl trivial ?_
      exact sat_le (ih (q + 1) ⟨by omega, .inr (by omega)⟩ (by omega)) hC hCl ⟨⟨_, rfl, .refl _⟩, ⟨_, rfl, .refl _⟩, ⟨_, rfl, .refl _⟩, ⟨_, rfl, .of (by show vI .i64 _ = _; rw [← e1]; rfl)⟩, ⟨_, rfl, .refl _⟩, ⟨_, rfl, .refl _⟩, ⟨_, rfl, .of (by rw [wrap_id (by omega) (by omega)]; rfl)⟩, trivial⟩ trivial rfl rfl (Nat.zero_le _)
  · have hb2 : decide ((q : Int) < (k : Int)) = false := hb2
    rw [decide_eq_false_iff_not] at hb2
    obtain rfl : q = k := by omega
    rw [List.take_of_length_le (by omega)] at hn hnb ⊢
    refine sat_ret tabOk Tryz.func65 rfl trivial ?_
    rw [if_neg (by rcases hn with e | e <;> omega)]
    show tupOf [vI .i64 _, vI .i64 ((j + q : Nat) : Int), vI .i64 0] = _
    rw [show ((j + q : Nat) : Int) = (j : Int) + q by omega]
end Go.Proofs.YtjjlipbddlignaaGreatDoor
