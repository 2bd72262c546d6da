/- A part of the proof: Ab48, Ab49, K31, K32, K33, K34, K35, K36, Ab53, Ab55, Ab56. -/
import Derived.Test.YtffomfbbplpljaaDoorP10
import Derived.Lib.UnsafeStr
import Derived.Lib.Builder
set_option linter.unusedVariables false
set_option linter.unusedSimpArgs false
set_option linter.unusedSimpArgs false
set_option linter.unusedVariables false
set_option linter.unusedSectionVars false
namespace Ab
open Go
variable [Draws]

section
variable {P : Program} [Globals P] {T : Tab} {f : FuncId} {fn : Func} {n : Nat} {C : Cx} {R : AV → List (Option AObj) → Prop} {todo todo' k : List Item} {env env' : Env} {objs objs' : List (Option AObj)} {nd : Prop} {ops : Array Oper}

theorem sat_quiet {i : Nat} {r : List Nat} {o : Oper} {e : Env} (a : AV) (ho : ops[i]? = some o) (hw : wantE ops env o = .yes)
    (hdo : ∀ X π w tmps, Mem X π objs w → EnvRel w (okOf X π objs) π env tmps → ∃ v, (execOp (Act.eval ⟨tmps, []⟩) o).run P w = .ok (.value v) w ∧ RelV w (okOf X π objs) π a v) (hput : putE n o.dst a env = some e)
    (h : ASat P f n C (.inRegion ops r :: k) e objs R) : ASat P f n C (.inRegion ops (i :: r) :: k) env objs R := by
  refine sat_op ⟨none, false, a, none, objs⟩ ho hw (fun X π w tmps m he _ => ?_) trivial hput h
  obtain ⟨v, h1, h2⟩ := hdo X π w tmps m he
  exact ⟨v, w, π, h1, tr_plain m rfl rfl ⟨rfl, dr_mono (Nat.le_refl _)⟩ (Nat.le_refl _) (fun _ _ => rfl), fun _ => h2⟩

theorem ptr_cells {X : Nat → Prop} {π : List Value} {w : World} (m : Mem X π objs w) {i off : Nat} {e : TypeId} {cs : List AV} {v : Value} (ho : nth objs i = some (some (.cells e cs))) (h : RelV w (okOf X π objs) π (.ptr i off) v) :
    ∃ b, v = .pointer (some ⟨b, off, none⟩) ∧ w.shape? b = some (e, cs.length) := by
  cases h with
  | ptr hp =>
    obtain ⟨h', hp', hrel⟩ := m.obj i _ ho
    rw [hp] at hp'
    cases hp'
    cases hrel with
    | cells hb hcs hf =>
      refine ⟨_, rfl, ?_⟩
      rw [World.shape?, hb]
      simp [hcs.length]

/-- A pointer turned to unsafe.Pointer. -/
theorem sat_toUnsafe {i : Nat} {r : List Nat} {o : Oper} {e : Env} {src dst t el : TypeId} {x : Operand} {j : Nat} {cs : List AV} {sz : Nat} (ho : ops[i]? = some o) (hw : wantE ops env o = .yes) (hop : o.op = .convert src dst x) (hx : opnd env x = some (.ptr j 0))
    (hobj : nth objs j = some (some (.cells el cs))) (hc : 0 < cs.length) (hs : P.underlying src = some (.pointer t)) (hd : P.underlying dst = some .unsafePointer) (ht0 : (P.info? t).map (·.size) = some (sz + 1)) (hput : putE n o.dst (.ptr j 0) env = some e)
    (h : ASat P f n C (.inRegion ops r :: k) e objs R) : ASat P f n C (.inRegion ops (i :: r) :: k) env objs R := by
  obtain ⟨inf, ht, hz0⟩ := Option.map_eq_some_iff.1 ht0
  refine sat_quiet (.ptr j 0) ho hw (fun X π w tmps m he => ?_) hput h
  have hv := opnd_rel (ds := []) he hx
  obtain ⟨b, hb, hsh⟩ := ptr_cells m hobj hv
  have hrun := Go.Lib.run_to_unsafe (P := P) (w := w) ⟨b, 0, none⟩ hs hd ht (by omega) hsh (by simpa using hc)
  refine ⟨_, ?_, hv⟩
  unfold execOp
  simp only [hop, hb]
  simp only [Sem.run_bind, hrun, Result.andThen_ok, Sem.run_pure]
theorem sat_fromUnsafe {i : Nat} {r : List Nat} {o : Oper} {e : Env} {src dst t el : TypeId} {x : Operand} {j : Nat} {cs : List AV} {sz : Nat} (ho : ops[i]? = some o) (hw : wantE ops env o = .yes) (hop : o.op = .convert src dst x) (hx : opnd env x = some (.ptr j 0))
    (hobj : nth objs j = some (some (.cells el cs))) (hs : P.underlying src = some .unsafePointer) (hd : P.underlying dst = some (.pointer t)) (ht0 : (P.info? t).map (·.size) = some sz) (hl : liesAt P P.depth el (cs.length / P.cellsOf el) 0 t 1 = true) (hput : putE n o.dst (.ptr j 0) env = some e)
    (h : ASat P f n C (.inRegion ops r :: k) e objs R) : ASat P f n C (.inRegion ops (i :: r) :: k) env objs R := by
  obtain ⟨inf, ht, hz0⟩ := Option.map_eq_some_iff.1 ht0
  refine sat_quiet (.ptr j 0) ho hw (fun X π w tmps m he => ?_) hput h
  have hv := opnd_rel (ds := []) he hx
  obtain ⟨b, hb, hsh⟩ := ptr_cells m hobj hv
  have hrun := Go.Lib.run_from_unsafe (P := P) (w := w) ⟨b, 0, none⟩ hs hd ht hsh hl
  refine ⟨_, ?_, hv⟩
  unfold execOp
  simp only [hop, hb]
  simp only [Sem.run_bind, hrun, Result.andThen_ok, Sem.run_pure]
/-- A pointer is the same as itself. -/
theorem sat_neqSame {i : Nat} {r : List Nat} {o : Oper} {e : Env} {tp te ty el : TypeId} {x y : Operand} {j : Nat} {cs : List AV} {sz : Nat} (ho : ops[i]? = some o) (hw : wantE ops env o = .yes) (hop : o.op = .binOp .neq tp x y ty) (hx : opnd env x = some (.ptr j 0)) (hy : opnd env y = some (.ptr j 0))
    (hobj : nth objs j = some (some (.cells el cs))) (hp : P.underlying tp = some (.pointer te)) (ht0 : (P.info? te).map (·.size) = some sz) (hput : putE n o.dst (.lit false) env = some e)
    (h : ASat P f n C (.inRegion ops r :: k) e objs R) : ASat P f n C (.inRegion ops (i :: r) :: k) env objs R := by
  obtain ⟨inf, ht, hz0⟩ := Option.map_eq_some_iff.1 ht0
  refine sat_quiet (.lit false) ho hw (fun X π w tmps m he => ?_) hput h
  have hv := opnd_rel (ds := []) he hx
  have hv2 := opnd_rel (ds := []) he hy
  obtain ⟨b, hb, hsh⟩ := ptr_cells m hobj hv
  obtain ⟨b2, hb2, hsh2⟩ := ptr_cells m hobj hv2
  have hbb : b2 = b := by
    rw [hb] at hv
    rw [hb2] at hv2
    cases hv with | ptr h1 => cases hv2 with | ptr h2 => rw [h1] at h2; cases h2; rfl
  subst hbb
  have hrun := Go.Lib.run_neq_ptr_same (P := P) (w := w) ⟨b2, 0, none⟩ hp ht
  refine ⟨.bool false, ?_, .lit⟩
  have hg : (eqGuard .neq tp x y (.pointer (some ⟨b2, 0, none⟩)) (.pointer (some ⟨b2, 0, none⟩))).run P w = .ok () w := by simp [eqGuard]
  unfold execOp
  simp only [hop, hb, hb2]
  simp only [Sem.run_bind, hg, Result.andThen_ok, hrun, Sem.run_pure]

/-! ### The bytes of a slice as a string -/
def eU8 (b : UInt8) : D := .v (.int .u8 (b.toNat : Int))

/-- An object is let go; in its block nothing is kept but its cells. -/
theorem tr_gone {X : Nat → Prop} {π : List Value} {w w' : World} (m : Mem X π objs w) {j : Nat} {o : AObj} {h : Value} (ho : nth objs j = some (some o)) (hp : nth π j = some h) (hos : w'.os = w.os) (htape : w'.tape = w.tape) (hout : w'.output = w.output ∧ dr w ≤ dr w') (hsz : w.heap.size ≤ w'.heap.size)
    (hw : ∀ b, b < w.heap.size → blk h ≠ some b → w'.heap[b]? = w.heap[b]?) : Tr X π objs w none π (setNth objs j none) w' := by
  have hold : ∀ {i : Nat} {o' : AObj}, nth (setNth objs j none) i = some (some o') → i ≠ j ∧ nth objs i = some (some o') := by
    intro i o' hi
    rcases nth_setNth hi with ⟨_, h1⟩ | ⟨h1, h2⟩
    · cases h1
    · exact ⟨h1, h2⟩
  have hk : Keeps w (okOf X π objs) w' (okOf X π (setNth objs j none)) := by
    intro b off u h1 h2
    have hb := cell_lt h2
    refine ⟨⟨h1.1, fun i o' h' h3 h4 => h1.2 i o' h' (hold h3).2 h4⟩, ?_⟩
    have := hw b hb (h1.2 j o h ho hp)
    unfold World.cell? at h2 ⊢
    rw [this]
    exact h2
  have hkeep : ∀ {i : Nat} {o' : AObj} {h' : Value}, i ≠ j → nth objs i = some (some o') → nth π i = some h' → ∀ b, blk h' = some b → w'.heap[b]? = w.heap[b]? := by
    intro i o' h' hne h1 h2 b hb
    refine hw b (m.lt h1 h2 hb) fun e => ?_
    exact m.dist i j o' o h' h b hne h1 ho h2 hp hb e
  refine ⟨⟨by rw [setNth_eq, List.length_set]; exact m.len, ?_, ?_, ?_, ?_⟩, fun a v hr => hr.mono hk (fun _ _ h => h), ⟨hos, htape, hout, hsz, ?_, ?_, fun _ _ h _ => h⟩⟩
  · intro i o' hi
    obtain ⟨h1, h2⟩ := hold hi
    obtain ⟨h', h3, h4⟩ := m.obj i o' h2
    exact ⟨h', h3, h4.mono hk (fun _ _ h => h) (hkeep h1 h2 h3)⟩
  · intro i i' o1 o2 h1 h2 b hne a1 a2
    exact m.dist i i' o1 o2 h1 h2 b hne (hold a1).2 (hold a2).2
  · intro i o' h' b a1
    exact m.ext i o' h' b (hold a1).2
  · intro b hb
    exact Nat.lt_of_lt_of_le (m.inX b hb) hsz
  · intro b hb hn
    exact hw b hb fun e => hn j o h ho hp e
  · intro i o' h' b a1 a2 a3
    exact .inr ⟨i, o', h', (hold a1).2, a2, a3⟩

theorem liesAt_at {e : TypeId} (hc : P.cellsOf e = 1) (count off m : Nat) (hn : off + m ≤ count) : liesAt P P.depth e count off e m = true := by
  have hd : P.depth = (2 * (P.types.size + Made.depth) + 1) + 1 := rfl
  rw [hd]
  simp only [liesAt, Bool.or_eq_true]
  left
  rw [hd]
  simp [rowAt, hc, hn, sameLayout]
  exact .inl (Nat.mod_one off)
theorem run_unsafeString_at (w : World) (pt it ty e : TypeId) (hp : P.underlying pt = some (.pointer e)) (hc : P.cellsOf e = 1) (g off cells : Nat) (hsh : w.shape? g = some (e, cells)) (l : List UInt8) (h0 : l ≠ []) (hn : off + l.length ≤ cells) (h63 : l.length ≤ 9223372036854775807)
    (hcell : ∀ j x, l[j]? = some x → w.cell? ⟨g, off + j, none⟩ = some (.int .u8 x.toNat)) :
    (Builtin.unsafeString_ #[pt, it] ty #[.pointer (some ⟨g, off, none⟩), .int .i64 l.length]).run P w = .ok (.string ⟨l.toArray⟩) (w.freeze ⟨g, off, none⟩ l.length) := by
  have hl : l.length ≠ 0 := by simpa using h0
  have hlb := Go.Lib.run_loadBytes (P := P) w l ⟨g, off, none⟩ .empty (fun j x h => by rw [addr_add]; exact hcell j x h)
  have hlies := liesAt_at (P := P) hc (cells / P.cellsOf e) off l.length (by rw [hc]; simpa using hn)
  have h63' : ¬ (9223372036854775807 : Int) < (l.length : Int) := by omega
  have hdef : Builtin.unsafeString_ #[pt, it] ty #[.pointer (some ⟨g, off, none⟩), .int .i64 l.length] =
      (do
        let n ← asInt (.int .i64 l.length)
        if n < 0 then runtimePanic (.error "unsafe.String: len out of range")
        if n > IntKind.i64.max then unsupported (.unsafePointer "String: a length above the largest int")
        if n = 0 then pure (.string .empty)
        else if ← variablesAt ⟨g, off, none⟩ (← elemOf pt) n.toNat then do
          let s ← loadBytes ⟨g, off, none⟩ .empty n.toNat
          freeze ⟨g, off, none⟩ n.toNat
          pure (.string s)
        else unsupported (.unsafePointer "String: not so many bytes at ptr")) := rfl
  rw [hdef]
  have hmax : IntKind.i64.max = 9223372036854775807 := rfl
  have hneg : ¬ (l.length : Int) < 0 := by omega
  simp [asInt, asIntOf, hmax, h63', hneg, hl, variablesAt, hsh, elemOf, run_underlying hp, hlies, hlb]

theorem sat_bytes {i : Nat} {r : List Nat} {o : Oper} {e2 : Env} {x y : Operand} {pt it e : TypeId} {j : Nat} {bs : List UInt8} {len : Int} (ho : ops[i]? = some o) (hw : wantE ops env o = .yes) (hop : o.op = .call { callee := .builtin .unsafeString, args := #[x, y], argTypes := #[pt, it] })
    (hx : opnd env x = some (.ge j 1 0 0)) (hy : opnd env y = some (vI .i64 len)) (hobj : nth objs j = some (some (gL e 1 eU8 0 bs))) (hne : bs ≠ []) (hlen : len = bs.length) (hp : P.underlying pt = some (.pointer e)) (hc : P.cellsOf e = 1)
    (hput : putE n o.dst (vS ⟨bs.toArray⟩) env = some e2) (h : ASat P f n C (.inRegion ops r :: k) e2 (setNth objs j none) R) : ASat P f n C (.inRegion ops (i :: r) :: k) env objs R := by
  subst hlen
  refine sat_op ⟨none, false, vS ⟨bs.toArray⟩, none, setNth objs j none⟩ ho hw (fun X π w tmps m he _ => ?_) trivial hput h
  have hvx := opnd_rel (ds := []) he hx
  have hvy := opnd_rel (ds := []) he hy
  obtain ⟨hd, hpj, hrel⟩ := m.obj j _ hobj
  revert hvx hvy
  generalize hax : Act.eval ⟨tmps, []⟩ x = vx
  generalize hay : Act.eval ⟨tmps, []⟩ y = vy
  intro hvx hvy
  cases hvy with | d hvy => cases hvy with | v _ =>
  cases hvx with
  | ge hh =>
    rename_i b off n' c'
    rw [hpj] at hh
    cases hh
    have hrel' : RelO w (okOf X π objs) π (.grow e 1 (bs.map eU8) (fun i => eU8 (bs.getD i 0))) (.slice (some ⟨b, off, none⟩) n' c') := hrel
    generalize hys : bs.map eU8 = ys at hrel'
    cases hrel' with
    | gnil => exact absurd (List.map_eq_nil_iff.1 hys) hne
    | grow hb hz hE hu hcl hm hol hr =>
      rename_i c us vs fz
      have hyl : ys.length = bs.length := by rw [← hys, List.length_map]
      have hE2 : ∀ (l : List UInt8) (us : List Value), RelE w (okOf X π objs) 1 (l.map eU8) us → us.length = l.length ∧ ∀ (j : Nat) (x : UInt8), l[j]? = some x → us[j]? = some (Value.int .u8 (x.toNat : Int)) := by
        intro l
        induction l with
        | nil => intro us hE; simp only [List.map_nil] at hE; cases hE; exact ⟨rfl, by simp⟩
        | cons x l ih =>
          intro us hE
          simp only [List.map_cons] at hE
          cases hE with
          | cons h hl ht =>
            obtain ⟨h1, h2⟩ := ih _ ht
            have h' : RelL w (okOf X π objs) [D.v (.int .u8 (x.toNat : Int))] _ := h
            cases h' with
            | cons hd hf ht2 =>
              cases ht2
              cases hd with
              | v _ =>
                refine ⟨by simp [h1], fun j y hy => ?_⟩
                cases j with
                | zero => simp at hy; subst hy; simp
                | succ j => simpa using h2 j y (by simpa using hy)
      rw [← hys] at hE
      obtain ⟨hl1, hl2⟩ := hE2 bs us hE
      have hsh : w.shape? b = some (e, vs.length) := by rw [World.shape?, hb]; simp
      have hmx : maxLen = 9223372036854775807 := rfl
      have hcell : ∀ j x, bs[j]? = some x → w.cell? ⟨b, off + j, none⟩ = some (.int .u8 x.toNat) := by
        intro j x hx
        rw [cell_of_heap hb, hu j (by have := (List.getElem?_eq_some_iff.1 hx).1; omega)]
        exact hl2 j x hx
      have hrun := run_unsafeString_at (P := P) w pt it o.type e hp hc b off vs.length hsh bs hne (by omega) (by omega) hcell
      refine ⟨.string ⟨bs.toArray⟩, w.freeze ⟨b, off, none⟩ bs.length, π, ?_, ?_, fun _ => .d (.v rfl)⟩
      · unfold execOp
        simp only [hop]
        have e1 : off + 0 * 1 + 0 = off := by omega
        have hax' : Act.eval ⟨tmps, []⟩ x = .pointer (some ⟨b, off, none⟩) := by rw [hax]; simp
        simp [resolve, invoke, builtin, hax', hay, hrun]
      · have hn0 : bs.length ≠ 0 := by simpa using hne
        have hw : w.freeze ⟨b, off, none⟩ bs.length = { w with heap := (w.freeze ⟨b, off, none⟩ bs.length).heap } := by simp [World.freeze, hn0]
        refine tr_gone m hobj hpj ?_ ?_ ?_ ?_ fun c' hc' hne' => ?_
        · rw [hw]
        · rw [hw]
        · rw [hw]; exact ⟨rfl, dr_mono (Nat.le_refl _)⟩
        · simp [World.freeze, hn0]
        · have hne2 : b ≠ c' := by
            rintro rfl
            have hpos : ∃ q, ys.length = q + 1 := ⟨ys.length - 1, by omega⟩
            obtain ⟨q, hq⟩ := hpos
            rw [hq] at hne'
            exact hne' rfl
          simp [World.freeze, hn0, Array.getElem?_modify, hne2]
end
end Ab
set_option linter.unusedSimpArgs false
set_option linter.unusedVariables false
set_option linter.unusedSectionVars false
namespace Ab
open Go
variable [Draws]

def dpreK (T : Tab) (n : Nat) (ops : Array Oper) : Nat → List Oper → Prop → Env → List (Option AObj) → Option (Prop × List Oper × Env)
  | 0, l, nd, env, _ => some (nd, l, env)
  | _ + 1, [], _, _, _ => none
  | k + 1, o :: r, nd, env, objs =>
    match freeIn o r (o.looksAt ops) && aloneIn o r with
    | false => none
    | true => match wantE ops (restr env (o.looksAt ops)) o with
      | .yes => match pstep T o (restr env (o.looksAt ops)) objs with
        | .ok a => match putE n o.dst a env with | some e => dpreK T n ops k r nd e objs | none => none
        | .iff c a => match putE n o.dst a env with | some e => dpreK T n ops k r (c ∧ nd) e objs | none => none
        | .no => none
      | _ => none

section
variable {P : Program} [Globals P] {T : Tab} {f : FuncId} {fn : Func} {n m : Nat} {C : Cx} {R : AV → List (Option AObj) → Prop} {env env0 env' envF : Env} {objs objs' : List (Option AObj)} {ops : Array Oper} {K : Env → Prop} {X : Nat → Prop}

theorem dpreK_sound (hT : TabOk P T) : ∀ (k : Nat) (l : List Oper) (nd : Prop) (env : Env) {nd' : Prop} {l' : List Oper} {env' : Env}, dpreK T n ops k l nd env objs = some (nd', l', env') → nd' → DSat P n X objs ops K l' env' → nd ∧ DSat P n X objs ops K l env
  | 0, l, nd, env, nd', l', env', h, hn, hd => by
    simp only [dpreK, Option.some.injEq, Prod.mk.injEq] at h
    obtain ⟨rfl, rfl, rfl⟩ := h
    exact ⟨hn, hd⟩
  | k + 1, [], _, _, _, _, _, h, _, _ => by simp [dpreK] at h
  | k + 1, o :: r, nd, env, nd', l', env', h, hn, hd => by
    simp only [dpreK] at h
    cases hf : freeIn o r (o.looksAt ops) && aloneIn o r with
    | false => rw [hf] at h; cases h
    | true =>
    rw [hf] at h
    simp only at h
    simp only [Bool.and_eq_true] at hf
    obtain ⟨hf1, hf2⟩ := hf
    cases hw : wantE ops (restr env (o.looksAt ops)) o with
    | yes =>
      rw [hw] at h
      simp only at h
      have quiet : ∀ {a : AV} {e : Env} {c : Prop}, c → (pstep T o (restr env (o.looksAt ops)) objs = .ok a ∨ pstep T o (restr env (o.looksAt ops)) objs = .iff c a) → putE n o.dst a env = some e → DSat P n X objs ops K r e → DSat P n X objs ops K (o :: r) env := by
        intro a e c hc hp hput hr
        refine ds_op hf1 hf2 hput hw (fun π w tmps hm he => ?_) hr
        have hdo := pstep_ok (ds := []) hT hm he o
        rcases hp with hp | hp
        · rw [hp] at hdo
          obtain ⟨v, d1, d2⟩ := hdo
          exact ⟨v, w, d2 w (.refl w), .refl w, d1⟩
        · rw [hp] at hdo
          obtain ⟨v, d1, d2⟩ := hdo hc
          exact ⟨v, w, d2 w (.refl w), .refl w, d1⟩
      cases hp : pstep T o (restr env (o.looksAt ops)) objs with
      | ok a =>
        rw [hp] at h
        simp only at h
        cases hput : putE n o.dst a env with
        | none => rw [hput] at h; cases h
        | some e =>
          rw [hput] at h
          obtain ⟨r1, r2⟩ := dpreK_sound hT k r nd e h hn hd
          exact ⟨r1, quiet trivial (.inl hp) hput r2⟩
      | iff c a =>
        rw [hp] at h
        simp only at h
        cases hput : putE n o.dst a env with
        | none => rw [hput] at h; cases h
        | some e =>
          rw [hput] at h
          obtain ⟨r1, r2⟩ := dpreK_sound hT k r (c ∧ nd) e h hn hd
          exact ⟨r1.2, quiet r1.1 (.inr hp) hput r2⟩
      | no => rw [hp] at h; cases h
    | no => rw [hw] at h; cases h
    | ask t b => rw [hw] at h; cases h
    | dunno => rw [hw] at h; cases h
theorem ds_steps (k : Nat) {l l' : List Oper} {nd' : Prop} (hT : TabOk P T) (h : dpreK T n ops k l True env objs = some (nd', l', env')) (hn : nd') (hd : DSat P n X objs ops K l' env') : DSat P n X objs ops K l env :=
  (dpreK_sound hT k l True env h hn hd).2

/-- Where a slice's cells lie. -/
theorem ds_data {o : Oper} {r : List Oper} {e2 : Env} {x : Operand} {ty : TypeId} {e : TypeId} {j : Nat} {bs : List UInt8} (hop : o.op = .call { callee := .builtin .unsafeSliceData, args := #[x], argTypes := #[ty] }) (hfree : freeIn o r (o.looksAt ops) = true) (halone : aloneIn o r = true) (hw : wantE ops (restr env (o.looksAt ops)) o = .yes)
    (hx : opnd (restr env (o.looksAt ops)) x = some (.gs j)) (hobj : nth objs j = some (some (gL e 1 eU8 0 bs))) (hne : bs ≠ []) (hput : putE n o.dst (.ge j 1 0 0) env = some e2) (h : DSat P n X objs ops K r e2) : DSat P n X objs ops K (o :: r) env := by
  refine ds_op hfree halone hput hw (fun π w tmps m he => ?_) h
  have hv := opnd_rel (ds := []) he hx
  obtain ⟨hd, hpj, hrel⟩ := m.obj j _ hobj
  revert hv
  generalize hax : Act.eval ⟨tmps, []⟩ x = vx
  intro hv
  cases hv with
  | gs hh =>
    rename_i n' c' A
    rw [hpj] at hh
    cases hh
    have hrel' : RelO w (okOf X π objs) π (.grow e 1 (bs.map eU8) (fun i => eU8 (bs.getD i 0))) (.slice A n' c') := hrel
    generalize hys : bs.map eU8 = ys at hrel'
    cases hrel' with
    | gnil => exact absurd (List.map_eq_nil_iff.1 hys) hne
    | grow hb hz hE hu hcl hm hol hr =>
      rename_i b off c us vs fz
      refine ⟨.pointer (some ⟨b, off, none⟩), w, ?_, .refl w, ?_⟩
      · have hrun := Go.Lib.run_unsafeSliceData_row (P := P) (w := w) #[ty] o.type ⟨b, off, none⟩ ys.length (c + 1) (by omega)
        unfold execOp
        simp only [hop]
        simp [resolve, invoke, builtin, hax, hrun]
      · have := RelV.ge (w := w) (ok := okOf X π objs) (π := π) (s := 1) (j := 0) (off := 0) hpj
        simpa using this
/-- The same of a slice without cells: whatever it tells is not looked at. -/
theorem ds_dataNil {o : Oper} {r : List Oper} {e2 : Env} {x : Operand} {ty pe : TypeId} (hop : o.op = .call { callee := .builtin .unsafeSliceData, args := #[x], argTypes := #[ty] }) (hp : P.underlying o.type = some (.pointer pe)) (hfree : freeIn o r (o.looksAt ops) = true) (halone : aloneIn o r = true) (hw : wantE ops (restr env (o.looksAt ops)) o = .yes)
    (hx : opnd (restr env (o.looksAt ops)) x = some (.d (.v (.slice none 0 0)))) (hput : putE n o.dst (.d (.v (.pointer none))) env = some e2) (h : DSat P n X objs ops K r e2) : DSat P n X objs ops K (o :: r) env := by
  refine ds_op hfree halone hput hw (fun π w tmps m he => ?_) h
  have hv := opnd_rel (ds := []) he hx
  revert hv
  generalize hax : Act.eval ⟨tmps, []⟩ x = vx
  intro hv
  cases hv with
  | d hv => cases hv with
    | v _ =>
      refine ⟨.pointer none, w, ?_, .refl w, .d (.v rfl)⟩
      have hrun := Go.Lib.run_unsafeSliceData_nil (P := P) (w := w) #[ty] o.type 0 0
      unfold execOp
      simp only [hop]
      simp [resolve, invoke, builtin, hax, hrun]
theorem sat_noBytes {i : Nat} {r : List Nat} {k : List Item} {o : Oper} {e2 : Env} {x y : Operand} {pt it : TypeId} (ho : ops[i]? = some o) (hw : wantE ops env o = .yes) (hop : o.op = .call { callee := .builtin .unsafeString, args := #[x, y], argTypes := #[pt, it] })
    (hx : opnd env x = some (.d (.v (.pointer none)))) (hy : opnd env y = some (vI .i64 0)) (hput : putE n o.dst (vS .empty) env = some e2) (h : ASat P f n C (.inRegion ops r :: k) e2 objs R) : ASat P f n C (.inRegion ops (i :: r) :: k) env objs R := by
  refine sat_quiet (vS .empty) ho hw (fun X π w tmps m he => ?_) hput h
  have hax := look_ok (P := P) he hx
  have hay := look_ok (P := P) he hy
  have hrun := Go.Lib.run_unsafeString_none (P := P) (w := w) pt it o.type none
  refine ⟨.string .empty, ?_, .d (.v rfl)⟩
  unfold execOp
  simp only [hop]
  simp [resolve, invoke, builtin, hax, hay, hrun]
end
end Ab
namespace Go.Proofs.YtffomfbbplpljaaDoor
open Go Ab Go.RowKit
set_option maxRecDepth 100000
set_option linter.unusedVariables false

@[reducible] def eBy (l : List UInt8) : D := eL 1 eU8 0 l
theorem Dec_call (l : List UInt8) (hl : l ≠ []) : ACall Tryd.prog 70 [.d (eBy l)] [] (fun r o => r = tupOf [vI .i32 ((Go.Lib.decodeGo ⟨l.toArray⟩).1 : Int), vI .i64 ((Go.Lib.decodeGo ⟨l.toArray⟩).2 : Int)]) := by
  intro X π w us hgk m hv
  refine .inl ⟨callFunc_run Tryd.func70 rfl rfl _ _, ?_⟩
  cases hv with | cons hv ht => cases ht with | nil =>
  cases hv with | d hv =>
  have hv' : RelD w (okOf X π []) (.sl 1 (l.map fun x => D.v (.int .u8 (x.toNat : Int))) (fun i => eU8 (l.getD i 0))) _ := hv
  generalize hxs : (l.map fun x => D.v (.int .u8 (x.toNat : Int))) = xs at hv'
  cases hv' with
  | nil hb => exact absurd (List.map_eq_nil_iff.1 hxs) hl
  | sl he hm hc hb hr =>
    rename_i b o c us
    subst hxs
    obtain rfl := relE_enc (enc := fun x : UInt8 => Value.int .u8 (x.toNat : Int)) he
    have hsz : (⟨l.toArray⟩ : ByteArray).size = l.length := by show l.toArray.size = _; simp
    have hcall := Any7.utf8_DecodeRune Tryd.decL ⟨l.toArray⟩ b o c w hgk.tb.1 (fun j hj => by
      rw [hsz] at hj
      have h1 := (hm j (by simpa using hj)).2
      rw [h1]
      have e : (⟨l.toArray⟩ : ByteArray).get! j = l[j] := by
        show l.toArray[j]! = _
        simp [hj]
      rw [e]
      simp [hj])
    rw [hsz] at hcall
    have hll : (l.map fun x => D.v (Value.int .u8 (x.toNat : Int))).length = l.length := by simp
    rw [hll]
    refine Calls.mono hcall ?_
    rintro e w' ⟨rfl, bl⟩
    have t := tr_plain m bl.os bl.tape ⟨bl.output, Nat.le_refl _⟩ bl.size bl.block
    exact ⟨_, _, [], π, rfl, rfl, t.mem, .tp (.cons (.d (.v rfl)) (.cons (.d (.v rfl)) .nil)), t.hist⟩
end Go.Proofs.YtffomfbbplpljaaDoor
namespace Go.Proofs.YtffomfbbplpljaaDoor
open Go Ab Go.RowKit
set_option maxRecDepth 100000
set_option linter.unusedVariables false
set_option linter.unusedSimpArgs false
set_option maxHeartbeats 2000000

theorem strBy (a b : List UInt8) : ((⟨a.toArray⟩ : ByteArray).toList == (⟨b.toArray⟩ : ByteArray).toList) = decide (a = b) := by
  rw [Go.Lib.toList_data, Go.Lib.toList_data]
  simp only [List.toList_toArray]
  by_cases h : a = b
  · simp [h]
  · simp [h]
theorem sizeBy (l : List UInt8) : (⟨l.toArray⟩ : ByteArray).size = l.length := by
  show l.toArray.size = l.length
  simp

theorem isPlace_call (b : List UInt8) (at_ : Int) : ACall Tryd.prog 39 [.d (eBy b), vI .i64 at_] [] (fun r o => r = vB (decide (0 ≤ at_ ∧ at_ ≤ b.length))) := by
  refine acall_enter Tryd.func39 rfl rfl (Nat.le_of_ble_eq_true rfl) fun C hC hCl hDs hGk => ?_
  refine sat_branch tabOk Tryd.func39 rfl trivial (fun h => ?_) (fun h => ?_)
  · have h : decide (at_ ≥ 0) = true := h
    rw [decide_eq_true_eq] at h
    refine sat_ret tabOk Tryd.func39 rfl trivial ?_
    show vB (decide (at_ ≤ ((b.map eU8).length : Int))) = _
    rw [List.length_map]
    congr 2
    simp [h]
  · have h : decide (at_ ≥ 0) = false := h
    rw [decide_eq_false_iff_not] at h
    refine sat_ret tabOk Tryd.func39 rfl trivial ?_
    show vB false = _
    rw [decide_eq_false (fun hh => h hh.1)]
theorem exBy (l : List UInt8) (i j : Nat) : (⟨l.toArray⟩ : ByteArray).extract i j = ⟨((l.take j).drop i).toArray⟩ := by
  apply ByteArray.ext
  apply Array.ext'
  simp [ByteArray.data_extract, List.drop_take, List.extract_eq_take_drop]
theorem pre_take (s p : List UInt8) : p.isPrefixOf s = decide (p.length ≤ s.length ∧ s.take p.length = p) := by
  rw [Bool.eq_iff_iff, List.isPrefixOf_iff_prefix, decide_eq_true_eq]
  constructor
  · rintro ⟨r, rfl⟩
    simp
  · rintro ⟨_, h⟩
    rw [← h]
    exact List.take_prefix _ _
theorem iHasPrefix_call (s p : List UInt8) : ACall Tryd.prog 50 [vTx s, vTx p] [] (fun r o => r = vB (p.isPrefixOf s)) := by
  refine acall_enter Tryd.func50 rfl rfl (Nat.le_of_ble_eq_true rfl) fun C hC hCl hDs hGk => ?_
  refine sat_branch tabOk Tryd.func50 rfl trivial (fun h => ?_) (fun h => ?_)
  · have h : decide ((((⟨s.toArray⟩ : ByteArray).size : Nat) : Int) ≥ (((⟨p.toArray⟩ : ByteArray).size : Nat) : Int)) = true := h
    rw [decide_eq_true_eq, sizeBy, sizeBy] at h
    refine sat_ret tabOk Tryd.func50 rfl ?_ ?_
    · rw [sizeBy, sizeBy]
      exact ⟨⟨by omega, by omega, by omega⟩, trivial⟩
    · show vB (((⟨s.toArray⟩ : ByteArray).extract (Int.toNat 0) (((⟨p.toArray⟩ : ByteArray).size : Nat) : Int).toNat).toList == (⟨p.toArray⟩ : ByteArray).toList) = _
      rw [sizeBy, exBy, strBy, pre_take]
      have hle : p.length ≤ s.length := by omega
      simp [hle]
  · have h : decide ((((⟨s.toArray⟩ : ByteArray).size : Nat) : Int) ≥ (((⟨p.toArray⟩ : ByteArray).size : Nat) : Int)) = false := h
    rw [decide_eq_false_iff_not, sizeBy, sizeBy] at h
    refine sat_ret tabOk Tryd.func50 rfl trivial ?_
    show vB false = _
    rw [pre_take, decide_eq_false (fun hh => h (by have := hh.1; omega))]
theorem HasPrefix_call (s p : List UInt8) : ACall Tryd.prog 40 [vTx s, vTx p] [] (fun r o => r = vB (p.isPrefixOf s)) := by
  refine acall_enter Tryd.func40 rfl rfl (Nat.le_of_ble_eq_true rfl) fun C hC hCl hDs hGk => ?_
  refine sat_call tabOk Tryd.func40 rfl trivial (iHasPrefix_call s p) (.refl _) rfl ⟨_, rfl⟩ (by rintro r o rfl; rfl) ?_
  rintro _ o rfl
  exact sat_ret tabOk Tryd.func40 rfl trivial rfl
theorem byteD_eU8 (x : UInt8) : byteD (eU8 x) = x := by
  show UInt8.ofNat ((x.toNat : Int)).toNat = x
  simp
theorem strD_by (l : List UInt8) : strD (l.map eU8) = ⟨l.toArray⟩ := by
  unfold strD
  rw [List.map_map]
  congr 2
  conv => rhs; rw [← List.map_id l]
  exact List.map_congr_left fun x _ => byteD_eU8 x
theorem isByte_by (l : List UInt8) : ∀ x ∈ l.map eU8, isByteD x = true := by
  intro x hx
  obtain ⟨y, _, rfl⟩ := List.mem_map.1 hx
  rfl
theorem tail_by (b : List UInt8) (i : Nat) (n : Nat) (hn : b.length - i ≤ n) : List.take n (List.drop i (b.map eU8)) = (b.drop i).map eU8 := by
  rw [← List.map_drop, List.take_of_length_le (by simp; omega)]
/-- Does a word stand there? -/
def isAt (b : List UInt8) (at_ : Int) (s : List UInt8) : Bool := decide (0 ≤ at_ ∧ at_ ≤ b.length) && s.isPrefixOf (b.drop at_.toNat)
def isTo (b : List UInt8) (at_ : Int) (s : List UInt8) : Int := if ¬ (0 ≤ at_ ∧ at_ ≤ b.length) then 0 else if s.isPrefixOf (b.drop at_.toNat) = true then at_ + s.length else at_
theorem Is_call (b : List UInt8) (at_ : Int) (s : List UInt8) (hb : b.length ≤ 1000000) (hs : s.length ≤ 1000000) : ACall Tryd.prog 28 [.d (eBy b), vI .i64 at_, vTx s] [] (fun r o => r = tupOf [vI .i64 (isTo b at_ s), vB (isAt b at_ s)]) := by
  refine acall_enter Tryd.func28 rfl rfl (Nat.le_of_ble_eq_true rfl) fun C hC hCl hDs hGk => ?_
  refine sat_call tabOk Tryd.func28 rfl trivial (isPlace_call b at_) (.refl _) rfl ⟨_, rfl⟩ (by rintro r o rfl; rfl) ?_
  rintro _ o rfl
  refine sat_branch tabOk Tryd.func28 rfl trivial (fun h => ?_) (fun h => ?_)
  · rw [Bool.not_eq_true', decide_eq_false_iff_not] at h
    refine sat_ret tabOk Tryd.func28 rfl trivial ?_
    rw [isTo, isAt, if_pos h, decide_eq_false h]
    rfl
  have h : 0 ≤ at_ ∧ at_ ≤ b.length := by
    rw [Bool.not_eq_false', decide_eq_true_eq] at h
    exact h
  refine sat_call tabOk Tryd.func28 rfl ?nd (HasPrefix_call (b.drop at_.toNat) s) ⟨.of ?a0, .refl _, trivial⟩ rfl ⟨_, rfl⟩ (by rintro r o rfl; rfl) ?kk
  case nd =>
    rw [List.length_map, tail_by b _ _ (by omega)]
    exact ⟨isByte_by _, ⟨h.1, h.2, Int.le_refl _⟩, trivial⟩
  case a0 =>
    rw [List.length_map, tail_by b _ _ (by omega), strD_by]
  case kk =>
  rintro _ o rfl
  refine sat_branch tabOk Tryd.func28 rfl trivial (fun h2 => ?_) (fun h2 => ?_)
  · have h2 : s.isPrefixOf (b.drop at_.toNat) = false := by simpa using h2
    refine sat_ret tabOk Tryd.func28 rfl trivial ?_
    rw [isTo, isAt, h2, Bool.and_false, if_neg (fun hh => hh h), if_neg (by simp)]
  · have h2 : s.isPrefixOf (b.drop at_.toNat) = true := by simpa using h2
    refine sat_ret tabOk Tryd.func28 rfl trivial ?_
    rw [isTo, isAt, h2, Bool.and_true, decide_eq_true h, if_neg (fun hh => hh h), if_pos rfl]
    show tupOf [vI .i64 (IntKind.i64.wrap (at_ + (((⟨s.toArray⟩ : ByteArray).size : Nat) : Int))), vB true] = _
    rw [sizeBy, wrap_id (by omega) (by omega)]
end Go.Proofs.YtffomfbbplpljaaDoor
namespace Go.Proofs.YtffomfbbplpljaaDoor
open Go Ab Go.RowKit
set_option maxRecDepth 100000
set_option linter.unusedVariables false
set_option linter.unusedSimpArgs false
set_option maxHeartbeats 2000000

theorem dec_first (c : UInt8) (r : List UInt8) : (c.toNat < 128 → Go.Lib.decodeGo ⟨(c :: r).toArray⟩ = (c.toNat, 1)) ∧ (¬ c.toNat < 128 → 128 ≤ (Go.Lib.decodeGo ⟨(c :: r).toArray⟩).1) := by
  have hsz : (⟨(c :: r).toArray⟩ : ByteArray).size = r.length + 1 := by rw [sizeBy]; rfl
  have h0 : (⟨(c :: r).toArray⟩ : ByteArray).get! 0 = c := by
    show (c :: r).toArray[0]! = c
    simp
  unfold Go.Lib.decodeGo
  rw [if_neg (by rw [hsz]; omega), Go.Lib.decode_at, h0]
  generalize (⟨(c :: r).toArray⟩ : ByteArray).size - 0 = n
  generalize ((⟨(c :: r).toArray⟩ : ByteArray).get! (0 + 1)).toNat = b1
  generalize ((⟨(c :: r).toArray⟩ : ByteArray).get! (0 + 2)).toNat = b2
  generalize ((⟨(c :: r).toArray⟩ : ByteArray).get! (0 + 3)).toNat = b3
  generalize c.toNat = b0
  unfold Go.Lib.decodeN
  constructor
  · intro h
    rw [if_pos h]
  · intro h
    rw [if_neg h]
    repeat' split
    all_goals first | (show 128 ≤ 65533; decide) | (simp only; omega)

@[reducible] def vFn (g : FuncId) : AV := .d (.v (.func (.func g) #[] #[]))
@[reducible] def bFn (g : FuncId) : AObj := .cells 104 [vFn g]
theorem run1_call (g : FuncId) (p : UInt8 → Bool) (hp : ∀ c : UInt8, ACall Tryd.prog g [.d (eU8 c)] [] (fun r o => r = vB (p c))) (R : Nat) : ACall Tryd.prog 66 [vI .i32 (R : Int), .ptr 0 0] [some (bFn g)] (fun r o => r = vB (decide (128 ≤ R) || !p (UInt8.ofNat R)) ∧ o = [some (bFn g)]) := by
  refine acall_enter Tryd.func66 rfl rfl (Nat.le_of_ble_eq_true rfl) fun C hC hCl hDs hGk => ?_
  refine sat_branch tabOk Tryd.func66 rfl trivial (fun h => ?_) (fun h => ?_)
  · have h : decide ((R : Int) ≥ 128) = true := h
    rw [decide_eq_true_eq] at h
    refine sat_ret tabOk Tryd.func66 rfl trivial ⟨?_, rfl⟩
    rw [decide_eq_true (by omega : 128 ≤ R)]
    rfl
  have h : decide ((R : Int) ≥ 128) = false := h
  rw [decide_eq_false_iff_not] at h
  have hlt : R < 128 := by omega
  refine sat_call tabOk Tryd.func66 rfl trivial (hp (UInt8.ofNat R)) ⟨.of ?a0, trivial⟩ rfl ⟨_, rfl⟩ (by rintro r o rfl; rfl) ?kk
  case a0 =>
    show AV.d (.v (.int .u8 (IntKind.u8.wrap (R : Int)))) = AV.d (.v (.int .u8 ((UInt8.ofNat R).toNat : Int)))
    have e1 : (UInt8.ofNat R).toNat = R := by rw [UInt8.toNat_ofNat']; omega
    have e2 : IntKind.u8.wrap (R : Int) = (R : Int) := by simp [IntKind.wrap, IntKind.bits, IntKind.signed]; omega
    rw [e1, e2]
  case kk =>
  rintro _ o rfl
  refine sat_ret tabOk Tryd.func66 rfl trivial ⟨?_, rfl⟩
  rw [decide_eq_false (by omega : ¬ 128 ≤ R), Bool.false_or]
  rfl
/-- How far bytes go on that are so. -/
def runN (p : UInt8 → Bool) (l : List UInt8) : Nat := (l.takeWhile fun c => decide (c.toNat < 128) && p c).length
theorem runN_le (p : UInt8 → Bool) (l : List UInt8) : runN p l ≤ l.length := (List.takeWhile_sublist _).length_le
theorem runN_cons (p : UInt8 → Bool) (c : UInt8) (l : List UInt8) : runN p (c :: l) = if c.toNat < 128 ∧ p c = true then runN p l + 1 else 0 := by
  unfold runN
  rw [List.takeWhile_cons]
  by_cases h : c.toNat < 128 ∧ p c = true
  · rw [if_pos h, if_pos (by simp [h.1, h.2])]
    rfl
  · rw [if_neg h, if_neg (by simpa using h)]
    rfl
def idxA (p : UInt8 → Bool) (l : List UInt8) : Int := if runN p l < l.length then runN p l else -1
theorem indexFunc_call (g : FuncId) (p : UInt8 → Bool) (hp : ∀ c : UInt8, ACall Tryd.prog g [.d (eU8 c)] [] (fun r o => r = vB (p c))) (l : List UInt8) (hl : l.length ≤ 1000000) :
    ACall Tryd.prog 69 [.d (eBy l), .fn (.func 66) [.ptr 0 0], vB true] [some (bFn g)] (fun r o => r = vI .i64 (idxA p l) ∧ o = [some (bFn g)]) := by
  refine acall_enter Tryd.func69 rfl rfl (Nat.le_of_ble_eq_true rfl) fun C hC hCl hDs hGk => ?_
  refine sat_stop tabOk Tryd.func69 rfl trivial ?_
  refine sat_while (α := Nat) (fun i => [(0, .d (eBy l)), (1, .fn (.func 66) [.ptr 0 0]), (2, vB true), (7, vI .i64 (i : Int))]) (fun i => [some (bFn g)]) (fun i => i ≤ l.length ∧ runN p l = i + runN p (l.drop i)) (fun i => l.length - i) 0 ⟨Nat.zero_le _, by simp⟩ ?_ ?_
  · exact fun h => sat_le h hC hCl ⟨⟨_, rfl, .refl _⟩, ⟨_, rfl, .refl _⟩, ⟨_, rfl, .refl _⟩, ⟨_, rfl, .refl _⟩, trivial⟩ ⟨.refl _, trivial⟩ rfl rfl (Nat.le_refl _)
  rintro i ⟨hi, hr⟩ ih
  refine sat_branch tabOk Tryd.func69 rfl trivial (fun hb => ?_) (fun hb => ?_)
  · have hb : decide ((i : Int) < ((l.map eU8).length : Int)) = true := hb
    rw [List.length_map, decide_eq_true_eq] at hb
    have hlt : i < l.length := by omega
    obtain ⟨c, r, hcr⟩ : ∃ c r, l.drop i = c :: r := ⟨_, _, List.drop_eq_getElem_cons hlt⟩
    have hdr : l.drop (i + 1) = r := by rw [← List.drop_drop, hcr]; rfl
    obtain ⟨d1, d2⟩ := dec_first c r
    rw [hcr, runN_cons] at hr
    refine sat_call tabOk Tryd.func69 rfl ?nd (Dec_call (l.drop i) (by rw [hcr]; simp)) ⟨.eL ?a0, trivial⟩ rfl ⟨_, rfl⟩ (by rintro r o rfl; rfl) ?kk
    case nd =>
      simp only [List.length_map]
      exact ⟨⟨by omega, by omega, Int.le_refl _⟩, trivial⟩
    case a0 =>
      rw [List.length_map, Int.toNat_natCast, tail_by l _ _ (by omega)]
    case kk =>
    rintro _ o rfl
    rw [hcr]
    obtain ⟨⟨R, K⟩, hRK⟩ : ∃ q, Go.Lib.decodeGo ⟨(c :: r).toArray⟩ = q := ⟨_, rfl⟩
    rw [hRK] at d1 d2 ⊢
    refine sat_callG [0] tabOk Tryd.func69 rfl trivial (run1_call g p hp R) ⟨⟨_, rfl, .refl _⟩, trivial⟩ (.refl _) rfl rfl rfl ⟨_, rfl⟩ ?_
    rintro _ o ⟨rfl, rfl⟩
    refine sat_branch tabOk Tryd.func69 rfl trivial (fun h2 => ?_) (fun h2 => ?_)
    · have h2 : (decide (128 ≤ R) || !p (UInt8.ofNat R)) = true := by simpa using h2
      refine sat_ret tabOk Tryd.func69 rfl trivial ⟨?_, rfl⟩
      have hno : ¬ (c.toNat < 128 ∧ p c = true) := by
        rintro ⟨q1, q2⟩
        cases d1 q1
        rw [UInt8.ofNat_toNat, q2, decide_eq_false (by omega)] at h2
        exact absurd h2 (by decide)
      rw [if_neg hno] at hr
      rw [idxA, if_pos (by omega), hr]
      rfl
    · have h2 : (decide (128 ≤ R) || !p (UInt8.ofNat R)) = false := by simpa using h2
      rw [Bool.or_eq_false_iff, decide_eq_false_iff_not] at h2
      have hc : c.toNat < 128 := Decidable.byContradiction fun hh => h2.1 (d2 hh)
      cases d1 hc
      have hp2 : p c = true := by
        have := h2.2
        rw [UInt8.ofNat_toNat] at this
        simpa using this
      rw [if_pos ⟨hc, hp2⟩, ← hdr] at hr
      refine sat_stop tabOk Tryd.func69 rfl trivial ?_
      refine sat_le (ih (i + 1) ⟨by omega, by omega⟩ (by omega)) hC hCl ⟨⟨_, rfl, .refl _⟩, ⟨_, rfl, .refl _⟩, ⟨_, rfl, .refl _⟩, ⟨_, rfl, .of (by rw [wrap_id (by omega) (by omega)]; rfl)⟩, trivial⟩ ⟨.refl _, trivial⟩ rfl rfl (Nat.le_refl _)
  · have hb : decide ((i : Int) < ((l.map eU8).length : Int)) = false := hb
    rw [List.length_map, decide_eq_false_iff_not] at hb
    obtain rfl : i = l.length := by omega
    refine sat_ret tabOk Tryd.func69 rfl trivial ⟨?_, rfl⟩
    rw [List.drop_length] at hr
    rw [idxA, if_neg (by have : runN p ([] : List UInt8) = 0 := rfl; omega)]
    rfl
end Go.Proofs.YtffomfbbplpljaaDoor
namespace Go.Proofs.YtffomfbbplpljaaDoor
open Go Ab Go.RowKit
set_option maxRecDepth 100000
set_option linter.unusedVariables false
set_option linter.unusedSimpArgs false
set_option maxHeartbeats 2000000

theorem IndexFunc_call (g : FuncId) (p : UInt8 → Bool) (hp : ∀ c : UInt8, ACall Tryd.prog g [.d (eU8 c)] [] (fun r o => r = vB (p c))) (l : List UInt8) (hl : l.length ≤ 1000000) :
    ACall Tryd.prog 65 [.d (eBy l), .fn (.func 66) [.ptr 0 0]] [some (bFn g)] (fun r o => r = vI .i64 (idxA p l) ∧ o = [some (bFn g)]) := by
  refine acall_enter Tryd.func65 rfl rfl (Nat.le_of_ble_eq_true rfl) fun C hC hCl hDs hGk => ?_
  refine sat_callG [0] tabOk Tryd.func65 rfl trivial (indexFunc_call g p hp l hl) ⟨⟨_, rfl, .refl _⟩, trivial⟩ (.refl _) rfl rfl rfl ⟨_, rfl⟩ ?_
  rintro _ o ⟨rfl, rfl⟩
  exact sat_ret tabOk Tryd.func65 rfl trivial ⟨rfl, rfl⟩
theorem run_call (g : FuncId) (p : UInt8 → Bool) (hp : ∀ c : UInt8, ACall Tryd.prog g [.d (eU8 c)] [] (fun r o => r = vB (p c))) (b : List UInt8) (i : Nat) (hi : i ≤ b.length) (hb : b.length ≤ 1000000) :
    ACall Tryd.prog 58 [.d (eBy b), vI .i64 (i : Int), vFn g] [] (fun r o => r = vI .i64 ((i + runN p (b.drop i) : Nat) : Int)) := by
  refine acall_enter Tryd.func58 rfl rfl (Nat.le_of_ble_eq_true rfl) fun C hC hCl hDs hGk => ?_
  have hdl : (b.drop i).length = b.length - i := List.length_drop
  have hrl := runN_le p (b.drop i)
  refine sat_callG [0] tabOk Tryd.func58 rfl ?nd (IndexFunc_call g p hp (b.drop i) (by omega)) ⟨⟨_, rfl, .refl _⟩, trivial⟩ ⟨.eL ?a0, .refl _, trivial⟩ rfl rfl rfl ⟨_, rfl⟩ ?kk
  case nd =>
    rw [List.length_map]
    exact ⟨⟨by omega, by omega, Int.le_refl _⟩, trivial⟩
  case a0 =>
    rw [List.length_map, Int.toNat_natCast, tail_by b _ _ (by omega)]
  case kk =>
  rintro _ o ⟨rfl, rfl⟩
  have hcase : idxA p (b.drop i) = if runN p (b.drop i) < (b.drop i).length then (runN p (b.drop i) : Int) else -1 := rfl
  generalize idxA p (b.drop i) = q at *
  refine sat_branch tabOk Tryd.func58 rfl trivial (fun h => ?_) (fun h => ?_)
  · have h : decide (q < 0) = true := h
    rw [decide_eq_true_eq] at h
    refine sat_ret tabOk Tryd.func58 rfl trivial ?_
    show vI .i64 (((b.map eU8).length : Nat) : Int) = _
    rw [List.length_map]
    split at hcase
    · omega
    · rw [show i + runN p (b.drop i) = b.length by omega]
  · have h : decide (q < 0) = false := h
    rw [decide_eq_false_iff_not] at h
    refine sat_ret tabOk Tryd.func58 rfl trivial ?_
    show vI .i64 (IntKind.i64.wrap ((i : Int) + q)) = _
    split at hcase
    · rw [wrap_id (by omega) (by omega), hcase]
      rfl
    · omega
theorem digit_call (c : UInt8) : ACall Tryd.prog 59 [.d (eU8 c)] [] (fun r o => r = vB (decide (48 ≤ c.toNat ∧ c.toNat ≤ 57))) := by
  refine acall_enter Tryd.func59 rfl rfl (Nat.le_of_ble_eq_true rfl) fun C hC hCl hDs hGk => ?_
  refine sat_branch tabOk Tryd.func59 rfl trivial (fun h => ?_) (fun h => ?_)
  · have h : decide ((c.toNat : Int) ≥ 48) = true := h
    rw [decide_eq_true_eq] at h
    refine sat_ret tabOk Tryd.func59 rfl trivial ?_
    show vB (decide ((c.toNat : Int) ≤ 57)) = _
    congr 2
    simp only [eq_iff_iff]
    omega
  · have h : decide ((c.toNat : Int) ≥ 48) = false := h
    rw [decide_eq_false_iff_not] at h
    refine sat_ret tabOk Tryd.func59 rfl trivial ?_
    show vB false = _
    rw [decide_eq_false (by omega)]
end Go.Proofs.YtffomfbbplpljaaDoor
namespace Go.Proofs.YtffomfbbplpljaaDoor
open Go Ab Go.RowKit
set_option maxRecDepth 100000
set_option linter.unusedVariables false
set_option linter.unusedSimpArgs false
set_option maxHeartbeats 2000000

@[reducible] def isDig (c : UInt8) : Bool := decide (48 ≤ c.toNat ∧ c.toNat ≤ 57)
def numN (l : List UInt8) : Nat := l.foldl (fun n c => n * 10 + (c.toNat - 48)) 0
theorem numN_snoc (l : List UInt8) (c : UInt8) : numN (l ++ [c]) = numN l * 10 + (c.toNat - 48) := by simp [numN]
theorem foldl_ge (l : List UInt8) : ∀ n, n ≤ l.foldl (fun n c => n * 10 + (c.toNat - 48)) n := by
  induction l with
  | nil => exact fun n => Nat.le_refl _
  | cons c r ih =>
    intro n
    have := ih (n * 10 + (c.toNat - 48))
    simp only [List.foldl_cons]
    omega
theorem getD_at {α : Type} {d : α} {l : List α} {i : Nat} (h : i < l.length) : l.getD i d = l[i] := by simp [List.getD_eq_getElem?_getD, h]
theorem numN_pre (a b : List UInt8) : numN a ≤ numN (a ++ b) := by
  unfold numN
  rw [List.foldl_append]
  exact foldl_ge _ _
def numDs (b : List UInt8) (i : Nat) : List UInt8 := (b.drop i).take (runN isDig (b.drop i))
/-- A number that stands there: its value, the place behind, what is wrong. -/
def numR (b : List UInt8) (i most : Int) : Int × Int × Int :=
  if ¬ (0 ≤ i ∧ i ≤ b.length) then (0, 0, 2)
  else if runN isDig (b.drop i.toNat) = 0 ∨ (b.getD i.toNat 0 = 48 ∧ 1 < runN isDig (b.drop i.toNat)) then (0, i, 2)
  else if min most 2147483647 < numN (numDs b i.toNat) then (0, i, 3)
  else (numN (numDs b i.toNat), i + runN isDig (b.drop i.toNat), 0)
theorem takeW {l : List UInt8} {j : Nat} (h : j < runN isDig l) : ∃ c, l[j]? = some c ∧ isDig c = true := by
  induction l generalizing j with
  | nil => simp [runN] at h
  | cons c r ih =>
    rw [runN_cons] at h
    split at h
    · rename_i hc
      cases j with
      | zero => exact ⟨c, rfl, hc.2⟩
      | succ j => obtain ⟨d, h1, h2⟩ := ih (j := j) (by omega); exact ⟨d, by simpa using h1, h2⟩
    · omega
@[reducible] def numA (q : Int × Int × Int) : AV := tupOf [vI .i64 q.1, vI .i64 q.2.1, vI .i64 q.2.2]

theorem Number_call (b : List UInt8) (i most : Int) (hb : b.length ≤ 1000000) : ACall Tryd.prog 51 [.d (eBy b), vI .i64 i, vI .i64 most] [] (fun r o => r = numA (numR b i most)) := by
  refine acall_enter Tryd.func51 rfl rfl (Nat.le_of_ble_eq_true rfl) fun C hC hCl hDs hGk => ?_
  refine sat_call tabOk Tryd.func51 rfl trivial (isPlace_call b i) (.refl _) rfl ⟨_, rfl⟩ (by rintro r o rfl; rfl) ?_
  rintro _ o rfl
  refine sat_branch tabOk Tryd.func51 rfl trivial (fun h => ?_) (fun h => ?_)
  · rw [Bool.not_eq_true', decide_eq_false_iff_not] at h
    refine sat_ret tabOk Tryd.func51 rfl trivial ?_
    rw [numR, if_pos h]
  have h : 0 ≤ i ∧ i ≤ b.length := by
    rw [Bool.not_eq_false', decide_eq_true_eq] at h
    exact h
  obtain ⟨j, rfl⟩ : ∃ j : Nat, i = j := ⟨i.toNat, by omega⟩
  have hj : j ≤ b.length := by omega
  refine sat_call tabOk Tryd.func51 rfl trivial (run_call 59 isDig digit_call b j hj hb) (.refl _) rfl ⟨_, rfl⟩ (by rintro r o rfl; rfl) ?_
  rintro _ o rfl
  have hR : numR b j most = if runN isDig (b.drop j) = 0 ∨ (b.getD j 0 = 48 ∧ 1 < runN isDig (b.drop j)) then (0, (j : Int), 2) else if min most 2147483647 < numN (numDs b j) then (0, (j : Int), 3) else ((numN (numDs b j) : Int), (j : Int) + runN isDig (b.drop j), 0) := by
    rw [numR, if_neg (fun hh => hh h)]
    rfl
  rw [hR]
  have hkl := runN_le isDig (b.drop j)
  rw [List.length_drop] at hkl
  have htk := @takeW (b.drop j)
  have hds : numDs b j = (b.drop j).take (runN isDig (b.drop j)) := rfl
  clear hR
  generalize numDs b j = ds at *
  generalize runN isDig (b.drop j) = k at *
  refine sat_branch tabOk Tryd.func51 rfl trivial (fun h1 => ?_) (fun h1 => ?_)
  · have h1 : ((((j + k : Nat) : Int)) == (j : Int)) = true := h1
    have h1 : k = 0 := by
      rw [beq_iff_eq] at h1
      omega
    refine sat_branch tabOk Tryd.func51 rfl trivial (fun _ => ?_) (fun h => by cases h)
    refine sat_ret tabOk Tryd.func51 rfl trivial ?_
    rw [if_pos (.inl h1)]
  have h1 : ((((j + k : Nat) : Int)) == (j : Int)) = false := h1
  have hk : 0 < k := by
    rw [beq_eq_false_iff_ne] at h1
    omega
  have wj : IntKind.i64.wrap ((j : Int) + 1) = (j : Int) + 1 := wrap_id (by omega) (by omega)
  have hgo : (¬ (b.getD j 0 = 48 ∧ 1 < k)) → ∀ R0, R0 = (if min most 2147483647 < (numN ds : Int) then ((0 : Int), (j : Int), (3 : Int)) else ((numN ds : Int), (j : Int) + k, 0)) → (if k = 0 ∨ (b.getD j 0 = 48 ∧ 1 < k) then ((0 : Int), (j : Int), (2 : Int)) else if min most 2147483647 < (numN ds : Int) then (0, (j : Int), 3) else ((numN ds : Int), (j : Int) + k, 0)) = R0 := fun hh R0 e => by
    rw [if_neg (fun e => e.elim (fun e => by omega) hh), e]
  have hdl : ds.length = k := by rw [hds, List.length_take, List.length_drop]; omega
  have hdig : ∀ q, q < k → 48 ≤ (ds.getD q 0).toNat ∧ (ds.getD q 0).toNat ≤ 57 := fun q hq => by
    obtain ⟨c, g1, g2⟩ := htk hq
    have : ds.getD q 0 = c := by rw [hds, List.getD_eq_getElem?_getD, List.getElem?_take, if_pos hq, g1]; rfl
    rw [this]
    exact of_decide_eq_true g2
  have hsl : List.take (((j + k : Nat) : Int) - (j : Int)).toNat (List.drop (j : Int).toNat (b.map eU8)) = ds.map eU8 := by
    rw [show (((j + k : Nat) : Int) - (j : Int)).toNat = k by omega, Int.toNat_natCast, hds, List.map_take, List.map_drop]
  apply letK (p := ASat Tryd.prog 51 Tryd.f51.ntmps C _ [(1, vI .i64 (j : Int)), (2, vI .i64 most), (9, vI .i64 ((j + k : Nat) : Int)), (10, vI .i64 0), (40, .d (eBy ds)), (41, vI .i64 (k : Int)), (42, vI .i64 ((0 : Nat) : Int))] [] (fun r o => r = numA (if min most 2147483647 < (numN ds : Int) then ((0 : Int), (j : Int), (3 : Int)) else ((numN ds : Int), (j : Int) + k, 0))))
  · intro key
    refine sat_branch tabOk Tryd.func51 rfl ?nd (fun h2 => ?_) (fun h2 => ?_)
    case nd =>
      simp only [List.length_map]
      exact ⟨⟨by omega, by omega⟩, trivial⟩
    · have h2 : (((b.getD j 0).toNat : Int) == 48) = true := h2
      have h2 : b.getD j 0 = 48 := by
        rw [beq_iff_eq] at h2
        exact UInt8.toNat_inj.1 (by show (b.getD j 0).toNat = 48; omega)
      refine sat_branch tabOk Tryd.func51 rfl trivial (fun h3 => ?_) (fun h3 => ?_)
      · have h3 : decide (((j + k : Nat) : Int) > IntKind.i64.wrap ((j : Int) + 1)) = true := h3
        rw [wj, decide_eq_true_eq] at h3
        refine sat_ret tabOk Tryd.func51 rfl trivial ?_
        rw [if_pos (.inr ⟨h2, by omega⟩)]
      · have h3 : decide (((j + k : Nat) : Int) > IntKind.i64.wrap ((j : Int) + 1)) = false := h3
        rw [wj, decide_eq_false_iff_not] at h3
        rw [hgo (fun hh => by omega) _ rfl]
        refine sat_stop tabOk Tryd.func51 rfl ?nd2 ?_
        case nd2 =>
          simp only [List.length_map]
          exact ⟨⟨by omega, by omega, by omega⟩, trivial⟩
        refine sat_le key hC hCl ⟨⟨_, rfl, .refl _⟩, ⟨_, rfl, .refl _⟩, ⟨_, rfl, .refl _⟩, ⟨_, rfl, .refl _⟩, ⟨_, rfl, .eL hsl⟩, ⟨_, rfl, .of ?_⟩, ⟨_, rfl, .refl _⟩, trivial⟩ trivial rfl rfl (Nat.zero_le _)
        show vI .i64 (((List.take (((j + k : Nat) : Int) - (j : Int)).toNat (List.drop (j : Int).toNat (b.map eU8))).length : Nat) : Int) = _
        rw [hsl, List.length_map, hdl]
    · have h2 : (((b.getD j 0).toNat : Int) == 48) = false := h2
      have h2 : b.getD j 0 ≠ 48 := fun e => by rw [e] at h2; exact absurd h2 (by decide)
      rw [hgo (fun hh => h2 hh.1) _ rfl]
      refine sat_branch tabOk Tryd.func51 rfl trivial (fun h => by cases h) (fun _ => ?_)
      refine sat_stop tabOk Tryd.func51 rfl ?nd3 ?_
      case nd3 =>
        simp only [List.length_map]
        exact ⟨⟨by omega, by omega, by omega⟩, trivial⟩
      refine sat_le key hC hCl ⟨⟨_, rfl, .refl _⟩, ⟨_, rfl, .refl _⟩, ⟨_, rfl, .refl _⟩, ⟨_, rfl, .refl _⟩, ⟨_, rfl, .eL hsl⟩, ⟨_, rfl, .of ?_⟩, ⟨_, rfl, .refl _⟩, trivial⟩ trivial rfl rfl (Nat.zero_le _)
      show vI .i64 (((List.take (((j + k : Nat) : Int) - (j : Int)).toNat (List.drop (j : Int).toNat (b.map eU8))).length : Nat) : Int) = _
      rw [hsl, List.length_map, hdl]
  refine sat_while (α := Nat) (fun q => [(1, vI .i64 (j : Int)), (2, vI .i64 most), (9, vI .i64 ((j + k : Nat) : Int)), (10, vI .i64 ((numN (ds.take q) : Nat) : Int)), (40, .d (eBy ds)), (41, vI .i64 (k : Int)), (42, vI .i64 ((q : Nat) : Int))]) (fun q => []) (fun q => q ≤ k ∧ (q = 0 ∨ (numN (ds.take q) : Int) ≤ min most 2147483647)) (fun q => k - q) 0 ⟨Nat.zero_le _, .inl rfl⟩ ?_ ?_
  · exact fun h => sat_le h hC hCl ⟨⟨_, rfl, .refl _⟩, ⟨_, rfl, .refl _⟩, ⟨_, rfl, .refl _⟩, ⟨_, rfl, .refl _⟩, ⟨_, rfl, .refl _⟩, ⟨_, rfl, .refl _⟩, ⟨_, rfl, .refl _⟩, trivial⟩ trivial rfl rfl (Nat.zero_le _)
  rintro q ⟨hq, hn⟩ ih
  have hnb : numN (ds.take q) ≤ 2147483647 := by
    rcases hn with rfl | hn
    · simp [numN]
    · omega
  refine sat_branch tabOk Tryd.func51 rfl trivial (fun hb2 => ?_) (fun hb2 => ?_)
  · have hb2 : decide ((q : Int) < (k : Int)) = true := hb2
    rw [decide_eq_true_eq] at hb2
    have hlt : q < k := by omega
    obtain ⟨g1, g2⟩ := hdig q hlt
    have hsn : numN (ds.take (q + 1)) = numN (ds.take q) * 10 + ((ds.getD q 0).toNat - 48) := by
      rw [List.take_succ_eq_append_getElem (by omega), numN_snoc, getD_at (d := 0) (by omega)]
    have e0 : IntKind.u8.wrap (((ds.getD q 0).toNat : Int) - 48) = ((ds.getD q 0).toNat : Int) - 48 := by
      generalize (ds.getD q 0).toNat = v at g1 g2
      simp [IntKind.wrap, IntKind.bits, IntKind.signed]
      omega
    have e1 : IntKind.i64.wrap (IntKind.i64.wrap (((numN (ds.take q) : Nat) : Int) * 10) + IntKind.i64.wrap (IntKind.u8.wrap (((ds.getD q 0).toNat : Int) - 48))) = ((numN (ds.take (q + 1)) : Nat) : Int) := by
      rw [e0, wrap_id (n := ((numN (ds.take q) : Nat) : Int) * 10) (by omega) (by omega), wrap_id (n := ((ds.getD q 0).toNat : Int) - 48) (by omega) (by omega), wrap_id (by omega) (by omega), hsn]
      omega
    refine sat_branch tabOk Tryd.func51 rfl ?nd (fun h4 => ?_) (fun h4 => ?_)
    case nd =>
      simp only [List.length_map]
      exact ⟨⟨by omega, by omega⟩, trivial⟩
    · have h4 : decide (IntKind.i64.wrap (IntKind.i64.wrap (((numN (ds.take q) : Nat) : Int) * 10) + IntKind.i64.wrap (IntKind.u8.wrap (((ds.getD q 0).toNat : Int) - 48))) > min most 2147483647) = true := h4
      rw [e1, decide_eq_true_eq] at h4
      have hpre := numN_pre (ds.take (q + 1)) (ds.drop (q + 1))
      rw [List.take_append_drop] at hpre
      refine sat_ret tabOk Tryd.func51 rfl trivial ?_
      rw [if_pos (by omega)]
    · have h4 : decide (IntKind.i64.wrap (IntKind.i64.wrap (((numN (ds.take q) : Nat) : Int) * 10) + IntKind.i64.wrap (IntKind.u8.wrap (((ds.getD q 0).toNat : Int) - 48))) > min most 2147483647) = false := h4
      rw [e1, decide_eq_false_iff_not] at h4
      refine sat_stop tabOk Tryd.func51 rfl trivial ?_
      exact sat_le (ih (q + 1) ⟨by omega, .inr (by omega)⟩ (by omega)) hC hCl ⟨⟨_, rfl, .refl _⟩, ⟨_, rfl, .refl _⟩, ⟨_, rfl, .refl _⟩, ⟨_, rfl, .of (by show vI .i64 _ = _; rw [← e1]; rfl)⟩, ⟨_, rfl, .refl _⟩, ⟨_, rfl, .refl _⟩, ⟨_, rfl, .of (by rw [wrap_id (by omega) (by omega)]; rfl)⟩, trivial⟩ trivial rfl rfl (Nat.zero_le _)
  · have hb2 : decide ((q : Int) < (k : Int)) = false := hb2
    rw [decide_eq_false_iff_not] at hb2
    obtain rfl : q = k := by omega
    rw [List.take_of_length_le (by omega)] at hn hnb ⊢
    refine sat_ret tabOk Tryd.func51 rfl trivial ?_
    rw [if_neg (by rcases hn with e | e <;> omega)]
    show tupOf [vI .i64 _, vI .i64 ((j + q : Nat) : Int), vI .i64 0] = _
    rw [show ((j + q : Nat) : Int) = (j : Int) + q by omega]
end Go.Proofs.YtffomfbbplpljaaDoor
namespace Go.Proofs.YtffomfbbplpljaaDoor
open Go Ab Go.RowKit
set_option maxRecDepth 100000
set_option linter.unusedVariables false
set_option linter.unusedSimpArgs false
set_option maxHeartbeats 2000000

@[reducible] def sMinus : List UInt8 := [45]
def signR (b : List UInt8) (i most : Int) : Int × Int × Int :=
  if ¬ (0 ≤ i ∧ i ≤ b.length) then (0, 0, 2)
  else if isAt b i sMinus = false then numR b (isTo b i sMinus) most
  else if (numR b (isTo b i sMinus) most).2.2 = 0 ∧ (numR b (isTo b i sMinus) most).1 = 0 then (0, i, 2)
  else if (numR b (isTo b i sMinus) most).2.2 ≠ 0 then (0, i, (numR b (isTo b i sMinus) most).2.2)
  else (-(numR b (isTo b i sMinus) most).1, (numR b (isTo b i sMinus) most).2.1, 0)
theorem numR_bd (b : List UInt8) (i most : Int) : 0 ≤ (numR b i most).1 ∧ (numR b i most).1 ≤ 2147483647 := by
  unfold numR
  split
  · exact ⟨by decide, by decide⟩
  · split
    · exact ⟨by simp, by simp⟩
    · split
      · exact ⟨by simp, by simp⟩
      · exact ⟨by simp, by simp only; omega⟩

theorem Signed_call (b : List UInt8) (i most : Int) (hb : b.length ≤ 1000000) : ACall Tryd.prog 41 [.d (eBy b), vI .i64 i, vI .i64 most] [] (fun r o => r = numA (signR b i most)) := by
  refine acall_enter Tryd.func41 rfl rfl (Nat.le_of_ble_eq_true rfl) fun C hC hCl hDs hGk => ?_
  refine sat_call tabOk Tryd.func41 rfl trivial (isPlace_call b i) (.refl _) rfl ⟨_, rfl⟩ (by rintro r o rfl; rfl) ?_
  rintro _ o rfl
  refine sat_branch tabOk Tryd.func41 rfl trivial (fun h => ?_) (fun h => ?_)
  · rw [Bool.not_eq_true', decide_eq_false_iff_not] at h
    refine sat_ret tabOk Tryd.func41 rfl trivial ?_
    rw [signR, if_pos h]
  have h : 0 ≤ i ∧ i ≤ b.length := by
    rw [Bool.not_eq_false', decide_eq_true_eq] at h
    exact h
  have hS : signR b i most = if isAt b i sMinus = false then numR b (isTo b i sMinus) most
    else if (numR b (isTo b i sMinus) most).2.2 = 0 ∧ (numR b (isTo b i sMinus) most).1 = 0 then (0, i, 2)
    else if (numR b (isTo b i sMinus) most).2.2 ≠ 0 then (0, i, (numR b (isTo b i sMinus) most).2.2)
    else (-(numR b (isTo b i sMinus) most).1, (numR b (isTo b i sMinus) most).2.1, 0) := by
    rw [signR, if_neg (fun hh => hh h)]
  rw [hS]
  clear hS
  refine sat_call tabOk Tryd.func41 rfl trivial (Is_call b i sMinus hb (by decide)) (.refl _) rfl ⟨_, rfl⟩ (by rintro r o rfl; rfl) ?_
  rintro _ o rfl
  have hbd := numR_bd b (isTo b i sMinus) most
  refine sat_call tabOk Tryd.func41 rfl trivial (Number_call b (isTo b i sMinus) most hb) (.refl _) rfl ⟨_, rfl⟩ (by rintro r o rfl; rfl) ?_
  rintro _ o rfl
  generalize numR b (isTo b i sMinus) most = q at *
  obtain ⟨n, e, er⟩ := q
  cases hneg : isAt b i sMinus with
  | false =>
    refine sat_branch tabOk Tryd.func41 rfl trivial (fun _ => ?_) (fun h => by cases h)
    refine sat_ret tabOk Tryd.func41 rfl trivial ?_
    rw [if_pos rfl]
  | true =>
    refine sat_branch tabOk Tryd.func41 rfl trivial (fun h => by cases h) (fun _ => ?_)
    rw [if_neg (by decide)]
    refine sat_branch tabOk Tryd.func41 rfl trivial (fun h1 => ?_) (fun h1 => ?_)
    · obtain rfl : er = 0 := by simpa using h1
      refine sat_branch tabOk Tryd.func41 rfl trivial (fun h2 => ?_) (fun h2 => ?_)
      · obtain rfl : n = 0 := by simpa using h2
        refine sat_ret tabOk Tryd.func41 rfl trivial ?_
        rw [if_pos ⟨rfl, rfl⟩]
      · have h2 : n ≠ 0 := by simpa using h2
        refine sat_branch tabOk Tryd.func41 rfl trivial (fun h => by cases h) (fun _ => ?_)
        refine sat_ret tabOk Tryd.func41 rfl trivial ?_
        rw [if_neg (fun hh => h2 hh.2), if_neg (by simp)]
        show tupOf [vI .i64 (IntKind.i64.wrap (0 - n)), _, _] = _
        rw [wrap_id (by simp only at hbd; omega) (by simp only at hbd; omega), Int.zero_sub]
    · have h1 : er ≠ 0 := by simpa using h1
      refine sat_branch tabOk Tryd.func41 rfl trivial (fun h => by cases h) (fun _ => ?_)
      refine sat_branch tabOk Tryd.func41 rfl trivial (fun _ => ?_) (fun h3 => ?_)
      · refine sat_ret tabOk Tryd.func41 rfl trivial ?_
        rw [if_neg (fun hh => h1 hh.1), if_pos h1]
      · exact absurd (show er = 0 by simpa using h3) h1
end Go.Proofs.YtffomfbbplpljaaDoor
set_option linter.unusedSimpArgs false
set_option linter.unusedVariables false
set_option linter.unusedSectionVars false
namespace Ab
open Go
variable [Draws]

section
variable {P : Program} [Globals P] {T : Tab} {f : FuncId} {fn : Func} {n m : Nat} {C : Cx} {R : AV → List (Option AObj) → Prop} {todo todo' k : List Item} {env env0 env' envF E : Env} {objs objs' objs1 : List (Option AObj)} {nd : Prop} {ops : Array Oper} {l : List Oper} {K : Env → Prop} {X : Nat → Prop}

end
end Ab
set_option linter.unusedSimpArgs false
set_option linter.unusedVariables false
set_option linter.unusedSectionVars false
namespace Ab
open Go
variable [Draws]

mutual
theorem RelV.monoT {w w' : World} {ok ok' : Nat → Prop} {π π' : List Value} (hk : Keeps w ok w' ok') (hp : ∀ j h, nth π j = some h → h ≠ .tuple #[] → nth π' j = some h) {a : AV} {v : Value} : RelV w ok π a v → RelV w' ok' π' a v
  | .d h => .d (h.mono hk)
  | .ro h hm => .ro (h.mono hk) (keeps_run hk hm)
  | .ptr h => .ptr (hp _ _ h (by intro e; cases e))
  | .gs h => .gs (hp _ _ h (by intro e; cases e))
  | .ge h => .ge (hp _ _ h (by intro e; cases e))
  | .mp h => .mp (hp _ _ h (by intro e; cases e))
  | .e0 => .e0
  | .lit => .lit
  | .und => .und
  | .orc => .orc
  | .ag h hf => .ag (h.monoT hk hp) hf
  | .tp h => .tp (h.monoT hk hp)
  | .fn h => .fn (h.monoT hk hp)
  | .ifc h => .ifc (h.monoT hk hp)
  | .dead => .dead
theorem RelVs.monoT {w w' : World} {ok ok' : Nat → Prop} {π π' : List Value} (hk : Keeps w ok w' ok') (hp : ∀ j h, nth π j = some h → h ≠ .tuple #[] → nth π' j = some h) {a : List AV} {v : List Value} : RelVs w ok π a v → RelVs w' ok' π' a v
  | .nil => .nil
  | .cons h t => .cons (h.monoT hk hp) (t.monoT hk hp)
end
theorem RelEs.monoT {w w' : World} {ok ok' : Nat → Prop} {π π' : List Value} (hk : Keeps w ok w' ok') (hp : ∀ j h, nth π j = some h → h ≠ .tuple #[] → nth π' j = some h) : ∀ {a : List (Value × AV)} {v : List MapEntry}, RelEs w ok π a v → RelEs w' ok' π' a v
  | _, _, .nil => .nil
  | _, _, .cons h t => .cons (h.monoT hk hp) (t.monoT hk hp)
theorem RelO.monoT {w w' : World} {ok ok' : Nat → Prop} {π π' : List Value} (hk : Keeps w ok w' ok') (hp : ∀ j h, nth π j = some h → h ≠ .tuple #[] → nth π' j = some h) {o : AObj} {h : Value} (hh : ∀ b, blk h = some b → w'.heap[b]? = w.heap[b]?) : RelO w ok π o h → RelO w' ok' π' o h
  | .cells hb h hf => .cells ((hh _ rfl).trans hb) (h.monoT hk hp) hf
  | .gnil => .gnil
  | .grow hb hz h hu hc hm ho hr => .grow ((hh _ rfl).trans hb) hz (h.mono hk) hu hc hm ho hr
  | .map hb h => .map ((hh _ rfl).trans hb) (h.monoT hk hp)
  | .hold h => .hold (h.monoT hk hp)

/-- A place that is kept for an object. -/
def HD : AObj := .hold (.d (.v .nilIface)) .nilIface
theorem relHD {w : World} {ok : Nat → Prop} {π : List Value} : RelO w ok π HD (.tuple #[]) := .hold (.d (.v rfl))
theorem handHD {w : World} {ok : Nat → Prop} {π : List Value} {h : Value} : RelO w ok π HD h → h = .tuple #[] := by
  intro h
  cases h
  rfl

theorem nth_setIf {α : Type} {l : List α} {i j : Nat} {x : α} : nth (setNth l i x) j = if i = j then (if j < l.length then some x else none) else nth l j := by
  rw [setNth_eq, nth_eq, nth_eq, List.getElem?_set]
  split
  · rename_i e
    subst e
    rfl
  · rfl

/-- A place is filled: the object lies in new memory, or in none. -/
theorem fill {X : Nat → Prop} {π : List Value} {objs : List (Option AObj)} {w w' : World} (m : Mem X π objs w) {p : Nat} (hp : nth objs p = some (some HD)) (hos : w'.os = w.os) (htape : w'.tape = w.tape) (hout : w'.output = w.output ∧ dr w ≤ dr w') (hsz : w.heap.size ≤ w'.heap.size) (hw : ∀ b, b < w.heap.size → w'.heap[b]? = w.heap[b]?)
    (h : Value) (o : AObj) (hh : ∀ b, blk h = some b → w.heap.size ≤ b) (hrel : RelO w' (okOf X (setNth π p h) (setNth objs p (some o))) (setNth π p h) o h) :
    Mem X (setNth π p h) (setNth objs p (some o)) w' ∧
      (∀ {π0 : List Value} {objs0 : List (Option AObj)} {w0 : World}, π0.length ≤ p → Hist π0 objs0 w0 π objs w → Hist π0 objs0 w0 (setNth π p h) (setNth objs p (some o)) w') ∧
      (∀ a v, RelV w (okOf X π objs) π a v → RelV w' (okOf X (setNth π p h) (setNth objs p (some o))) (setNth π p h) a v) := by
  have hpl := nth_lt hp
  have hml := m.len
  obtain ⟨h0, hp0, hr0⟩ := m.obj p _ hp
  obtain rfl := handHD hr0
  have hsame : ∀ {j : Nat} {x : Value}, nth (setNth π p h) j = some x → (j = p ∧ x = h) ∨ (j ≠ p ∧ nth π j = some x) := by
    intro j x hj
    rw [nth_setIf] at hj
    split at hj
    · rename_i e
      split at hj
      · cases hj; exact .inl ⟨e.symm, rfl⟩
      · cases hj
    · rename_i e
      exact .inr ⟨fun e2 => e e2.symm, hj⟩
  have hsameO : ∀ {j : Nat} {x : AObj}, nth (setNth objs p (some o)) j = some (some x) → (j = p ∧ x = o) ∨ (j ≠ p ∧ nth objs j = some (some x)) := by
    intro j x hj
    rw [nth_setIf] at hj
    split at hj
    · rename_i e
      split at hj
      · cases hj; exact .inl ⟨e.symm, rfl⟩
      · cases hj
    · rename_i e
      exact .inr ⟨fun e2 => e e2.symm, hj⟩
  have hok : ∀ b, b < w.heap.size → okOf X π objs b → okOf X (setNth π p h) (setNth objs p (some o)) b := by
    intro b hb hk
    refine ⟨hk.1, fun i o' h' h1 h2 => ?_⟩
    rcases hsame h2 with ⟨rfl, rfl⟩ | ⟨hne, h3⟩
    · intro hc
      have := hh _ hc
      omega
    · rcases hsameO h1 with ⟨rfl, _⟩ | ⟨_, h4⟩
      · exact absurd rfl hne
      · exact hk.2 i o' h' h4 h3
  have hk : Keeps w (okOf X π objs) w' (okOf X (setNth π p h) (setNth objs p (some o))) := by
    intro b off u h1 h2
    have hb := cell_lt h2
    refine ⟨hok b hb h1, ?_⟩
    unfold World.cell? at h2 ⊢
    rw [hw b hb]
    exact h2
  have hpp : ∀ j x, nth π j = some x → x ≠ .tuple #[] → nth (setNth π p h) j = some x := by
    intro j x hj hx
    rw [nth_setIf, if_neg ?_]
    · exact hj
    · rintro rfl
      rw [hp0] at hj
      cases hj
      exact hx rfl
  have hblk : ∀ {j : Nat} {x : AObj} {y : Value} {b : Nat}, nth objs j = some (some x) → nth π j = some y → blk y = some b → b < w.heap.size := fun h1 h2 h3 => m.lt h1 h2 h3
  refine ⟨⟨by rw [setNth_length, setNth_length]; exact hml, ?_, ?_, ?_, fun b hx => Nat.lt_of_lt_of_le (m.inX b hx) hsz⟩, ?_, fun a v h1 => h1.monoT hk hpp⟩
  · intro i o' ho
    rcases hsameO ho with ⟨rfl, rfl⟩ | ⟨hne, h1⟩
    · exact ⟨h, by rw [nth_setIf, if_pos rfl, if_pos (by omega)], hrel⟩
    · obtain ⟨k, h2, h3⟩ := m.obj i o' h1
      exact ⟨k, by rw [nth_setIf, if_neg (fun e => hne e.symm)]; exact h2, h3.monoT hk hpp (fun b e => hw b (h3.lt e))⟩
  · intro i j o1 o2 h1 h2 b hne ho1 ho2 hp1 hp2 hb1 hb2
    rcases hsameO ho1 with ⟨rfl, rfl⟩ | ⟨hi, e1⟩ <;> rcases hsameO ho2 with ⟨rfl, rfl⟩ | ⟨hj, e2⟩
    · exact hne rfl
    · rcases hsame hp1 with ⟨_, rfl⟩ | ⟨hc, _⟩
      · rcases hsame hp2 with ⟨rfl, _⟩ | ⟨_, h4⟩
        · exact hj rfl
        · have := hblk e2 h4 hb2
          have := hh _ hb1
          omega
      · exact hc rfl
    · rcases hsame hp2 with ⟨_, rfl⟩ | ⟨hc, _⟩
      · rcases hsame hp1 with ⟨rfl, _⟩ | ⟨_, h4⟩
        · exact hi rfl
        · have := hblk e1 h4 hb1
          have := hh _ hb2
          omega
      · exact hc rfl
    · rcases hsame hp1 with ⟨rfl, _⟩ | ⟨_, h3⟩
      · exact hi rfl
      · rcases hsame hp2 with ⟨rfl, _⟩ | ⟨_, h4⟩
        · exact hj rfl
        · exact m.dist i j o1 o2 h1 h2 b hne e1 e2 h3 h4 hb1 hb2
  · intro i o' h' b ho' hp' hb' hx
    rcases hsameO ho' with ⟨rfl, rfl⟩ | ⟨hi, e1⟩
    · rcases hsame hp' with ⟨_, rfl⟩ | ⟨hc, _⟩
      · have := hh _ hb'
        have := m.inX b hx
        omega
      · exact hc rfl
    · rcases hsame hp' with ⟨rfl, _⟩ | ⟨_, h4⟩
      · exact hi rfl
      · exact m.ext i o' h' b e1 h4 hb' hx
  · intro π0 objs0 w0 hle hst
    refine ⟨hos.trans hst.os, htape.trans hst.tape, ⟨hout.1.trans hst.output.1, Nat.le_trans hst.output.2 hout.2⟩, Nat.le_trans hst.size hsz, ?_, ?_, ?_⟩
    · intro b hb hn
      rw [hw b (Nat.lt_of_lt_of_le hb hst.size)]
      exact hst.heap b hb hn
    · intro i o' h' b ho' hp' hb'
      rcases hsameO ho' with ⟨rfl, rfl⟩ | ⟨hi, e1⟩
      · rcases hsame hp' with ⟨_, rfl⟩ | ⟨hc, _⟩
        · exact .inl (Nat.le_trans hst.size (hh _ hb'))
        · exact absurd rfl hc
      · rcases hsame hp' with ⟨rfl, _⟩ | ⟨_, h4⟩
        · exact absurd rfl hi
        · exact hst.own i o' h' b e1 h4 hb'
    · intro i x hi hs
      have h1 := nth_lt hi
      rw [nth_setIf, if_neg (by omega)]
      exact hst.hand i x hi hs

section
variable {P : Program} [Globals P] {T : Tab} {f : FuncId} {fn : Func} {n m : Nat} {C : Cx} {R : AV → List (Option AObj) → Prop} {todo todo' k : List Item} {env env0 env' envF : Env} {objs objs' : List (Option AObj)} {nd : Prop} {ops : Array Oper} {l : List Oper} {K : Env → Prop} {X : Nat → Prop}

structure StepH (C : Cx) (O : List Nat → List (Option AObj)) (L : List Nat) (j : Nat) (π : List Value) (w : World) (π' : List Value) (w2 : World) : Prop where
  mem : Mem C.X π' (O (j :: L)) w2
  hist : Hist C.π C.objs C.w π (O L) w → Hist C.π C.objs C.w π' (O (j :: L)) w2
  keep : ∀ a v, RelV w (okOf C.X π (O L)) π a v → RelV w2 (okOf C.X π' (O (j :: L))) π' a v
/-- What an operation does, whenever it is come to, whatever acted ahead of it. -/
def HeadH (P : Program) [Globals P] (n : Nat) (C : Cx) (O : List Nat → List (Option AObj)) (m : Nat) (ops : Array Oper) (envF : Env) (j : Nat) (o : Oper) : Prop :=
  ∀ L, (∀ q ∈ L, q < m) → j ∉ L → (∀ q, waitsB ops j q = true → q ∈ L) → (∀ q ∈ L, ∀ q', waitsB ops q q' = true → q' ∈ L) → ∀ π w tmps, tmps.size = n → Mem C.X π (O L) w → GOk P π (O L) w → (∀ t ∈ o.looksAt ops, ∀ a, look envF t = some a → RelV w (okOf C.X π (O L)) π a (tmps.getD t undef)) →
    (Region.wanted o (yielded ops tmps) = false ∧ ∃ π', StepH C O L j π w π' w ∧ PutOk n w (okOf C.X π' (O (j :: L))) π' envF o undef) ∨
    (Region.wanted o (yielded ops tmps) = true ∧
      ((∃ v w2 π', (execOp (Act.eval ⟨tmps, []⟩) o).run P w = .ok (.value v) w2 ∧ StepH C O L j π w π' w2 ∧ PutOk n w2 (okOf C.X π' (O (j :: L))) π' envF o v) ∨
       (∃ w2 π', (execOp (Act.eval ⟨tmps, []⟩) o).run P w = .ok .skip w2 ∧ StepH C O L j π w π' w2 ∧ PutOk n w2 (okOf C.X π' (O (j :: L))) π' envF o undef) ∨
       (∃ g args, (execOp (Act.eval ⟨tmps, []⟩) o).run P w = .ok (.enter g args) w ∧ Calls P g args w fun e w2 => ∃ v π', e = .returned v ∧ StepH C O L j π w π' w2 ∧ PutOk n w2 (okOf C.X π' (O (j :: L))) π' envF o v)))

/-- A head and a chain behind it; or all is the head. -/
def drawZ (ops : Array Oper) (m : Nat) : Bool := drawB ops m || (decide (m = ops.size) && backB ops && apartB ops m)
theorem drawn_soundH {O : List Nat → List (Option AObj)} {objsF : List (Option AObj)} (hmx : P.follows .mixedOrders = true) (hB : drawZ ops m = true) (hops : ∀ j o, j < m → ops[j]? = some o → HeadH P n C O m ops envF j o)
    (hO0 : O [] = objs) (hOF : ∀ L, (∀ i, i < m → i ∈ L) → O L = objsF)
    (henv : ∀ t, (∀ j, j < m → dstIs ops j t = false) → ∀ a, look envF t = some a → ∃ b, look env0 t = some b ∧ VLe b a)
    (hK : ASat P f n C (.inRegion ops (List.range' m (ops.size - m)) :: k) envF objsF R) {id : Nat} (hGk : GOk P C.π C.objs C.w := by with_reducible assumption) : ASat P f n C (.code (.region id ops true) :: k) env0 objs R := by
  obtain ⟨hms, hback, hsc, hap⟩ : m ≤ ops.size ∧ backB ops = true ∧ (m < ops.size → sinkTB ops m = true ∧ chainTB ops m = true) ∧ apartB ops m = true := by
    simp only [drawZ, drawB, Bool.or_eq_true, Bool.and_eq_true, decide_eq_true_eq] at hB
    rcases hB with ⟨⟨⟨⟨h1, h2⟩, h3⟩, h4⟩, h5⟩ | ⟨⟨h1, h2⟩, h5⟩
    · exact ⟨by omega, h2, fun _ => ⟨h3, h4⟩, h5⟩
    · exact ⟨by omega, h2, fun h => by omega, h5⟩
  have hap : ∀ j o, j < m → ops[j]? = some o → (∀ k, k < m → k ≠ j → ∀ d, o.dst = some d → dstIs ops k d = false) ∧ ∀ k, k < m → ∀ t ∈ o.looksAt ops, dstIs ops k t = true → waitsB ops j k = true := by
    intro j o hj ho
    have h1 := List.all_eq_true.1 hap j (List.mem_range.2 hj)
    rw [ho] at h1
    have h2 : ∀ k, k < m → ((decide (k = j) || dstFree ops o k) = true ∧ (o.looksAt ops).all (fun t => !dstIs ops k t || waitsB ops j k) = true) := fun k hk => by
      have := List.all_eq_true.1 h1 k (List.mem_range.2 hk)
      simpa only [Bool.and_eq_true] using this
    refine ⟨fun k hk hne d hd => ?_, fun k hk t ht hd => ?_⟩
    · have := (h2 k hk).1
      unfold dstFree at this
      rw [hd] at this
      simpa [hne] using this
    · have := List.all_eq_true.1 (h2 k hk).2 t ht
      simpa [hd] using this
  intro π w tmps0 hn hm hh he
  have hl1 : Later w { w with drawn := w.drawn + 1 } := ⟨rfl, rfl, ⟨rfl, dr_mono (Nat.le_succ _)⟩, Nat.le_refl _, fun _ _ => rfl⟩
  have htr1 := hl1.tr hm
  have key : ∀ (fuel t : Nat) (listed : Array Bool) (L : List Nat) (tmps : Array Value) (w' : World) (π : List Value), Lst ops m L listed → L.length + fuel = ops.size → Mem C.X π (O L) w' → Hist C.π C.objs C.w π (O L) w' → tmps.size = n →
      (∀ j ∈ L, ∀ o, ops[j]? = some o → ∀ d, o.dst = some d → ∃ b, look envF d = some b ∧ RelV w' (okOf C.X π (O L)) π b (tmps.getD d undef)) →
      (∀ t, (∀ j, j < m → dstIs ops j t = false) → ∀ a, look envF t = some a → RelV w' (okOf C.X π (O L)) π a (tmps.getD t undef)) →
      Sat P f C.ds (.inRegion ops (Region.linearise.go .any ops fuel t listed []) :: k) tmps w' (APost C R) := by
    have fin : ∀ (L : List Nat) (tmps : Array Value) (w' : World) (π : List Value), (∀ i, i < m → i ∈ L) → Mem C.X π (O L) w' → Hist C.π C.objs C.w π (O L) w' → tmps.size = n →
        (∀ j ∈ L, ∀ o, ops[j]? = some o → ∀ d, o.dst = some d → ∃ b, look envF d = some b ∧ RelV w' (okOf C.X π (O L)) π b (tmps.getD d undef)) →
        (∀ t, (∀ j, j < m → dstIs ops j t = false) → ∀ a, look envF t = some a → RelV w' (okOf C.X π (O L)) π a (tmps.getD t undef)) →
        Sat P f C.ds (.inRegion ops (List.range' m (ops.size - m)) :: k) tmps w' (APost C R) := by
      intro L tmps w' π hall hm hh hsz hdone hrest
      rw [hOF L hall] at hm hh hdone hrest
      refine hK π w' tmps hsz hm hh fun u a hu => ?_
      by_cases hd : ∃ j, j < m ∧ dstIs ops j u = true
      · obtain ⟨j, hj, hd⟩ := hd
        obtain ⟨o, ho, hdo⟩ := dstIs_iff.1 hd
        obtain ⟨b, hb, hr⟩ := hdone j (hall j hj) o ho u hdo
        rw [hu] at hb
        cases hb
        exact hr
      · have hd' : ∀ j, j < m → dstIs ops j u = false := fun j hj => by
          cases hx : dstIs ops j u with
          | false => rfl
          | true => exact absurd ⟨j, hj, hx⟩ hd
        exact hrest u hd' a hu
    intro fuel
    induction fuel with
    | zero =>
      intro t listed L tmps w' π hL hlen hm hh hsz hdone hrest
      have hLm := nodup_le hL.nd (b := List.range m) fun y hy => List.mem_range.2 (hL.lt y hy)
      rw [List.length_range] at hLm
      have hall : ∀ i, i < m → i ∈ L := fun i hi => by
        apply Classical.byContradiction
        intro hiL
        have := nodup_le (List.nodup_cons.2 ⟨hiL, hL.nd⟩) (b := List.range m) fun y hy => by
          rcases List.mem_cons.1 hy with rfl | hy
          · exact List.mem_range.2 hi
          · exact List.mem_range.2 (hL.lt y hy)
        rw [List.length_range, List.length_cons] at this
        omega
      have := fin L tmps w' π hall hm hh hsz hdone hrest
      rw [show ops.size - m = 0 by omega] at this
      simpa [Region.linearise.go] using this
    | succ fuel ih =>
      intro t listed L tmps w' π hL hlen hm hh hsz hdone hrest
      have hLm := nodup_le hL.nd (b := List.range m) fun y hy => List.mem_range.2 (hL.lt y hy)
      rw [List.length_range] at hLm
      by_cases hall : ∀ i, i < m → i ∈ L
      · have hml := nodup_le (List.nodup_range (n := m)) (b := L) fun y hy => hall y (List.mem_range.1 hy)
        rw [List.length_range] at hml
        have hfu : fuel + 1 = ops.size - m := by omega
        obtain ⟨hsink, hchain⟩ := hsc (by omega)
        rw [hfu]
        have hg := go_chain hback hchain (ops.size - m) t listed (.inl (by omega)) (by omega) hL.size (fun i hi => by
          rw [hL.mem i hi, show ops.size - (ops.size - m) = m by omega]
          exact ⟨fun h => hL.lt i h, fun h => hall i h⟩)
        rw [hg, show ops.size - (ops.size - m) = m by omega]
        exact fin L tmps w' π hall hm hh hsz hdone hrest
      · have hex : ∃ i, i ∈ Region.ready .any ops listed := by
          have hmin : ∀ q i, i ≤ q → i < m → i ∉ L → ∃ j, j < m ∧ j ∉ L ∧ ∀ j', j' < j → j' ∈ L := by
            intro q
            induction q with
            | zero => intro i hi hm hL; exact ⟨i, hm, hL, by omega⟩
            | succ q ihq =>
              intro i hi him hiL
              by_cases hx : ∃ j', j' < i ∧ j' ∉ L
              · obtain ⟨j', h1, h2⟩ := hx
                exact ihq j' (by omega) (by omega) h2
              · exact ⟨i, him, hiL, fun j' hj' => Decidable.byContradiction fun h2 => hx ⟨j', hj', h2⟩⟩
          obtain ⟨i, hi⟩ := Classical.not_forall.1 hall
          have hi1 : i < m := Classical.byContradiction fun h => hi fun h2 => absurd h2 h
          have hi2 : i ∉ L := fun h => hi fun _ => h
          obtain ⟨j, h1, h2, h3⟩ := hmin i i (Nat.le_refl _) hi1 hi2
          refine ⟨j, (ready_iff (by omega) hL).2 ⟨by omega, h2, ops[j], Array.getElem?_eq_getElem (by omega), fun e hee hb => ?_⟩⟩
          have hlt := backB_spec hback (Array.getElem?_eq_getElem (by omega : j < ops.size)) hee hb
          exact (hL.mem e.on (by omega)).2 (h3 e.on hlt)
        rw [go_succ]
        have hlen2 : 0 < (Region.ready .any ops listed).length := List.length_pos_of_mem hex.choose_spec
        have hmod : t % (Region.ready .any ops listed).length < (Region.ready .any ops listed).length := Nat.mod_lt _ hlen2
        rw [List.getElem?_eq_getElem hmod]
        simp only
        have hir : (Region.ready .any ops listed)[t % (Region.ready .any ops listed).length] ∈ Region.ready .any ops listed := List.getElem_mem hmod
        generalize (Region.ready .any ops listed)[t % (Region.ready .any ops listed).length] = i at hir
        have him : i < m := by
          apply Classical.byContradiction
          intro hge
          have hilt : i < ops.size := ((ready_iff (by omega) hL).1 hir).1
          obtain ⟨hsink, hchain⟩ := hsc (by omega)
          exact hall (all_listed (by omega) hsink hback hL (by omega) hchain hir).2
        obtain ⟨his, hiL, o, ho, hdeps⟩ := (ready_iff (by omega) hL).1 hir
        obtain ⟨ha1, ha2⟩ := hap i o him ho
        have hlooks : ∀ u ∈ o.looksAt ops, ∀ a, look envF u = some a → RelV w' (okOf C.X π (O L)) π a (tmps.getD u undef) := by
          intro u hu a hua
          by_cases hd : ∃ j, j < m ∧ dstIs ops j u = true
          · obtain ⟨j, hj, hd⟩ := hd
            have hw := ha2 j hj u hu hd
            obtain ⟨o2, ho2, e, hee, hb, heq⟩ := waitsB_spec hw
            rw [ho] at ho2
            cases ho2
            have hjL := listed_of hL (hdeps e hee hb)
            rw [heq] at hjL
            obtain ⟨oj, hoj, hdj⟩ := dstIs_iff.1 hd
            obtain ⟨b, hb2, hr⟩ := hdone j hjL oj hoj u hdj
            rw [hua] at hb2
            cases hb2
            exact hr
          · have hd' : ∀ j, j < m → dstIs ops j u = false := fun j hj => by
              cases hx : dstIs ops j u with
              | false => rfl
              | true => exact absurd ⟨j, hj, hx⟩ hd
            exact hrest u hd' a hua
        have hL' : Lst ops m (i :: L) (listed.setIfInBounds i true) := by
          refine ⟨by simpa using hL.size, fun j hj => ?_, List.nodup_cons.2 ⟨hiL, hL.nd⟩, fun j hj => ?_, fun j hj oj hoj e hee hb => ?_⟩
          · by_cases e : i = j
            · subst e
              rw [show (listed.setIfInBounds i true).getD i false = true by simp [hL.size, hj]]
              simp
            · rw [show (listed.setIfInBounds i true).getD j false = listed.getD j false by simp [Array.getElem?_setIfInBounds, e]]
              rw [hL.mem j hj, List.mem_cons]
              exact ⟨.inr, fun h => h.resolve_left fun h2 => e h2.symm⟩
          · rcases List.mem_cons.1 hj with rfl | hj
            · exact him
            · exact hL.lt j hj
          · rcases List.mem_cons.1 hj with rfl | hj
            · rw [ho] at hoj
              cases hoj
              exact List.mem_cons_of_mem _ (listed_of hL (hdeps e hee hb))
            · exact List.mem_cons_of_mem _ (hL.cl j hj oj hoj e hee hb)
        have hdeps2 : ∀ q, waitsB ops i q = true → q ∈ L := by
          intro q hq
          obtain ⟨o2, ho2, e, hee, hb, heq⟩ := waitsB_spec hq
          rw [ho] at ho2
          cases ho2
          rw [← heq]
          exact listed_of hL (hdeps e hee hb)
        have hcl2 : ∀ q ∈ L, ∀ q', waitsB ops q q' = true → q' ∈ L := by
          intro q hqL q' hq
          obtain ⟨o2, ho2, e, hee, hb, heq⟩ := waitsB_spec hq
          rw [← heq]
          exact hL.cl q hqL o2 ho2 e hee hb
        have next : ∀ (v : Value) (w2 : World) (π' : List Value), StepH C O L i π w' π' w2 → PutOk n w2 (okOf C.X π' (O (i :: L))) π' envF o v → Sat P f C.ds (.inRegion ops (Region.linearise.go .any ops fuel (t / (Region.ready .any ops listed).length) (listed.setIfInBounds i true) []) :: k) (putT o.dst v tmps) w2 (APost C R) := by
          intro v w2 π' hst hput
          refine ih _ _ (i :: L) _ w2 π' hL' (by simp only [List.length_cons]; omega) hst.mem (hst.hist hh) ?_ ?_ ?_
          · cases hd : o.dst with
            | none => exact hsz
            | some d => simpa [putT] using hsz
          · intro j hj0 oj hoj d hd
            rcases List.mem_cons.1 hj0 with e | hj
            · subst e
              rw [ho] at hoj
              cases hoj
              obtain ⟨h1, b, h2, h3⟩ := hput d hd
              refine ⟨b, h2, ?_⟩
              rw [hd, getD_putT, if_pos ⟨rfl, by rw [hsz]; exact h1⟩]
              exact h3
            · obtain ⟨b, h2, h3⟩ := hdone j hj oj hoj d hd
              refine ⟨b, h2, ?_⟩
              have hne : ∀ d', o.dst = some d' → d' ≠ d := by
                rintro d' hd' rfl
                have := ha1 j (hL.lt j hj) (fun e => hiL (e ▸ hj)) d' hd'
                rw [dstIs_iff.2 ⟨oj, hoj, hd⟩] at this
                cases this
              cases hdo : o.dst with
              | none => exact hst.keep _ _ h3
              | some d' =>
                rw [getD_putT, if_neg fun hh => hne d' hdo hh.1]
                exact hst.keep _ _ h3
          · intro u hu a hua
            have h3 := hst.keep _ _ (hrest u hu a hua)
            cases hdo : o.dst with
            | none => exact h3
            | some d' =>
              rw [getD_putT, if_neg fun hh => ?_]
              · exact h3
              · have := hu i him
                rw [dstIs_iff.2 ⟨o, ho, by rw [hdo, hh.1]⟩] at this
                cases this
        rcases hops i o him ho L (fun q hq => hL.lt q hq) hiL hdeps2 hcl2 π w' tmps hsz hm (hGk.hist hh) hlooks with ⟨hw, hput⟩ | ⟨hw, ⟨v, w2, π', hrun, hst, hput⟩ | ⟨w2, π', hrun, hst, hput⟩ | ⟨g, args, hrun, hcall⟩⟩
        · obtain ⟨π', hst, hput⟩ := hput
          exact .opSkip ho hw (next undef w' π' hst hput)
        · exact .opVal ho hw hrun (next v w2 π' hst hput)
        · exact .opUnit ho hw hrun (next undef w2 π' hst hput)
        · exact .opCall ho hw hrun (hcall.mono fun e w2 ⟨v, π', h1, h2, h3⟩ => ⟨v, h1, next v w2 π' h2 h3⟩)
  refine .step (fun kd cs => step_draw) ?_
  simp only [Region.schedule, hmx, Bool.true_or, if_true]
  subst hO0
  refine key ops.size _ _ [] tmps0 _ π ⟨by simp, fun i hi => ?_, List.nodup_nil, by simp, by simp⟩ (by simp) htr1.mem (hist_tr hh htr1) hn (by simp) (fun u hu a hua => ?_)
  · simp [hi]
  · obtain ⟨b, hb, hle⟩ := henv u hu a hua
    exact rel_later hl1 (hle _ _ _ _ (he u b hb))



theorem sat_pad1 (h : ASat P f n C todo env (objs ++ [some HD]) R) : ASat P f n C todo env objs R := by
  intro π w tmps hn hm hh he
  have htr : Tr C.X π objs w none (π ++ [.tuple #[]]) (objs ++ [some HD]) w := tr_newW hm rfl rfl ⟨rfl, dr_mono (Nat.le_refl _)⟩ (Nat.le_refl _) (fun _ _ => rfl) _ _ (by intro b e; cases e) relHD
  exact h _ w tmps hn htr.mem (hist_tr hh htr) (env_tr he htr)
theorem sat_pad (k : Nat) (h : ASat P f n C todo env (objs ++ List.replicate k (some HD)) R) : ASat P f n C todo env objs R := by
  induction k generalizing objs with
  | zero => simpa using h
  | succ k ih =>
    refine sat_pad1 (ih ?_)
    rw [List.append_assoc]
    exact h

/-- An operation that does not act. -/
theorem headH_of {O : List Nat → List (Option AObj)} {j : Nat} {o : Oper} (hO : ∀ L, O (j :: L) = O L) (h : ∀ L, HeadOp P n C.X (O L) ops envF o) : HeadH P n C O m ops envF j o := by
  have st : ∀ {L : List Nat} {π : List Value} {w w2 : World}, Mem C.X π (O L) w → Later w w2 → StepH C O L j π w π w2 := by
    intro L π w w2 hm l
    have htr := l.tr hm
    refine ⟨by rw [hO]; exact htr.mem, fun hh => by rw [hO]; exact hh.trans htr.hist, fun a v h => ?_⟩
    rw [hO]
    exact rel_later l h
  intro L _ _ _ _ π w tmps hs hm hgk hl
  rcases h L π w tmps hs hm hgk hl with ⟨hw, hp⟩ | ⟨hw, ⟨v, w2, hr, hlt, hp⟩ | ⟨g, args, hr, hc⟩⟩
  · exact .inl ⟨hw, π, st hm (.refl w), by rw [hO]; exact hp⟩
  · exact .inr ⟨hw, .inl ⟨v, w2, π, hr, st hm hlt, by rw [hO]; exact hp⟩⟩
  · exact .inr ⟨hw, .inr (.inr ⟨g, args, hr, hc.mono fun e w2 ⟨v, h1, h2, h3⟩ => ⟨v, π, h1, st hm h2, by rw [hO]; exact h3⟩⟩)⟩

/-- The region. -/
theorem sat_drawH (m kk : Nat) (O : List Nat → List (Option AObj)) (envF : Env) {id : Nat} {objsF : List (Option AObj)} (hT : TabOk P T) (hf : P.funcs[f]? = some fn) (hmx : P.follows .mixedOrders = true) (h : srun T n fn.results.toList 2000 True todo env objs = .draw nd id ops k env' objs') (hn : nd)
    (hB : drawZ ops m = true) (hO0 : O [] = objs' ++ List.replicate kk (some HD)) (hOF : ∀ L, (∀ i, i < m → i ∈ L) → O L = objsF)
    (hops : ∀ j o, j < m → ops[j]? = some o → HeadH P n C O m ops envF j o)
    (henv : ∀ t, (∀ j, j < m → dstIs ops j t = false) → ∀ a, look envF t = some a → ∃ b, look env' t = some b ∧ VLe b a)
    (hk : ASat P f n C (.inRegion ops (List.range' m (ops.size - m)) :: k) envF objsF R) (hGk : GOk P C.π C.objs C.w := by with_reducible assumption) : ASat P f n C todo env objs R := by
  suffices hcc : Cont P f n C R (.draw nd id ops k env' objs') from (run_sound hT hf 2000 True todo env objs (by rw [h]; exact hcc)).2
  exact ⟨hn, sat_pad kk (drawn_soundH hmx hB hops hO0 hOF henv hk)⟩

theorem look_skip {t : Nat} : ∀ {A E : Env}, (∀ x ∈ A, x.1 ≠ t) → look (A ++ E) t = look E t
  | [], _, _ => rfl
  | (d, a) :: r, E, h => by
    have h1 : d ≠ t := h (d, a) (List.mem_cons_self ..)
    show look ((d, a) :: (r ++ E)) t = _
    rw [look_cons, if_neg h1]
    exact look_skip fun x hx => h x (List.mem_cons_of_mem _ hx)
theorem headOp_env {o : Oper} {E : Env} (hl : ∀ t ∈ o.looksAt ops, look envF t = look E t) (hd : ∀ d, o.dst = some d → look envF d = look E d) (h : HeadOp P n X objs ops E o) : HeadOp P n X objs ops envF o := by
  intro π w tmps hs hm hgk hlk
  have hlk' : ∀ t ∈ o.looksAt ops, ∀ b, look E t = some b → RelV w (okOf X π objs) π b (tmps.getD t undef) := fun t ht b hb => hlk t ht b (by rw [hl t ht]; exact hb)
  have hp : ∀ {w : World} {v : Value}, PutOk n w (okOf X π objs) π E o v → PutOk n w (okOf X π objs) π envF o v := fun hp u hu => by
    obtain ⟨h1, b, h2, h3⟩ := hp u hu
    exact ⟨h1, b, by rw [hd u hu]; exact h2, h3⟩
  rcases h π w tmps hs hm hgk hlk' with ⟨hw, h1⟩ | ⟨hw, ⟨v, w2, hr, hlt, h1⟩ | ⟨g, args, hr, hc⟩⟩
  · exact .inl ⟨hw, hp h1⟩
  · exact .inr ⟨hw, .inl ⟨v, w2, hr, hlt, hp h1⟩⟩
  · exact .inr ⟨hw, .inr ⟨g, args, hr, hc.mono fun e w2 ⟨v, a1, a2, a3⟩ => ⟨v, a1, a2, hp a3⟩⟩⟩

/-- A variable or a cell of the call's own is written. -/
theorem headH_skip {O : List Nat → List (Option AObj)} {j : Nat} {o : Oper} {E : Env} {a : AV} {c : Option Prop} (hT : TabOk P T) (hw : wantE ops (restr E (o.looksAt ops)) o = .yes) (hE : ∀ t ∈ o.looksAt ops, ∀ b, look E t = some b → look envF t = some b)
    (hs : ∀ L, j ∉ L → estep T o (restr E (o.looksAt ops)) (O L) = some ⟨c, true, a, none, O (j :: L)⟩) (hc : cond c) (hdst : o.dst = none) : HeadH P n C O m ops envF j o := by
  intro L _ hjL _ _ π w tmps hsz hm hgk hlk
  have he : EnvRel w (okOf C.X π (O L)) π (restr E (o.looksAt ops)) tmps := fun t b ht => by
    obtain ⟨h1, h2⟩ := look_restr ht
    exact hlk t h1 b (hE t h1 b h2)
  have hst := estep_ok (ds := []) hT hm he o
  rw [hs L hjL] at hst
  obtain ⟨v, w', π', h1, h2, _⟩ := hst hc
  refine .inr ⟨(wanted_of he).1 hw, .inr (.inl ⟨w', π', h1, ⟨h2.mem, fun hh => hh.trans h2.hist, h2.keep⟩, fun d hd => ?_⟩)⟩
  rw [hdst] at hd
  cases hd

abbrev Acts := List (Nat × Option (Tmp × AV))
def actE (A : Acts) : Env := A.filterMap (·.2)
def actB (A : Acts) (j : Nat) : Bool := A.any fun x => Nat.beq x.1 j
/-- The head's operations that do not act. -/
def quietOps (ops : Array Oper) (m : Nat) (A : Acts) : List Oper := ((List.range m).filter fun j => !actB A j).filterMap fun j => ops[j]?
/-- No operation of the head that does not act looks at what one tells that does, nor tells it. -/
def seeB (ops : Array Oper) (m : Nat) (A : Acts) : Bool := (List.range m).all fun j => actB A j || match ops[j]? with
  | some o => (actE A).all fun x => !(o.looksAt ops).contains x.1 && o.dst != some x.1
  | none => true

/-- The region, its quiet operations shown together, those that act one by one. -/
theorem sat_drawA (m kk : Nat) (A : Acts) (O : List Nat → List (Option AObj)) (E : Env) {id : Nat} {objsF : List (Option AObj)} (hT : TabOk P T) (hf : P.funcs[f]? = some fn) (hmx : P.follows .mixedOrders = true) (h : srun T n fn.results.toList 2000 True todo env objs = .draw nd id ops k env' objs') (hn : nd)
    (hB : drawZ ops m = true) (hsee : seeB ops m A = true) (hO0 : O [] = objs' ++ List.replicate kk (some HD)) (hOF : ∀ L, (∀ i, i < m → i ∈ L) → O L = objsF) (hOj : ∀ j L, actB A j = false → O (j :: L) = O L)
    (hAm : (A.all fun x => Nat.blt x.1 m) = true) (hD : ∀ L, DSat P n C.X (O L) ops (fun x => x = E) (quietOps ops m A) env')
    (hA : ∀ x ∈ A, ∃ oe, ops[x.1]? = some oe ∧ oe.dst = x.2.map (·.1) ∧ HeadH P n C O m ops (actE A ++ E) x.1 oe)
    (hk : ASat P f n C (.inRegion ops (List.range' m (ops.size - m)) :: k) (actE A ++ E) objsF R) (hGk : GOk P C.π C.objs C.w := by with_reducible assumption) : ASat P f n C todo env objs R := by
  have hq : ∀ {j : Nat} {o : Oper}, j < m → actB A j = false → ops[j]? = some o → o ∈ quietOps ops m A := by
    intro j o hj hb ho
    unfold quietOps
    rw [List.mem_filterMap]
    exact ⟨j, List.mem_filter.2 ⟨List.mem_range.2 hj, by rw [hb]; rfl⟩, ho⟩
  have hns : ∀ {j : Nat} {o : Oper}, j < m → actB A j = false → ops[j]? = some o → ∀ x ∈ actE A, x.1 ∉ o.looksAt ops ∧ o.dst ≠ some x.1 := by
    intro j o hj hb ho x hx
    have h1 := List.all_eq_true.1 hsee j (List.mem_range.2 hj)
    rw [hb, ho] at h1
    have h1' : ((actE A).all fun x => !(o.looksAt ops).contains x.1 && o.dst != some x.1) = true := by simpa only [Bool.false_or] using h1
    have h2 := List.all_eq_true.1 h1' x hx
    simpa using h2
  refine sat_drawH m kk O (actE A ++ E) hT hf hmx h hn hB hO0 hOF ?_ ?_ hk
  · intro j o hj ho
    cases hb : actB A j with
    | false =>
      refine headH_of (fun L => hOj j L hb) fun L => ?_
      obtain ⟨E0, a1, a2, a3, rfl⟩ := hD L
      have hn2 := hns hj hb ho
      refine headOp_env (fun t ht => look_skip fun x hx e => (hn2 x hx).1 (e ▸ ht)) (fun d hd => look_skip fun x hx e => (hn2 x hx).2 (e ▸ hd)) (a3 o (hq hj hb ho))
    | true =>
      obtain ⟨x, hx, hxe⟩ := List.any_eq_true.1 hb
      obtain rfl : x.1 = j := Nat.eq_of_beq_eq_true hxe
      obtain ⟨oe, h1, _, h3⟩ := hA x hx
      rw [ho] at h1
      cases h1
      exact h3
  · intro t ht a ha
    have hne : ∀ x ∈ actE A, x.1 ≠ t := by
      rintro x hx rfl
      obtain ⟨y, hy, hyx⟩ := List.mem_filterMap.1 hx
      obtain ⟨oe, h1, h2, _⟩ := hA y hy
      rw [hyx] at h2
      have hym := List.all_eq_true.1 hAm y hy
      have := ht y.1 (by simpa [Nat.blt_eq] using hym)
      rw [dstIs_iff.2 ⟨oe, h1, by simpa using h2⟩] at this
      cases this
    rw [look_skip hne] at ha
    obtain ⟨E0, a1, a2, a3, rfl⟩ := hD []
    refine a1 t (fun o ho hd => ?_) a ha
    unfold quietOps at ho
    rw [List.mem_filterMap] at ho
    obtain ⟨j, hj, ho⟩ := ho
    have hj := List.mem_range.1 (List.mem_filter.1 hj).1
    have := ht j hj
    rw [dstIs_iff.2 ⟨o, ho, hd⟩] at this
    cases this
end
end Ab
set_option linter.unusedVariables false
set_option linter.unusedSectionVars false
namespace Ab
open Go
variable [Draws]

theorem ACall.frzO (ι : List Nat) {P : Program} [Globals P] {f : FuncId} {az : List AV} {objs o1 o2 o3 : List (Option AObj)} {r1 r2 r3 : AV} {env2 : Env} (h : ACall P f az objs (fun r o => r = r1 ∧ o = o1)) (hz : frzI ι [] o1 [r1] = some (env2, o2, [r2])) (hle : VLe r2 r3) (hO : subO o3 o2) (hb : refsB o3.length r3 = true) (hro : refsO o3.length o3 = true) (hl : objs.length ≤ o3.length) : ACall P f az objs (fun r o => r = r3 ∧ o = o3) := by
  have h2 : ACall P f az objs (fun r o => r = r2 ∧ o = o2) := by
    intro X π w vs g m hv
    refine (h X π w vs g m hv).mono ?_
    rintro e w' ⟨v, r, o, π', rfl, ⟨rfl, rfl⟩, hm, hrel, hh⟩
    obtain ⟨m2, h2, _, r2⟩ := freeze_all (C := ⟨X, π, objs, w, [], fun _ => False⟩) (tmps := #[]) ι hz hm hh (fun t a ht => by simp [look] at ht) (.cons hrel .nil)
    cases r2 with | cons hr _ => exact ⟨v, _, o2, π', rfl, ⟨rfl, rfl⟩, m2, hr, h2⟩
  refine h2.less ?_
  rintro r o ⟨rfl, rfl⟩
  exact ⟨r3, o3, ⟨rfl, rfl⟩, hle, hO, hb, hro, hl⟩
end Ab
