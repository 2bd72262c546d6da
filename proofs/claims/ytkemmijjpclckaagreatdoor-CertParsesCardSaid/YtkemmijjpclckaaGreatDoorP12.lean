/- A part of the proof. -/
import Derived.Test.YtkemmijjpclckaaGreatDoorP11
import Derived.Lib.UnsafeStr
import Derived.Lib.Builder
set_option linter.unusedVariables false
set_option linter.unusedSimpArgs false
set_option linter.unusedSectionVars false
set_option maxRecDepth 100000
set_option maxHeartbeats 8000000
namespace Ab
open Go
variable [Draws]
section
variable {P : Program} [Globals P] {T : Tab} {f : FuncId} {fn : Func} {n : Nat} {C : Cx} {R : AV → List (Option AObj) → Prop} {todo todo' k : List Item} {env env' : Env} {objs objs' : List (Option AObj)} {nd : Prop} {ops : Array Oper}
theorem z2e {i : Nat} {r : List Nat} {o : Oper} {e : Env} (a : AV) (ho : ops[i]? = some o) (hw : wantE ops env o = .yes)
  (hdo : ∀ X π w tmps, Mem X π objs w → zz w (okOf X π objs) π env tmps → ∃ v, (execOp (Act.eval ⟨tmps, []⟩) o).run P w = .ok (.value v) w ∧ RelV w (okOf X π objs) π a v) (hput : putE n o.dst a env = some e)
  (h : ASat P f n C (.inRegion ops r :: k) e objs R) : ASat P f n C (.inRegion ops (i :: r) :: k) env objs R := by
 refine z5r ⟨none, false, a, none, objs⟩ ho hw (fun X π w tmps m he _ => ?_) trivial hput h
 obtain ⟨v, h1, h2⟩ := hdo X π w tmps m he
 exact ⟨v, w, π, h1, z2l m rfl rfl ⟨rfl, zv (Nat.le_refl _)⟩ (Nat.le_refl _) (fun _ _ => rfl), fun _ => h2⟩
theorem z7w {X : Nat → Prop} {π : List Value} {w : World} (m : Mem X π objs w) {i off : Nat} {e : TypeId} {cs : List AV} {v : Value} (ho : nth objs i = some (some (.cells e cs))) (h : RelV w (okOf X π objs) π (.ptr i off) v) :
  ∃ b, v = .pointer (some ⟨b, off, none⟩) ∧ w.shape? b = some (e, cs.length) := by
 cases h with
 | ptr hp =>
  obtain ⟨h', hp', hrel⟩ := m.obj i _ ho
  rw [hp] at hp'
  cases hp'
  cases hrel with
  | cells hb hcs hf =>
   refine ⟨_, rfl, ?_⟩
   rw [World.shape?, hb]
   simp [hcs.length]
theorem zed {i : Nat} {r : List Nat} {o : Oper} {e : Env} {src dst t el : TypeId} {x : Operand} {j : Nat} {cs : List AV} {sz : Nat} (ho : ops[i]? = some o) (hw : wantE ops env o = .yes) (hop : o.op = .convert src dst x) (hx : opnd env x = some (.ptr j 0))
  (hobj : nth objs j = some (some (.cells el cs))) (hc : 0 < cs.length) (hs : P.underlying src = some (.pointer t)) (hd : P.underlying dst = some .unsafePointer) (ht0 : (P.info? t).map (·.size) = some (sz + 1)) (hput : putE n o.dst (.ptr j 0) env = some e)
  (h : ASat P f n C (.inRegion ops r :: k) e objs R) : ASat P f n C (.inRegion ops (i :: r) :: k) env objs R := by
 obtain ⟨inf, ht, hz0⟩ := Option.map_eq_some_iff.1 ht0
 refine z2e (.ptr j 0) ho hw (fun X π w tmps m he => ?_) hput h
 have hv := zk (ds := []) he hx
 obtain ⟨b, hb, hsh⟩ := z7w m hobj hv
 have hrun := Go.Lib.run_to_unsafe (P := P) (w := w) ⟨b, 0, none⟩ hs hd ht (by omega) hsh (by simpa using hc)
 refine ⟨_, ?_, hv⟩
 unfold execOp
 simp only [hop, hb]
 simp only [Sem.run_bind, hrun, Result.andThen_ok, Sem.run_pure]
theorem zbr {i : Nat} {r : List Nat} {o : Oper} {e : Env} {src dst t el : TypeId} {x : Operand} {j : Nat} {cs : List AV} {sz : Nat} (ho : ops[i]? = some o) (hw : wantE ops env o = .yes) (hop : o.op = .convert src dst x) (hx : opnd env x = some (.ptr j 0))
  (hobj : nth objs j = some (some (.cells el cs))) (hs : P.underlying src = some .unsafePointer) (hd : P.underlying dst = some (.pointer t)) (ht0 : (P.info? t).map (·.size) = some sz) (hl : liesAt P P.depth el (cs.length / P.cellsOf el) 0 t 1 = true) (hput : putE n o.dst (.ptr j 0) env = some e)
  (h : ASat P f n C (.inRegion ops r :: k) e objs R) : ASat P f n C (.inRegion ops (i :: r) :: k) env objs R := by
 obtain ⟨inf, ht, hz0⟩ := Option.map_eq_some_iff.1 ht0
 refine z2e (.ptr j 0) ho hw (fun X π w tmps m he => ?_) hput h
 have hv := zk (ds := []) he hx
 obtain ⟨b, hb, hsh⟩ := z7w m hobj hv
 have hrun := Go.Lib.run_from_unsafe (P := P) (w := w) ⟨b, 0, none⟩ hs hd ht hsh hl
 refine ⟨_, ?_, hv⟩
 unfold execOp
 simp only [hop, hb]
 simp only [Sem.run_bind, hrun, Result.andThen_ok, Sem.run_pure]
theorem zaf {i : Nat} {r : List Nat} {o : Oper} {e : Env} {tp te ty el : TypeId} {x y : Operand} {j : Nat} {cs : List AV} {sz : Nat} (ho : ops[i]? = some o) (hw : wantE ops env o = .yes) (hop : o.op = .binOp .neq tp x y ty) (hx : opnd env x = some (.ptr j 0)) (hy : opnd env y = some (.ptr j 0))
  (hobj : nth objs j = some (some (.cells el cs))) (hp : P.underlying tp = some (.pointer te)) (ht0 : (P.info? te).map (·.size) = some sz) (hput : putE n o.dst (.lit false) env = some e)
  (h : ASat P f n C (.inRegion ops r :: k) e objs R) : ASat P f n C (.inRegion ops (i :: r) :: k) env objs R := by
 obtain ⟨inf, ht, hz0⟩ := Option.map_eq_some_iff.1 ht0
 refine z2e (.lit false) ho hw (fun X π w tmps m he => ?_) hput h
 have hv := zk (ds := []) he hx
 have hv2 := zk (ds := []) he hy
 obtain ⟨b, hb, hsh⟩ := z7w m hobj hv
 obtain ⟨b2, hb2, hsh2⟩ := z7w m hobj hv2
 have hbb : b2 = b := by
  rw [hb] at hv
  rw [hb2] at hv2
  cases hv with | ptr h1 => cases hv2 with | ptr h2 => rw [h1] at h2; cases h2; rfl
 subst hbb
 have hrun := Go.Lib.run_neq_ptr_same (P := P) (w := w) ⟨b2, 0, none⟩ hp ht
 refine ⟨.bool false, ?_, .lit⟩
 have hg : (eqGuard .neq tp x y (.pointer (some ⟨b2, 0, none⟩)) (.pointer (some ⟨b2, 0, none⟩))).run P w = .ok () w := by simp [eqGuard]
 unfold execOp
 simp only [hop, hb, hb2]
 simp only [Sem.run_bind, hg, Result.andThen_ok, hrun, Sem.run_pure]
def eU8 (b : UInt8) : D := .v (.int .u8 (b.toNat : Int))
theorem zpx {X : Nat → Prop} {π : List Value} {w w' : World} (m : Mem X π objs w) {j : Nat} {o : AObj} {h : Value} (ho : nth objs j = some (some o)) (hp : nth π j = some h) (hos : w'.os = w.os) (htape : w'.tape = w.tape) (hout : w'.output = w.output ∧ dr w ≤ dr w') (hsz : w.heap.size ≤ w'.heap.size)
  (hw : ∀ b, b < w.heap.size → blk h ≠ some b → w'.heap[b]? = w.heap[b]?) : Tr X π objs w none π (zi objs j none) w' := by
 have hold : ∀ {i : Nat} {o' : AObj}, nth (zi objs j none) i = some (some o') → i ≠ j ∧ nth objs i = some (some o') := by
  intro i o' hi
  rcases z42 hi with ⟨_, h1⟩ | ⟨h1, h2⟩
  ·cases h1
  ·exact ⟨h1, h2⟩
 have hk : Keeps w (okOf X π objs) w' (okOf X π (zi objs j none)) := by
  intro b off u h1 h2
  have hb := z38 h2
  refine ⟨⟨h1.1, fun i o' h' h3 h4 => h1.2 i o' h' (hold h3).2 h4⟩, ?_⟩
  have := hw b hb (h1.2 j o h ho hp)
  unfold World.cell? at h2 ⊢
  rw [this]
  exact h2
 have hkeep : ∀ {i : Nat} {o' : AObj} {h' : Value}, i ≠ j → nth objs i = some (some o') → nth π i = some h' → ∀ b, blk h' = some b → w'.heap[b]? = w.heap[b]? := by
  intro i o' h' hne h1 h2 b hb
  refine hw b (m.lt h1 h2 hb) fun e => ?_
  exact m.dist i j o' o h' h b hne h1 ho h2 hp hb e
 refine ⟨⟨by rw [z1p, List.length_set]; exact m.len, ?_, ?_, ?_, ?_⟩, fun a v hr => hr.mono hk (fun _ _ h => h), ⟨hos, htape, hout, hsz, ?_, ?_, fun _ _ h _ => h⟩⟩
 ·intro i o' hi
  obtain ⟨h1, h2⟩ := hold hi
  obtain ⟨h', h3, h4⟩ := m.obj i o' h2
  exact ⟨h', h3, h4.mono hk (fun _ _ h => h) (hkeep h1 h2 h3)⟩
 ·intro i i' o1 o2 h1 h2 b hne a1 a2
  exact m.dist i i' o1 o2 h1 h2 b hne (hold a1).2 (hold a2).2
 ·intro i o' h' b a1
  exact m.ext i o' h' b (hold a1).2
 ·intro b hb
  exact Nat.lt_of_lt_of_le (m.inX b hb) hsz
 ·intro b hb hn
  exact hw b hb fun e => hn j o h ho hp e
 ·intro i o' h' b a1 a2 a3
  exact .inr ⟨i, o', h', (hold a1).2, a2, a3⟩
theorem zmq {e : TypeId} (hc : P.cellsOf e = 1) (count off m : Nat) (hn : off + m ≤ count) : liesAt P P.depth e count off e m = true := by
 have hd : P.depth = (2 * (P.types.size + Made.depth) + 1) + 1 := rfl
 rw [hd]
 simp only [liesAt, Bool.or_eq_true]
 left
 rw [hd]
 simp [rowAt, hc, hn, sameLayout]
 exact .inl (Nat.mod_one off)
theorem z79 (w : World) (pt it ty e : TypeId) (hp : P.underlying pt = some (.pointer e)) (hc : P.cellsOf e = 1) (g off cells : Nat) (hsh : w.shape? g = some (e, cells)) (l : List UInt8) (h0 : l ≠ []) (hn : off + l.length ≤ cells) (h63 : l.length ≤ 9223372036854775807)
  (hcell : ∀ j x, l[j]? = some x → w.cell? ⟨g, off + j, none⟩ = some (.int .u8 x.toNat)) :
  (Builtin.unsafeString_ #[pt, it] ty #[.pointer (some ⟨g, off, none⟩), .int .i64 l.length]).run P w = .ok (.string ⟨l.toArray⟩) (w.freeze ⟨g, off, none⟩ l.length) := by
 have hl : l.length ≠ 0 := by simpa using h0
 have hlb := Go.Lib.run_loadBytes (P := P) w l ⟨g, off, none⟩ .empty (fun j x h => by rw [z31]; exact hcell j x h)
 have hlies := zmq (P := P) hc (cells / P.cellsOf e) off l.length (by rw [hc]; simpa using hn)
 have h63' : ¬ (9223372036854775807 : Int) < (l.length : Int) := by omega
 have hdef : Builtin.unsafeString_ #[pt, it] ty #[.pointer (some ⟨g, off, none⟩), .int .i64 l.length] =
   (do
    let n ← asInt (.int .i64 l.length)
    if n < 0 then runtimePanic (.error "unsafe.String: len out of range")
    if n > IntKind.i64.max then unsupported (.unsafePointer "String: a length above the largest int")
    if n = 0 then pure (.string .empty)
    else if ← variablesAt ⟨g, off, none⟩ (← elemOf pt) n.toNat then do
     let s ← loadBytes ⟨g, off, none⟩ .empty n.toNat
     freeze ⟨g, off, none⟩ n.toNat
     pure (.string s)
    else unsupported (.unsafePointer "String: not so many bytes at ptr")) := rfl
 rw [hdef]
 have hmax : IntKind.i64.max = 9223372036854775807 := rfl
 have hneg : ¬ (l.length : Int) < 0 := by omega
 simp [asInt, asIntOf, hmax, h63', hneg, hl, variablesAt, hsh, elemOf, run_underlying hp, hlies, hlb]
theorem zlh {i : Nat} {r : List Nat} {o : Oper} {e2 : Env} {x y : Operand} {pt it e : TypeId} {j : Nat} {bs : List UInt8} {len : Int} (ho : ops[i]? = some o) (hw : wantE ops env o = .yes) (hop : o.op = .call { callee := .builtin .unsafeString, args := #[x, y], argTypes := #[pt, it] })
  (hx : opnd env x = some (.ge j 1 0 0)) (hy : opnd env y = some (vI .i64 len)) (hobj : nth objs j = some (some (gL e 1 eU8 0 bs))) (hne : bs ≠ []) (hlen : len = bs.length) (hp : P.underlying pt = some (.pointer e)) (hc : P.cellsOf e = 1)
  (hput : putE n o.dst (vS ⟨bs.toArray⟩) env = some e2) (h : ASat P f n C (.inRegion ops r :: k) e2 (zi objs j none) R) : ASat P f n C (.inRegion ops (i :: r) :: k) env objs R := by
 subst hlen
 refine z5r ⟨none, false, vS ⟨bs.toArray⟩, none, zi objs j none⟩ ho hw (fun X π w tmps m he _ => ?_) trivial hput h
 have hvx := zk (ds := []) he hx
 have hvy := zk (ds := []) he hy
 obtain ⟨hd, hpj, hrel⟩ := m.obj j _ hobj
 revert hvx hvy
 generalize hax : Act.eval ⟨tmps, []⟩ x = vx
 generalize hay : Act.eval ⟨tmps, []⟩ y = vy
 intro hvx hvy
 cases hvy with | d hvy => cases hvy with | v _ =>
 cases hvx with
 | ge hh =>
  rename_i b off n' c'
  rw [hpj] at hh
  cases hh
  have hrel' : RelO w (okOf X π objs) π (.grow e 1 (bs.map eU8) (fun i => eU8 (bs.getD i 0))) (.slice (some ⟨b, off, none⟩) n' c') := hrel
  generalize hys : bs.map eU8 = ys at hrel'
  cases hrel' with
  | gnil => exact absurd (List.map_eq_nil_iff.1 hys) hne
  | grow hb hz hE hu hcl hm hol hr =>
   rename_i c us vs fz
   have hyl : ys.length = bs.length := by rw [← hys, List.length_map]
   have hE2 : ∀ (l : List UInt8) (us : List Value), RelE w (okOf X π objs) 1 (l.map eU8) us → us.length = l.length ∧ ∀ (j : Nat) (x : UInt8), l[j]? = some x → us[j]? = some (Value.int .u8 (x.toNat : Int)) := by
    intro l
    induction l with
    | nil => intro us hE; simp only [List.map_nil] at hE; cases hE; exact ⟨rfl, by simp⟩
    | cons x l ih =>
     intro us hE
     simp only [List.map_cons] at hE
     cases hE with
     | cons h hl ht =>
      obtain ⟨h1, h2⟩ := ih _ ht
      have h' : RelL w (okOf X π objs) [D.v (.int .u8 (x.toNat : Int))] _ := h
      cases h' with
      | cons hd hf ht2 =>
       cases ht2
       cases hd with
       | v _ =>
        refine ⟨by simp [h1], fun j y hy => ?_⟩
        cases j with
        | zero => simp at hy; subst hy; simp
        | succ j => simpa using h2 j y (by simpa using hy)
   rw [← hys] at hE
   obtain ⟨hl1, hl2⟩ := hE2 bs us hE
   have hsh : w.shape? b = some (e, vs.length) := by rw [World.shape?, hb]; simp
   have hmx : maxLen = 9223372036854775807 := rfl
   have hcell : ∀ j x, bs[j]? = some x → w.cell? ⟨b, off + j, none⟩ = some (.int .u8 x.toNat) := by
    intro j x hx
    rw [z12 hb, hu j (by have := (List.getElem?_eq_some_iff.1 hx).1; omega)]
    exact hl2 j x hx
   have hrun := z79 (P := P) w pt it o.type e hp hc b off vs.length hsh bs hne (by omega) (by omega) hcell
   refine ⟨.string ⟨bs.toArray⟩, w.freeze ⟨b, off, none⟩ bs.length, π, ?_, ?_, fun _ => .d (.v rfl)⟩
   ·unfold execOp
    simp only [hop]
    have e1 : off + 0 * 1 + 0 = off := by omega
    have hax' : Act.eval ⟨tmps, []⟩ x = .pointer (some ⟨b, off, none⟩) := by rw [hax]; simp
    simp [resolve, invoke, builtin, hax', hay, hrun]
   ·have hn0 : bs.length ≠ 0 := by simpa using hne
    have hw : w.freeze ⟨b, off, none⟩ bs.length = { w with heap := (w.freeze ⟨b, off, none⟩ bs.length).heap } := by simp [World.freeze, hn0]
    refine zpx m hobj hpj ?_ ?_ ?_ ?_ fun c' hc' hne' => ?_
    ·rw [hw]
    ·rw [hw]
    ·rw [hw]; exact ⟨rfl, zv (Nat.le_refl _)⟩
    ·simp [World.freeze, hn0]
    ·have hne2 : b ≠ c' := by
      rintro rfl
      have hpos : ∃ q, ys.length = q + 1 := ⟨ys.length - 1, by omega⟩
      obtain ⟨q, hq⟩ := hpos
      rw [hq] at hne'
      exact hne' rfl
     simp [World.freeze, hn0, Array.getElem?_modify, hne2]
end
end Ab
namespace Ab
open Go
variable [Draws]
def zcj (d : TypeDesc) : Bool := match d with | .interface _ => true | _ => false
section
variable {P : Program} [Globals P] {T : Tab} {f : FuncId} {fn : Func} {n : Nat} {C : Cx} {R : AV → List (Option AObj) → Prop} {todo todo' k : List Item} {env env' : Env} {objs objs' : List (Option AObj)} {nd : Prop}
theorem zjl {ops : Array Oper} {i : Nat} {r : List Nat} {o : Oper} {e : Env} {xo : Operand} {xt t : TypeId} {x : D} {d : TypeDesc} (ho : ops[i]? = some o) (hw : wantE ops env o = .yes) (hop : o.op = .typeAssert xo xt t false) (hx : opnd env xo = some (.d (.ifc t x)))
  (hu : P.underlying t = some d) (hd : zcj d = false) (hput : putE n o.dst (.d x) env = some e) (h : ASat P f n C (.inRegion ops r :: k) e objs R) : ASat P f n C (.inRegion ops (i :: r) :: k) env objs R := by
 refine z2e (.d x) ho hw (fun X π w tmps m he => ?_) hput h
 have hv := zk (ds := []) he hx
 obtain ⟨v, hv1, hv2⟩ : ∃ v, Act.eval ⟨tmps, []⟩ xo = .iface t v ∧ RelD w (okOf X π objs) x v := by
  revert hv
  generalize Act.eval ⟨tmps, []⟩ xo = u
  intro hv
  cases hv with | d hv => cases hv with | ifc h => exact ⟨_, rfl, h⟩
 refine ⟨v, ?_, .d hv2⟩
 unfold execOp
 simp only [hop, hv1]
 cases d <;> simp_all [Instr.typeAssert, run_underlying hu, zcj]
theorem zgk {ops : Array Oper} {i : Nat} {r : List Nat} {o : Oper} {e : Env} {xo : Operand} {xt t : TypeId} {x : D} {d : TypeDesc} (ho : ops[i]? = some o) (hw : wantE ops env o = .yes) (hop : o.op = .typeAssert xo xt t true) (hx : opnd env xo = some (.d (.ifc t x)))
  (hu : P.underlying t = some d) (hd : zcj d = false) (hput : putE n o.dst (.tp [.d x, .lit true]) env = some e) (h : ASat P f n C (.inRegion ops r :: k) e objs R) : ASat P f n C (.inRegion ops (i :: r) :: k) env objs R := by
 refine z2e (.tp [.d x, .lit true]) ho hw (fun X π w tmps m he => ?_) hput h
 have hv := zk (ds := []) he hx
 obtain ⟨v, hv1, hv2⟩ : ∃ v, Act.eval ⟨tmps, []⟩ xo = .iface t v ∧ RelD w (okOf X π objs) x v := by
  revert hv
  generalize Act.eval ⟨tmps, []⟩ xo = u
  intro hv
  cases hv with | d hv => cases hv with | ifc h => exact ⟨_, rfl, h⟩
 refine ⟨.tuple #[v, .bool true], ?_, .tp (.cons (.d hv2) (.cons .lit .nil))⟩
 unfold execOp
 simp only [hop, hv1]
 cases d <;> simp_all [Instr.typeAssert, run_underlying hu, zcj]
theorem zgl {ops : Array Oper} {i : Nat} {r : List Nat} {o : Oper} {e : Env} {xo : Operand} {xt t t2 : TypeId} {x : D} {d : TypeDesc} {z : Value} (ho : ops[i]? = some o) (hw : wantE ops env o = .yes) (hop : o.op = .typeAssert xo xt t true) (hx : opnd env xo = some (.d (.ifc t2 x))) (hne : t2 ≠ t)
  (hu : P.underlying t = some d) (hd : zcj d = false) (hz : ∀ w, (zeroValue t).run P w = .ok z w) (hfl : flat z = true) (hput : putE n o.dst (.tp [.d (.v z), .lit false]) env = some e) (h : ASat P f n C (.inRegion ops r :: k) e objs R) : ASat P f n C (.inRegion ops (i :: r) :: k) env objs R := by
 refine z2e (.tp [.d (.v z), .lit false]) ho hw (fun X π w tmps m he => ?_) hput h
 have hv := zk (ds := []) he hx
 obtain ⟨v, hv1, hv2⟩ : ∃ v, Act.eval ⟨tmps, []⟩ xo = .iface t2 v ∧ RelD w (okOf X π objs) x v := by
  revert hv
  generalize Act.eval ⟨tmps, []⟩ xo = u
  intro hv
  cases hv with | d hv => cases hv with | ifc h => exact ⟨_, rfl, h⟩
 refine ⟨.tuple #[z, .bool false], ?_, .tp (.cons (.d (.v hfl)) (.cons .lit .nil))⟩
 unfold execOp
 simp only [hop, hv1]
 cases d <;> simp_all [Instr.typeAssert, run_underlying hu, zcj]
theorem zag (ι : List Nat) {ops : Array Oper} {i : Nat} {r0 : List Nat} {o : Oper} {u : Tmp} {name : String} {args : List Operand} {at_ : Array TypeId} {t : TypeId} {x : D} {g : FuncId} {az bs : List AV} {objs0 : List (Option AObj)} {R' : AV → List (Option AObj) → Prop} (ho : ops[i]? = some o) (hw : wantE ops env o = .yes)
  (hop : o.op = .call { callee := .invoke (.tmp u) name, args := ⟨args⟩, argTypes := at_ }) (hu : opnd env (.tmp u) = some (.d (.ifc t x))) (hm : ∀ v w, (method (P.types.size + Made.depth) t v name).run P w = .ok (g, v) w) (hargs : opnds env args = some az)
  (hc : ACall P g bs objs0 R') (hen : ∀ args w, (callFunc g args).run P w = .ok (.enter g args) w) (hs : subR (rho ι objs.length) objs ι objs0) (hv : VLs (.d x :: az) (AV.rens (rho ι objs.length) bs)) (hnd : z60 ι = true) (hd : refsBs ι.length bs = true) (hro : refsO ι.length objs0 = true) (hdst : ∃ e, putE n o.dst .dead env = some e)
  (k1 : ∀ r o', R' r o' → ASat P f n C (.inRegion ops r0 :: k) (putD o.dst (r.ren (rho ι objs.length)) (z3l (memN ι) env)) (z35 ι o' objs) R) (hG : GOk P C.π C.objs C.w := by with_reducible assumption) : ASat P f n C (.inRegion ops (i :: r0) :: k) env objs R := by
 intro π w tmps hs1 hm0 hh he
 have hrecv := zk (ds := []) he hu
 have hvs := z3i (ds := []) he hargs
 obtain ⟨v0, hv1, hv2⟩ : ∃ v, Act.eval ⟨tmps, []⟩ (.tmp u) = .iface t v ∧ RelD w (okOf C.X π objs) x v := by
  revert hrecv
  generalize Act.eval ⟨tmps, []⟩ (.tmp u) = y
  intro hv
  cases hv with | d hv => cases hv with | ifc h => exact ⟨_, rfl, h⟩
 have hrun : (execOp (Act.eval ⟨tmps, []⟩) o).run P w = .ok (.enter g (v0 :: args.map (Act.eval ⟨tmps, []⟩)).toArray) w := by
  unfold execOp
  simp only [hop, resolve, invoke, Sem.run_bind, Sem.run_pure, Result.andThen_ok]
  simp [hv1, callMethod, run_program, hm, hen]
  rw [List.take_of_length_le (by simp)]
 have hall : RelVs w (okOf C.X π objs) π (.d x :: az) (v0 :: args.map (Act.eval ⟨tmps, []⟩)) := .cons (.d hv2) hvs
 have hargs2 : RelVs w (okOf (lendX C.X π objs ι) (lendP π ι) objs0) (lendP π ι) bs (v0 :: args.map (Act.eval ⟨tmps, []⟩)) := by
  refine RelVs.unren (m := ι.length) (z6o hm0 hs) ?_ bs hd (hv.rel hall)
  intro j' h' hj' hh'
  obtain ⟨i', hi'⟩ : ∃ i', nth ι j' = some i' := by
   rw [z1n]; exact ⟨ι[j'], List.getElem?_eq_getElem hj'⟩
  rw [zc9 hi'] at hh'
  rw [z2w hi' (z1w hh')]
  exact hh'
 refine .opCall ho ((zw he).1 hw) hrun ?_
 rcases hc _ _ w _ (z9s (hG.hist hh) hm0 hs) (z9r hm0 hs hnd hro) hargs2 with ⟨_, hcl⟩ | ⟨v, w', hcl, _⟩
 ·refine Calls.mono hcl ?_
  rintro e w' ⟨v, r, o', π', rfl, hR, hm', hrel, hhist⟩
  refine ⟨v, rfl, ?_⟩
  have L := lended hm0 hs hnd hm' hhist
  obtain ⟨e, hput⟩ := hdst
  have he' : zz w' (okOf C.X (z1x ι π' π) (z35 ι o' objs)) (z1x ι π' π) (z3l (memN ι) env) tmps := by
   intro t a ht
   rw [z5h] at ht
   cases hl : look env t with
   | none => rw [hl] at ht; cases ht
   | some b =>
    rw [hl] at ht
    simp only [Option.map_some, Option.some.injEq] at ht
    subst ht
    exact L.keep _ _ (he t b hl)
  have hput' : putE n o.dst .dead (z3l (memN ι) env) = some (putD o.dst .dead (z3l (memN ι) env)) := by
   revert hput
   generalize o.dst = dst
   intro hput
   cases dst with
   | none => rfl
   | some d =>
    simp only [putE] at hput ⊢
    cases hb : Nat.blt d n with
    | false => rw [hb] at hput; cases hput
    | true => rfl
  obtain ⟨p1, p2⟩ := z1s he' hs1 (z7f hput') (L.back _ _ hrel)
  exact k1 r o' hR _ w' _ p2 L.mem (hh.trans L.hist) p1
 ·rw [hen] at hcl
  cases hcl
end
end Ab
namespace Ab
open Go
def pk (e : Nat) (L : List Nat) (o h : AObj) : AObj := if e ∈ L then o else h
theorem zlu (e : Nat) (L : List Nat) (o h : AObj) : pk e (e :: L) o h = o := if_pos (List.mem_cons_self ..)
theorem pk_ne {e j : Nat} (hne : j ≠ e) (L : List Nat) (o h : AObj) : pk e (j :: L) o h = pk e L o h := by
 unfold pk
 simp only [List.mem_cons, hne.symm, false_or]
theorem pk_no {e : Nat} {L : List Nat} (hn : e ∉ L) (o h : AObj) : pk e L o h = h := if_neg hn
theorem zpr {e : Nat} {L : List Nat} (hn : e ∈ L) (o h : AObj) : pk e L o h = o := if_pos hn
end Ab
namespace Ab
open Go
variable [Draws]
theorem VLe.dead {a : AV} : VLe a .dead := fun _ _ _ _ _ => .dead
theorem VLe.tp {cs ds : List AV} (h : VLs cs ds) : VLe (.tp cs) (.tp ds) := by
 intro w ok π v hv
 cases hv with
 | tp h1 => exact .tp (h.rel h1)
end Ab
namespace Ab
open Go
variable [Draws]
section
variable {α : Type} [Inhabited α] {enc : α → Value}
theorem z6h {w : World} {ok : Nat → Prop} : ∀ {l : List α} {us : List Value}, RelE w ok 1 (l.map fun x => D.v (enc x)) us → us = l.map enc
 | [], us, h => by
  simp only [List.map_nil] at h
  cases h; rfl
 | x :: r, us, h => by
  simp only [List.map_cons] at h
  cases h with
  | cons h hl t =>
   cases h with
   | cons h hf t' =>
    cases t'
    cases h
    rw [z6h t]
    rfl
theorem za1 {w : World} {ok : Nat → Prop} (hfl : ∀ x, flat (enc x) = true) : ∀ (l : List α), RelE w ok 1 (l.map fun x => D.v (enc x)) (l.map enc)
 | [] => .nil
 | x :: r => by
  have := RelE.cons (s := 1) (x := D.v (enc x)) (us := [enc x]) (.cons (.v (hfl x)) (hfl x) .nil) rfl (za1 (w := w) (ok := ok) hfl r)
  simpa using this
end
end Ab
