/- Operations that only read: the rest, and all of them together ('pstep'). -/
import Derived.Test.YtdnpkeahgpbkoaaAb8
namespace Ab
open Go

def pLen (T : Tab) (t : TypeId) (objs : List (Option AObj)) (x : AV) : PR :=
  match tlook T t with
  | none => .no
  | some r => match r.kd with
    | .str => match x with
      | .d (.v (.string s)) => .ok (vI .i64 (s.size : Nat))
      | _ => .no
    | .slice _ => match x with
      | .d (.sl _ xs _) => .ok (vI .i64 (xs.length : Nat))
      | .d (.v (.slice none 0 0)) => .ok (vI .i64 0)
      | .e0 _ => .ok (vI .i64 0)
      | .gs k => match objAt objs k with
        | some (.grow _ _ xs _) => .ok (vI .i64 (xs.length : Nat))
        | _ => .no
      | _ => .no
    | .map _ _ => match x with
      | .mp k => match objAt objs k with
        | some (.map es) => .ok (vI .i64 (es.length : Nat))
        | _ => .no
      | .d (.v (.map none)) => .ok (vI .i64 0)
      | _ => .no
    | _ => .no

theorem map_type {P : Program} {T : Tab} (hT : TabOk P T) {t : TypeId} {r : TRow} (hr : tlook T t = some r) {k e : TypeId} (hk : r.kd = .map k e) : P.underlying t = some (.map k e) := by
  obtain ⟨i, d, hi, hd, _, _, _, hkd⟩ := (tab_row hT hr).ex
  rw [hk] at hkd
  cases d <;> simp only [kdOk] at hkd <;> first | (simp only [Bool.and_eq_true, beq_iff_eq] at hkd; rw [hd, hkd.1, hkd.2]) | (exact absurd hkd (by simp))
theorem RelEs.length {w : World} {ok : Nat → Prop} {π : List Value} : ∀ {es : List (Value × AV)} {ms : List MapEntry}, RelEs w ok π es ms → ms.length = es.length
  | _, _, .nil => rfl
  | _, _, .cons _ t => by simp [t.length]

theorem pLen_ok {P : Program} {T : Tab} (hT : TabOk P T) {X : Nat → Prop} {π : List Value} {objs : List (Option AObj)} {w : World} (m : Mem X π objs w) {t ty : TypeId} {as : Array TypeId} {x : AV} {v : Value}
    (hx : RelV w (okOf X π objs) π x v) (ha : as[0]? = some t) : PRok P w (okOf X π objs) π (pLen T t objs x) (Builtin.len_ as ty #[v]) := by
  unfold pLen
  split
  · trivial
  · rename_i r hr
    split
    · rename_i hk
      have hu := str_type hT hr hk
      split
      · cases hx with | d hx => cases hx with | v _ =>
        exact yields_val rfl (fun w' => by simp [Builtin.len_, ha, run_underlying hu, goInt])
      · trivial
    · rename_i e hk
      have hu := slice_elem hT hr hk
      split
      · rename_i s xs rd
        cases hx with
        | d hx => cases hx with
          | nil _ => exact yields_val rfl (fun w' => by simp [Builtin.len_, ha, run_underlying hu, goInt])
          | sl _ _ _ _ _ => exact yields_val rfl (fun w' => by simp [Builtin.len_, ha, run_underlying hu, goInt])
      · cases hx with | d hx => cases hx with | v _ =>
        exact yields_val rfl (fun w' => by simp [Builtin.len_, ha, run_underlying hu, goInt])
      · cases hx
        exact yields_val rfl (fun w' => by simp [Builtin.len_, ha, run_underlying hu, goInt])
      · split
        · rename_i k e' s xs rd ho
          obtain ⟨h, hp, hrel⟩ := m.obj _ _ (objAt_eq ho)
          cases hx with
          | gs hh =>
            rw [hh] at hp
            cases hp
            cases hrel with
            | gnil => exact yields_val rfl (fun w' => by simp [Builtin.len_, ha, run_underlying hu, goInt])
            | grow _ _ _ _ _ _ _ _ => exact yields_val rfl (fun w' => by simp [Builtin.len_, ha, run_underlying hu, goInt])
        · trivial
      · trivial
    · rename_i k e hk
      have hu := map_type hT hr hk
      split
      · split
        · rename_i es ho
          obtain ⟨h, hp, hrel⟩ := m.obj _ _ (objAt_eq ho)
          cases hx with
          | mp hh =>
            rw [hh] at hp
            cases hp
            cases hrel with
            | map hb hes =>
              have hl := hes.length
              refine ⟨_, .d (.v rfl), fun w' hw => ?_⟩
              have hb' := (hw _ (Array.getElem?_eq_some_iff.1 hb).1).trans hb
              simp [Builtin.len_, ha, run_underlying hu, goInt, getObj, Sem.run, hb', hl]
        · trivial
      · cases hx with | d hx => cases hx with | v _ =>
        exact yields_val rfl (fun w' => by simp [Builtin.len_, ha, run_underlying hu, goInt])
      · trivial
    · trivial

def pUn (op : UnOp) (x : AV) : PR :=
  match x with
  | .d (.v (.int k a)) => match op with
    | .neg => .ok (vI k (k.wrap (0 - a)))
    | .xor => .ok (vI k (k.wrap (bitI k (if k.signed then -1 else k.max) ^^^ bitI k a).toNat))
    | _ => .no
  | .d (.v (.bool b)) => match op with
    | .not => .ok (vB (!b))
    | _ => .no
  | _ => .no
theorem pUn_ok {P : Program} {w : World} {ok : Nat → Prop} {π : List Value} {op : UnOp} {x : AV} {v : Value} (hx : RelV w ok π x v) : PRok P w ok π (pUn op x) (Op.unary op v) := by
  unfold pUn
  split
  · cases hx with | d hx => cases hx with | v _ =>
    split
    · exact yields_val rfl (fun w' => by simp [Op.unary, Op.intArith])
    · exact yields_val rfl (fun w' => by simp [Op.unary, Op.intBits, bitI])
    · trivial
  · cases hx with | d hx => cases hx with | v _ =>
    split
    · exact yields_val rfl (fun w' => by simp [Op.unary])
    · trivial
  · trivial

def isByteD : D → Bool
  | .v (.int .u8 _) => true
  | _ => false
def byteD : D → UInt8
  | .v (.int .u8 n) => UInt8.ofNat n.toNat
  | _ => 0
def strD (xs : List D) : ByteArray := ⟨(xs.map byteD).toArray⟩

def pConv (T : Tab) (src dst : TypeId) (objs : List (Option AObj)) (x : AV) : PR :=
  match tlook T src with
  | none => .no
  | some rs => match tlook T dst with
    | none => .no
    | some rd => match x with
      | .d (.v (.int _ n)) => match rd.kd with
        | .int k => .ok (vI k (k.wrap n))
        | _ => .no
      | .d (.v (.string s)) => match rd.kd with
        | .str => .ok (vS s)
        | _ => .no
      | .d (.sl s xs _) => match rs.kd with
        | .slice e => match tlook T e with
          | none => .no
          | some re => match re.kd with
            | .int .u8 => match rd.kd with
              | .str => match Nat.beq s 1 with
                | true => .iff (∀ x ∈ xs, isByteD x = true) (vS (strD xs))
                | false => .no
              | _ => .no
            | _ => .no
        | _ => .no
      | .gs k => match objAt objs k with
        | some (.grow _ s xs _) => match rs.kd with
          | .slice e => match tlook T e with
            | none => .no
            | some re => match re.kd with
              | .int .u8 => match rd.kd with
                | .str => match Nat.beq s 1 with
                  | true => .iff (∀ x ∈ xs, isByteD x = true) (vS (strD xs))
                  | false => .no
                | _ => .no
              | _ => .no
          | _ => .no
        | _ => .no
      | _ => .no

theorem int_type {P : Program} {T : Tab} (hT : TabOk P T) {t : TypeId} {r : TRow} (hr : tlook T t = some r) {k : IntKind} (hk : r.kd = .int k) : P.underlying t = some (.int k) := by
  obtain ⟨i, d, hi, hd, _, _, _, hkd⟩ := (tab_row hT hr).ex
  rw [hk] at hkd
  cases d <;> simp only [kdOk] at hkd <;> first | (rw [hd]; congr 2; exact (by simpa using hkd : k = _).symm) | (exact absurd hkd (by simp))
theorem some_type {P : Program} {T : Tab} (hT : TabOk P T) {t : TypeId} {r : TRow} (hr : tlook T t = some r) : ∃ d, P.underlying t = some d := by
  obtain ⟨i, d, hi, hd, _⟩ := (tab_row hT hr).ex
  exact ⟨d, hd⟩

theorem RelE.one {w : World} {ok : Nat → Prop} : ∀ {xs : List D} {us : List Value}, RelE w ok 1 xs us → (∀ x ∈ xs, isByteD x = true) → us = xs.map fun x => .int .u8 (match x with | .v (.int .u8 n) => n | _ => 0)
  | _, _, .nil, _ => rfl
  | _, _, .cons (x := x) (us := us) h hl t, hb => by
    have ih := t.one (fun x hx => hb x (by simp [hx]))
    have hx := hb x (by simp)
    cases x <;> try (simp [isByteD] at hx; done)
    rename_i v
    cases v <;> try (simp [isByteD] at hx; done)
    rename_i k n
    cases k <;> try (simp [isByteD] at hx; done)
    cases h with
    | cons hd _ t' =>
      cases t'
      cases hd
      rw [ih]
      rfl

end Ab
