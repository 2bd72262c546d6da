/- Abstract values for Go data, and how they lie in the model's memory. -/
import Derived.WalkKit
namespace Ab
open Go

/-- Pure data: an immediate value, a slice that is only read (elements of s cells; 'rd' tells them one by one), a struct's cells, a value in an interface. -/
inductive D where
  | v (x : Value)
  | sl (s : Nat) (xs : List D) (rd : Nat → D)
  | ag (cs : List D)
  | ifc (t : TypeId) (x : D)
  deriving Inhabited

def D.cells : D → List D
  | .ag cs => cs
  | x => [x]

/-- What a temporary holds: data, or a way to an object of the call's own. -/
inductive AV where
  | d (x : D)
  | ro (cs : List D)
  | ptr (i off : Nat)
  | gs (i : Nat)
  | ge (i s j off : Nat)
  | mp (i : Nat)
  | e0 (s : Nat)
  | lit (b : Bool)
  | und
  | orc (b : Bool)
  | ag (cs : List AV)
  | tp (cs : List AV)
  | fn (f : Fn) (cs : List AV)
  | ifc (t : TypeId) (x : AV)
  | dead
  deriving Inhabited

def AV.cells : AV → List AV
  | .ag cs => cs
  | .d (.ag cs) => cs.map .d
  | x => [x]

/-- An object: a block of cells; a slice that grows; a map. -/
inductive AObj where
  | cells (e : TypeId) (cs : List AV)
  | grow (e : TypeId) (s : Nat) (xs : List D) (rd : Nat → D)
  | builder (bs : List UInt8)
  | hold (a : AV) (v : Value)
  | map (es : List (Value × AV))
  deriving Inhabited

def flat : Value → Bool
  | .agg _ | .tuple _ => false
  | _ => true

def nth {α : Type} : List α → Nat → Option α
  | [], _ => none
  | a :: _, 0 => some a
  | _ :: r, n + 1 => nth r n

theorem nth_eq {α : Type} : ∀ (l : List α) (n : Nat), nth l n = l[n]?
  | [], _ => by simp [nth]
  | _ :: _, 0 => by simp [nth]
  | _ :: r, n + 1 => by simp [nth, nth_eq r n]

mutual
inductive RelD (w : World) (ok : Nat → Prop) : D → Value → Prop
  | v {x : Value} (hf : flat x = true) : RelD w ok (.v x) x
  | nil {s c : Nat} {A : Option Addr} {rd : Nat → D} (hb : c ≤ maxLen) : RelD w ok (.sl s [] rd) (.slice A 0 c)
  | sl {s b o c : Nat} {xs : List D} {us : List Value} {rd : Nat → D} (h : RelE w ok s xs us)
      (hm : ∀ i, i < us.length → ok b ∧ w.cell? ⟨b, o + i, none⟩ = us[i]?) (hc : xs.length ≤ c) (hb : c ≤ maxLen) (hr : ∀ i, i < xs.length → xs[i]? = some (rd i)) :
      RelD w ok (.sl s xs rd) (.slice (some ⟨b, o, none⟩) xs.length c)
  | ag {cs : List D} {vs : List Value} (h : RelL w ok cs vs) : RelD w ok (.ag cs) (.agg vs.toArray)
  | ifc {t : TypeId} {x : D} {v : Value} (h : RelD w ok x v) : RelD w ok (.ifc t x) (.iface t v)
inductive RelL (w : World) (ok : Nat → Prop) : List D → List Value → Prop
  | nil : RelL w ok [] []
  | cons {x : D} {v : Value} {xs : List D} {vs : List Value} (h : RelD w ok x v) (hf : flat v = true) (t : RelL w ok xs vs) : RelL w ok (x :: xs) (v :: vs)
inductive RelE (w : World) (ok : Nat → Prop) : Nat → List D → List Value → Prop
  | nil {s : Nat} : RelE w ok s [] []
  | cons {s : Nat} {x : D} {us : List Value} {xs : List D} {vs : List Value} (h : RelL w ok x.cells us) (hl : us.length = s) (t : RelE w ok s xs vs) : RelE w ok s (x :: xs) (us ++ vs)
end

/-- How worlds and what may be relied upon may change, and data still reads. -/
def Keeps (w : World) (ok : Nat → Prop) (w' : World) (ok' : Nat → Prop) : Prop :=
  ∀ b o u, ok b → w.cell? ⟨b, o, none⟩ = some u → ok' b ∧ w'.cell? ⟨b, o, none⟩ = some u

theorem Keeps.refl (w : World) (ok : Nat → Prop) : Keeps w ok w ok := fun _ _ _ h1 h2 => ⟨h1, h2⟩
theorem Keeps.trans {w w1 w2 : World} {ok ok1 ok2 : Nat → Prop} (h : Keeps w ok w1 ok1) (k : Keeps w1 ok1 w2 ok2) : Keeps w ok w2 ok2 :=
  fun b o u h1 h2 => let ⟨a, c⟩ := h b o u h1 h2; k b o u a c

theorem keeps_run {w w' : World} {ok ok' : Nat → Prop} (hk : Keeps w ok w' ok') {b o : Nat} {us : List Value}
    (hm : ∀ i, i < us.length → ok b ∧ w.cell? ⟨b, o + i, none⟩ = us[i]?) : ∀ i, i < us.length → ok' b ∧ w'.cell? ⟨b, o + i, none⟩ = us[i]? := by
  intro i hi
  obtain ⟨h1, h2⟩ := hm i hi
  rw [List.getElem?_eq_getElem hi] at h2 ⊢
  exact hk _ _ _ h1 h2

mutual
theorem RelD.mono {w w' : World} {ok ok' : Nat → Prop} (hk : Keeps w ok w' ok') {d : D} {v : Value} : RelD w ok d v → RelD w' ok' d v
  | .v hf => .v hf
  | .nil hb => .nil hb
  | .sl h hm hc hb hr => .sl (h.mono hk) (keeps_run hk hm) hc hb hr
  | .ag h => .ag (h.mono hk)
  | .ifc h => .ifc (h.mono hk)
theorem RelL.mono {w w' : World} {ok ok' : Nat → Prop} (hk : Keeps w ok w' ok') {d : List D} {v : List Value} : RelL w ok d v → RelL w' ok' d v
  | .nil => .nil
  | .cons h hf t => .cons (h.mono hk) hf (t.mono hk)
theorem RelE.mono {w w' : World} {ok ok' : Nat → Prop} (hk : Keeps w ok w' ok') {s : Nat} {d : List D} {v : List Value} : RelE w ok s d v → RelE w' ok' s d v
  | .nil => .nil
  | .cons h hl t => .cons (h.mono hk) hl (t.mono hk)
end

theorem RelL.length {w : World} {ok : Nat → Prop} : ∀ {cs : List D} {vs : List Value}, RelL w ok cs vs → vs.length = cs.length
  | _, _, .nil => rfl
  | _, _, .cons _ _ t => by simp [t.length]
theorem RelL.flat {w : World} {ok : Nat → Prop} : ∀ {cs : List D} {vs : List Value}, RelL w ok cs vs → ∀ v ∈ vs, flat v = true
  | _, _, .nil, _, h => by simp at h
  | _, _, .cons _ hf t, v, h => by
    rcases List.mem_cons.1 h with rfl | h
    · exact hf
    · exact t.flat v h
theorem RelL.get {w : World} {ok : Nat → Prop} : ∀ {cs : List D} {vs : List Value}, RelL w ok cs vs → ∀ {n : Nat} {x : D}, nth cs n = some x → ∃ v, vs[n]? = some v ∧ RelD w ok x v ∧ Ab.flat v = true
  | _, _, .nil, n, x, h => by simp [nth] at h
  | _, _, .cons hd hf t, 0, x, h => by
    simp only [nth, Option.some.injEq] at h
    subst h
    exact ⟨_, by simp, hd, hf⟩
  | _, _, .cons hd hf t, n + 1, x, h => by
    obtain ⟨v, h1, h2⟩ := t.get (n := n) (x := x) h
    exact ⟨v, by simpa using h1, h2⟩
theorem RelL.append {w : World} {ok : Nat → Prop} : ∀ {cs : List D} {vs : List Value} {ds : List D} {us : List Value}, RelL w ok cs vs → RelL w ok ds us → RelL w ok (cs ++ ds) (vs ++ us)
  | _, _, _, _, .nil, k => k
  | _, _, _, _, .cons h hf t, k => .cons h hf (t.append k)
theorem RelL.take {w : World} {ok : Nat → Prop} : ∀ {cs : List D} {vs : List Value} (_ : RelL w ok cs vs) (n : Nat), RelL w ok (cs.take n) (vs.take n)
  | _, _, .nil, n => by simpa using .nil
  | _, _, .cons h hf t, 0 => by simpa using .nil
  | _, _, .cons h hf t, n + 1 => by simpa using .cons h hf (t.take n)
theorem RelL.drop {w : World} {ok : Nat → Prop} : ∀ {cs : List D} {vs : List Value} (_ : RelL w ok cs vs) (n : Nat), RelL w ok (cs.drop n) (vs.drop n)
  | _, _, .nil, n => by simpa using .nil
  | _, _, .cons h hf t, 0 => by simpa using .cons h hf t
  | _, _, .cons h hf t, n + 1 => by simpa using t.drop n

theorem RelE.length {w : World} {ok : Nat → Prop} {s : Nat} : ∀ {xs : List D} {us : List Value}, RelE w ok s xs us → us.length = xs.length * s
  | _, _, .nil => by simp
  | _, _, .cons _ hl t => by simp [t.length, hl, Nat.add_mul, Nat.add_comm]
theorem RelE.flat {w : World} {ok : Nat → Prop} {s : Nat} : ∀ {xs : List D} {us : List Value}, RelE w ok s xs us → ∀ v ∈ us, Ab.flat v = true
  | _, _, .nil, _, h => by simp at h
  | _, _, .cons h hl t, v, hv => by
    rcases List.mem_append.1 hv with hv | hv
    · exact h.flat v hv
    · exact t.flat v hv
theorem RelE.append {w : World} {ok : Nat → Prop} {s : Nat} : ∀ {xs ys : List D} {us vs : List Value}, RelE w ok s xs us → RelE w ok s ys vs → RelE w ok s (xs ++ ys) (us ++ vs)
  | _, _, _, _, .nil, k => k
  | _, _, _, _, .cons h hl t, k => by
    rw [List.append_assoc]
    exact .cons h hl (t.append k)
theorem RelE.get {w : World} {ok : Nat → Prop} {s : Nat} : ∀ {xs : List D} {us : List Value}, RelE w ok s xs us → ∀ {n : Nat} (hn : n < xs.length), RelL w ok (xs[n]).cells ((us.drop (n * s)).take s)
  | _, _, .nil, n, hn => by simp at hn
  | _, _, .cons (us := us) h hl t, 0, hn => by
    subst hl
    simpa using h
  | _, _, .cons (us := us) (vs := vs) h hl t, n + 1, hn => by
    have := t.get (n := n) (by simpa using hn)
    have e : (us ++ vs).drop ((n + 1) * s) = vs.drop (n * s) := by
      rw [Nat.add_mul, Nat.one_mul, Nat.add_comm, ← hl, ← List.drop_drop, List.drop_left]
    rw [e]
    simpa using this
theorem RelE.take {w : World} {ok : Nat → Prop} {s : Nat} : ∀ {xs : List D} {us : List Value} (_ : RelE w ok s xs us) (n : Nat), RelE w ok s (xs.take n) (us.take (n * s))
  | _, _, .nil, n => by simpa using .nil
  | _, _, .cons h hl t, 0 => by simpa using .nil
  | _, _, .cons (us := us) (vs := vs) h hl t, n + 1 => by
    have e : (us ++ vs).take ((n + 1) * s) = us ++ vs.take (n * s) := by
      rw [Nat.add_mul, Nat.one_mul, Nat.add_comm, ← hl, List.take_length_add_append]
    rw [e]
    simpa using .cons h hl (t.take n)
theorem RelE.drop {w : World} {ok : Nat → Prop} {s : Nat} : ∀ {xs : List D} {us : List Value} (_ : RelE w ok s xs us) (n : Nat), RelE w ok s (xs.drop n) (us.drop (n * s))
  | _, _, .nil, n => by simpa using .nil
  | _, _, .cons h hl t, 0 => by simpa using .cons h hl t
  | _, _, .cons (us := us) (vs := vs) h hl t, n + 1 => by
    have e : (us ++ vs).drop ((n + 1) * s) = vs.drop (n * s) := by
      rw [Nat.add_mul, Nat.one_mul, Nat.add_comm, ← hl, ← List.drop_drop, List.drop_left]
    rw [e]
    simpa using t.drop n
theorem RelE.set {w : World} {ok : Nat → Prop} {s : Nat} : ∀ {xs : List D} {us : List Value} (_ : RelE w ok s xs us) {y : D} {vs : List Value} (_ : RelL w ok y.cells vs) (_ : vs.length = s) (n : Nat), n < xs.length →
    RelE w ok s (xs.set n y) (us.take (n * s) ++ vs ++ us.drop (n * s + s))
  | _, _, .nil, y, vs, hy, hv, n, hn => by simp at hn
  | _, _, .cons (us := us) (vs := ws) h hl t, y, vs, hy, hv, 0, hn => by
    have e : (us ++ ws).drop (0 * s + s) = ws := by
      rw [Nat.zero_mul, Nat.zero_add, ← hl, List.drop_left]
    rw [e]
    simpa using .cons hy hv t
  | _, _, .cons (us := us) (vs := ws) h hl t, y, vs, hy, hv, n + 1, hn => by
    have ih := t.set hy hv n (by simpa using hn)
    have e1 : (us ++ ws).take ((n + 1) * s) = us ++ ws.take (n * s) := by
      rw [Nat.add_mul, Nat.one_mul, Nat.add_comm, ← hl, List.take_length_add_append]
    have e2 : (us ++ ws).drop ((n + 1) * s + s) = ws.drop (n * s + s) := by
      rw [show (n + 1) * s + s = s + (n * s + s) by rw [Nat.add_mul]; omega]
      conv => lhs; rw [← List.drop_drop, ← hl, List.drop_left]
      rw [hl]
    rw [e1, e2]
    have := RelE.cons h hl ih
    simpa [List.append_assoc] using this

mutual
inductive RelV (w : World) (ok : Nat → Prop) (π : List Value) : AV → Value → Prop
  | d {x : D} {v : Value} (h : RelD w ok x v) : RelV w ok π (.d x) v
  | ro {cs : List D} {us : List Value} {b o : Nat} (h : RelL w ok cs us) (hm : ∀ i, i < us.length → ok b ∧ w.cell? ⟨b, o + i, none⟩ = us[i]?) : RelV w ok π (.ro cs) (.pointer (some ⟨b, o, none⟩))
  | ptr {i off b : Nat} (h : nth π i = some (.pointer (some ⟨b, 0, none⟩))) : RelV w ok π (.ptr i off) (.pointer (some ⟨b, off, none⟩))
  | gs {i n c : Nat} {A : Option Addr} (h : nth π i = some (.slice A n c)) : RelV w ok π (.gs i) (.slice A n c)
  | ge {i s j off b o n c : Nat} (h : nth π i = some (.slice (some ⟨b, o, none⟩) n c)) : RelV w ok π (.ge i s j off) (.pointer (some ⟨b, o + j * s + off, none⟩))
  | mp {i : Nat} {r : Option Nat} (h : nth π i = some (.map r)) : RelV w ok π (.mp i) (.map r)
  | e0 {s : Nat} {A : Option Addr} : RelV w ok π (.e0 s) (.slice A 0 0)
  | lit {b : Bool} : RelV w ok π (.lit b) (.bool b)
  | und : RelV w ok π .und undef
  | orc {b : Bool} {v : Value} : RelV w ok π (.orc b) v
  | ag {cs : List AV} {vs : List Value} (h : RelVs w ok π cs vs) (hf : ∀ v ∈ vs, flat v = true) : RelV w ok π (.ag cs) (.agg vs.toArray)
  | tp {cs : List AV} {vs : List Value} (h : RelVs w ok π cs vs) : RelV w ok π (.tp cs) (.tuple vs.toArray)
  | fn {f : Fn} {cs : List AV} {vs : List Value} (h : RelVs w ok π cs vs) : RelV w ok π (.fn f cs) (.func f #[] vs.toArray)
  | ifc {t : TypeId} {x : AV} {v : Value} (h : RelV w ok π x v) : RelV w ok π (.ifc t x) (.iface t v)
  | dead {v : Value} : RelV w ok π .dead v
inductive RelVs (w : World) (ok : Nat → Prop) (π : List Value) : List AV → List Value → Prop
  | nil : RelVs w ok π [] []
  | cons {x : AV} {v : Value} {xs : List AV} {vs : List Value} (h : RelV w ok π x v) (t : RelVs w ok π xs vs) : RelVs w ok π (x :: xs) (v :: vs)
end

end Ab
