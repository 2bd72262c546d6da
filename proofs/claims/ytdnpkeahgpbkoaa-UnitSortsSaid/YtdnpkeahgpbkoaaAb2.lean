/- Objects, the memory of a call, and how one step changes it. -/
import Derived.Test.YtdnpkeahgpbkoaaAb1
namespace Ab
open Go

def blk : Value → Option Nat
  | .pointer (some a) => some a.block
  | .slice (some a) _ (_ + 1) => some a.block
  | .map (some r) => some r
  | _ => none

mutual
def AV.drop (i : Nat) : AV → AV
  | .gs j => match Nat.beq j i with | true => .dead | false => .gs j
  | .ge j s e o => match Nat.beq j i with | true => .dead | false => .ge j s e o
  | .ag cs => .ag (AV.drops i cs)
  | .tp cs => .tp (AV.drops i cs)
  | .fn f cs => .fn f (AV.drops i cs)
  | .ifc t x => .ifc t (AV.drop i x)
  | .d x => .d x
  | .ro x => .ro x
  | .ptr j o => .ptr j o
  | .mp j => .mp j
  | .e0 s => .e0 s
  | .lit b => .lit b
  | .und => .und
  | .orc b => .orc b
  | .dead => .dead
def AV.drops (i : Nat) : List AV → List AV
  | [] => []
  | x :: r => AV.drop i x :: AV.drops i r
end

def dropEs (i : Nat) : List (Value × AV) → List (Value × AV)
  | [] => []
  | (k, x) :: r => (k, x.drop i) :: dropEs i r

def AObj.drop (i : Nat) : AObj → AObj
  | .cells e cs => .cells e (AV.drops i cs)
  | .grow e s xs rd => .grow e s xs rd
  | .builder bs => .builder bs
  | .hold a v => .hold (a.drop i) v
  | .map es => .map (dropEs i es)

def dropO (i : Nat) : List (Option AObj) → List (Option AObj)
  | [] => []
  | some o :: r => some (o.drop i) :: dropO i r
  | none :: r => none :: dropO i r

def setNth {α : Type} : List α → Nat → α → List α
  | [], _, _ => []
  | _ :: r, 0, x => x :: r
  | a :: r, n + 1, x => a :: setNth r n x

theorem setNth_eq {α : Type} : ∀ (l : List α) (n : Nat) (x : α), setNth l n x = l.set n x
  | [], _, _ => by simp [setNth]
  | _ :: _, 0, _ => by simp [setNth]
  | _ :: r, n + 1, x => by simp [setNth, setNth_eq r n x]

theorem nth_append_left {α : Type} {l r : List α} {n : Nat} {x : α} (h : nth l n = some x) : nth (l ++ r) n = some x := by
  rw [nth_eq] at h ⊢
  rw [List.getElem?_append_left (List.getElem?_eq_some_iff.1 h).1]
  exact h
theorem nth_lt {α : Type} {l : List α} {n : Nat} {x : α} (h : nth l n = some x) : n < l.length := by
  rw [nth_eq] at h
  exact (List.getElem?_eq_some_iff.1 h).1
theorem nth_append_at {α : Type} {l r : List α} {m : Nat} : nth (l ++ r) (l.length + m) = nth r m := by
  rw [nth_eq, nth_eq, List.getElem?_append_right (by omega)]
  simp
theorem nth_append_some {α : Type} {l r : List α} {n : Nat} {x : α} (h : nth (l ++ r) n = some x) : nth l n = some x ∨ (l.length ≤ n ∧ nth r (n - l.length) = some x) := by
  simp only [nth_eq] at h ⊢
  rcases Nat.lt_or_ge n l.length with hn | hn
  · left
    rwa [List.getElem?_append_left hn] at h
  · right
    exact ⟨hn, by rwa [List.getElem?_append_right hn] at h⟩
theorem nth_setNth {α : Type} {l : List α} {i j : Nat} {x y : α} (h : nth (setNth l i x) j = some y) : (j = i ∧ y = x) ∨ (j ≠ i ∧ nth l j = some y) := by
  rw [setNth_eq, nth_eq, List.getElem?_set] at h
  by_cases e : i = j
  · subst e
    rw [if_pos rfl] at h
    split at h
    · cases h
      exact .inl ⟨rfl, rfl⟩
    · cases h
  · right
    rw [if_neg e] at h
    exact ⟨fun e' => e e'.symm, by rwa [nth_eq]⟩
theorem nth_setNth_ne {α : Type} {l : List α} {i j : Nat} {x : α} (h : j ≠ i) : nth (setNth l i x) j = nth l j := by
  rw [setNth_eq, nth_eq, nth_eq, List.getElem?_set]
  rw [if_neg (fun e => h e.symm)]
theorem nth_setNth_eq {α : Type} {l : List α} {i : Nat} {x y : α} (h : nth l i = some y) : nth (setNth l i x) i = some x := by
  have := nth_lt h
  rw [setNth_eq, nth_eq, List.getElem?_set]
  simp [this]
theorem setNth_length {α : Type} (l : List α) (i : Nat) (x : α) : (setNth l i x).length = l.length := by simp [setNth_eq]
theorem dropO_length (i : Nat) : ∀ l : List (Option AObj), (dropO i l).length = l.length
  | [] => rfl
  | some _ :: r => by simp [dropO, dropO_length i r]
  | none :: r => by simp [dropO, dropO_length i r]
theorem nth_dropO (i : Nat) : ∀ (l : List (Option AObj)) {j : Nat} {o : AObj}, nth (dropO i l) j = some (some o) → ∃ o', nth l j = some (some o') ∧ o = o'.drop i
  | [], _, _, h => by simp [dropO, nth] at h
  | some o' :: r, 0, o, h => by simp [dropO, nth] at h; exact ⟨o', by simp [nth], h.symm⟩
  | none :: r, 0, o, h => by simp [dropO, nth] at h
  | some _ :: r, j + 1, o, h => by simp only [dropO, nth] at h ⊢; exact nth_dropO i r h
  | none :: r, j + 1, o, h => by simp only [dropO, nth] at h ⊢; exact nth_dropO i r h

/-! ### Values of temporaries through a change -/
mutual
theorem RelV.mono {w w' : World} {ok ok' : Nat → Prop} {π π' : List Value} (hk : Keeps w ok w' ok') (hp : ∀ j h, nth π j = some h → nth π' j = some h) {a : AV} {v : Value} : RelV w ok π a v → RelV w' ok' π' a v
  | .d h => .d (h.mono hk)
  | .ro h hm => .ro (h.mono hk) (keeps_run hk hm)
  | .ptr h => .ptr (hp _ _ h)
  | .gs h => .gs (hp _ _ h)
  | .ge h => .ge (hp _ _ h)
  | .mp h => .mp (hp _ _ h)
  | .e0 => .e0
  | .lit => .lit
  | .und => .und
  | .orc => .orc
  | .ag h hf => .ag (h.mono hk hp) hf
  | .tp h => .tp (h.mono hk hp)
  | .fn h => .fn (h.mono hk hp)
  | .ifc h => .ifc (h.mono hk hp)
  | .dead => .dead
theorem RelVs.mono {w w' : World} {ok ok' : Nat → Prop} {π π' : List Value} (hk : Keeps w ok w' ok') (hp : ∀ j h, nth π j = some h → nth π' j = some h) {a : List AV} {v : List Value} : RelVs w ok π a v → RelVs w' ok' π' a v
  | .nil => .nil
  | .cons h t => .cons (h.mono hk hp) (t.mono hk hp)
end

def isSl : Value → Bool
  | .slice .. => true
  | _ => false

mutual
theorem RelV.drop {w w' : World} {ok ok' : Nat → Prop} {π π' : List Value} {i : Nat} (hk : Keeps w ok w' ok') (hp : ∀ j h, nth π j = some h → j ≠ i ∨ isSl h = false → nth π' j = some h) {a : AV} {v : Value} : RelV w ok π a v → RelV w' ok' π' (a.drop i) v
  | .d h => by simp only [AV.drop]; exact .d (h.mono hk)
  | .ro h hm => by simp only [AV.drop]; exact .ro (h.mono hk) (keeps_run hk hm)
  | .ptr h => by simp only [AV.drop]; exact .ptr (hp _ _ h (.inr rfl))
  | .gs (i := j) h => by
    simp only [AV.drop]
    split
    · exact .dead
    · rename_i e
      exact .gs (hp _ _ h (.inl (by intro e'; subst e'; simp at e)))
  | .ge (i := j) h => by
    simp only [AV.drop]
    split
    · exact .dead
    · rename_i e
      exact .ge (hp _ _ h (.inl (by intro e'; subst e'; simp at e)))
  | .mp h => by simp only [AV.drop]; exact .mp (hp _ _ h (.inr rfl))
  | .e0 => by simp only [AV.drop]; exact .e0
  | .lit => by simp only [AV.drop]; exact .lit
  | .und => by simp only [AV.drop]; exact .und
  | .orc => by simp only [AV.drop]; exact .orc
  | .ag h hf => by simp only [AV.drop]; exact .ag (h.drop hk hp) hf
  | .tp h => by simp only [AV.drop]; exact .tp (h.drop hk hp)
  | .fn h => by simp only [AV.drop]; exact .fn (h.drop hk hp)
  | .ifc h => by simp only [AV.drop]; exact .ifc (h.drop hk hp)
  | .dead => by simp only [AV.drop]; exact .dead
theorem RelVs.drop {w w' : World} {ok ok' : Nat → Prop} {π π' : List Value} {i : Nat} (hk : Keeps w ok w' ok') (hp : ∀ j h, nth π j = some h → j ≠ i ∨ isSl h = false → nth π' j = some h) {a : List AV} {v : List Value} : RelVs w ok π a v → RelVs w' ok' π' (AV.drops i a) v
  | .nil => .nil
  | .cons h t => .cons (h.drop hk hp) (t.drop hk hp)
end

theorem RelVs.length {w : World} {ok : Nat → Prop} {π : List Value} : ∀ {cs : List AV} {vs : List Value}, RelVs w ok π cs vs → vs.length = cs.length
  | _, _, .nil => rfl
  | _, _, .cons _ t => by simp [t.length]
theorem RelVs.get {w : World} {ok : Nat → Prop} {π : List Value} : ∀ {cs : List AV} {vs : List Value}, RelVs w ok π cs vs → ∀ {n : Nat} {x : AV}, nth cs n = some x → ∃ v, vs[n]? = some v ∧ RelV w ok π x v
  | _, _, .nil, n, x, h => by simp [nth] at h
  | _, _, .cons hd t, 0, x, h => by
    simp only [nth, Option.some.injEq] at h
    subst h
    exact ⟨_, by simp, hd⟩
  | _, _, .cons hd t, n + 1, x, h => by
    obtain ⟨v, h1, h2⟩ := t.get (n := n) (x := x) h
    exact ⟨v, by simpa using h1, h2⟩
theorem RelVs.set {w : World} {ok : Nat → Prop} {π : List Value} : ∀ {cs : List AV} {vs : List Value}, RelVs w ok π cs vs → ∀ (n : Nat) {x : AV} {v : Value}, RelV w ok π x v → RelVs w ok π (setNth cs n x) (vs.set n v)
  | _, _, .nil, n, x, v, h => by simpa [setNth] using .nil
  | _, _, .cons hd t, 0, x, v, h => by simpa [setNth] using .cons h t
  | _, _, .cons hd t, n + 1, x, v, h => by simpa [setNth] using .cons hd (t.set n h)
theorem RelVs.append {w : World} {ok : Nat → Prop} {π : List Value} : ∀ {cs : List AV} {vs : List Value} {ds : List AV} {us : List Value}, RelVs w ok π cs vs → RelVs w ok π ds us → RelVs w ok π (cs ++ ds) (vs ++ us)
  | _, _, _, _, .nil, k => k
  | _, _, _, _, .cons h t, k => .cons h (t.append k)
theorem RelVs.take {w : World} {ok : Nat → Prop} {π : List Value} : ∀ {cs : List AV} {vs : List Value} (_ : RelVs w ok π cs vs) (n : Nat), RelVs w ok π (cs.take n) (vs.take n)
  | _, _, .nil, n => by simpa using .nil
  | _, _, .cons h t, 0 => by simpa using .nil
  | _, _, .cons h t, n + 1 => by simpa using .cons h (t.take n)
theorem RelVs.drop_ {w : World} {ok : Nat → Prop} {π : List Value} : ∀ {cs : List AV} {vs : List Value} (_ : RelVs w ok π cs vs) (n : Nat), RelVs w ok π (cs.drop n) (vs.drop n)
  | _, _, .nil, n => by simpa using .nil
  | _, _, .cons h t, 0 => by simpa using .cons h t
  | _, _, .cons h t, n + 1 => by simpa using t.drop_ n
theorem RelL.toVs {w : World} {ok : Nat → Prop} {π : List Value} : ∀ {cs : List D} {vs : List Value}, RelL w ok cs vs → RelVs w ok π (cs.map .d) vs
  | _, _, .nil => .nil
  | _, _, .cons h _ t => .cons (.d h) t.toVs

/-! ### Objects -/
inductive RelEs (w : World) (ok : Nat → Prop) (π : List Value) : List (Value × AV) → List MapEntry → Prop
  | nil : RelEs w ok π [] []
  | cons {k : Value} {x : AV} {v : Value} {n : Nat} {es : List (Value × AV)} {ms : List MapEntry} (h : RelV w ok π x v) (t : RelEs w ok π es ms) : RelEs w ok π ((k, x) :: es) (⟨k, v, n⟩ :: ms)
theorem RelEs.mono {w w' : World} {ok ok' : Nat → Prop} {π π' : List Value} (hk : Keeps w ok w' ok') (hp : ∀ j h, nth π j = some h → nth π' j = some h) : ∀ {a : List (Value × AV)} {v : List MapEntry}, RelEs w ok π a v → RelEs w' ok' π' a v
  | _, _, .nil => .nil
  | _, _, .cons h t => .cons (h.mono hk hp) (t.mono hk hp)
theorem RelEs.drop {w w' : World} {ok ok' : Nat → Prop} {π π' : List Value} {i : Nat} (hk : Keeps w ok w' ok') (hp : ∀ j h, nth π j = some h → j ≠ i ∨ isSl h = false → nth π' j = some h) : ∀ {a : List (Value × AV)} {v : List MapEntry}, RelEs w ok π a v → RelEs w' ok' π' (dropEs i a) v
  | _, _, .nil => .nil
  | _, _, .cons h t => .cons (h.drop hk hp) (t.drop hk hp)

inductive RelO (w : World) (ok : Nat → Prop) (π : List Value) : AObj → Value → Prop
  | cells {e : TypeId} {cs : List AV} {b : Nat} {vs : List Value} (hb : w.heap[b]? = some (.cells vs.toArray e (0, 0))) (h : RelVs w ok π cs vs) (hf : ∀ v ∈ vs, flat v = true) : RelO w ok π (.cells e cs) (.pointer (some ⟨b, 0, none⟩))
  | gnil {e : TypeId} {s : Nat} {A : Option Addr} {rd : Nat → D} : RelO w ok π (.grow e s [] rd) (.slice A 0 0)
  | grow {e : TypeId} {s b o c : Nat} {xs : List D} {us vs : List Value} {rd : Nat → D} {fz : Nat × Nat} (hb : w.heap[b]? = some (.cells vs.toArray e fz)) (hz : ∀ i, i < vs.length → ¬ (fz.1 ≤ i ∧ i < fz.2)) (h : RelE w ok s xs us) (hu : ∀ i, i < us.length → vs[o + i]? = us[i]?)
      (hc : xs.length ≤ c + 1) (hm : c + 1 ≤ maxLen) (ho : o + (c + 1) * s ≤ vs.length) (hr : ∀ i, i < xs.length → xs[i]? = some (rd i)) : RelO w ok π (.grow e s xs rd) (.slice (some ⟨b, o, none⟩) xs.length (c + 1))
  | map {es : List (Value × AV)} {r clock : Nat} {ms : List MapEntry} (hb : w.heap[r]? = some (.map ms.toArray clock)) (h : RelEs w ok π es ms) : RelO w ok π (.map es) (.map (some r))
  | hold {a : AV} {v : Value} (h : RelV w ok π a v) : RelO w ok π (.hold a v) (.tuple #[])

theorem RelO.mono {w w' : World} {ok ok' : Nat → Prop} {π π' : List Value} (hk : Keeps w ok w' ok') (hp : ∀ j h, nth π j = some h → nth π' j = some h) {o : AObj} {h : Value} (hh : ∀ b, blk h = some b → w'.heap[b]? = w.heap[b]?) : RelO w ok π o h → RelO w' ok' π' o h
  | .cells hb h hf => .cells ((hh _ rfl).trans hb) (h.mono hk hp) hf
  | .gnil => .gnil
  | .grow hb hz h hu hc hm ho hr => .grow ((hh _ rfl).trans hb) hz (h.mono hk) hu hc hm ho hr
  | .map hb h => .map ((hh _ rfl).trans hb) (h.mono hk hp)
  | .hold h => .hold (h.mono hk hp)
theorem RelO.drop {w w' : World} {ok ok' : Nat → Prop} {π π' : List Value} {i : Nat} (hk : Keeps w ok w' ok') (hp : ∀ j h, nth π j = some h → j ≠ i ∨ isSl h = false → nth π' j = some h) {o : AObj} {h : Value} (hh : ∀ b, blk h = some b → w'.heap[b]? = w.heap[b]?) : RelO w ok π o h → RelO w' ok' π' (o.drop i) h
  | .cells hb h hf => .cells ((hh _ rfl).trans hb) (h.drop hk hp) hf
  | .gnil => .gnil
  | .grow hb hz h hu hc hm ho hr => .grow ((hh _ rfl).trans hb) hz (h.mono hk) hu hc hm ho hr
  | .map hb h => .map ((hh _ rfl).trans hb) (h.drop hk hp)
  | .hold h => .hold (h.drop hk hp)
theorem RelO.lt {w : World} {ok : Nat → Prop} {π : List Value} {o : AObj} {h : Value} {b : Nat} : RelO w ok π o h → blk h = some b → b < w.heap.size
  | .cells hb _ _, e => by cases e; exact (Array.getElem?_eq_some_iff.1 hb).1
  | .gnil, e => by rename_i A _; cases A <;> cases e
  | .grow hb _ _ _ _ _ _ _, e => by cases e; exact (Array.getElem?_eq_some_iff.1 hb).1
  | .map hb _, e => by cases e; exact (Array.getElem?_eq_some_iff.1 hb).1
  | .hold _, e => by cases e

/-- What may be relied upon: no block of the caller's that may change (X), none of an object. -/
def okOf (X : Nat → Prop) (π : List Value) (objs : List (Option AObj)) (b : Nat) : Prop :=
  ¬ X b ∧ ∀ i o h, nth objs i = some (some o) → nth π i = some h → blk h ≠ some b

structure Mem (X : Nat → Prop) (π : List Value) (objs : List (Option AObj)) (w : World) : Prop where
  len : π.length = objs.length
  obj : ∀ i o, nth objs i = some (some o) → ∃ h, nth π i = some h ∧ RelO w (okOf X π objs) π o h
  dist : ∀ i j o o' h h' b, i ≠ j → nth objs i = some (some o) → nth objs j = some (some o') → nth π i = some h → nth π j = some h' → blk h = some b → blk h' ≠ some b
  ext : ∀ i o h b, nth objs i = some (some o) → nth π i = some h → blk h = some b → ¬ X b
  inX : ∀ b, X b → b < w.heap.size

theorem Mem.lt {X : Nat → Prop} {π : List Value} {objs : List (Option AObj)} {w : World} (m : Mem X π objs w) {i : Nat} {o : AObj} {h : Value} {b : Nat} (ho : nth objs i = some (some o)) (hp : nth π i = some h) (hb : blk h = some b) : b < w.heap.size := by
  obtain ⟨h', hp', ho'⟩ := m.obj i o ho
  rw [hp] at hp'
  cases hp'
  exact ho'.lt hb

end Ab
