/- How a step changes memory: new objects, objects that are written, slices that grow. -/
import Derived.Test.YtdnpkeahgpbkoaaAb15
namespace Ab
open Go

structure Hist (π : List Value) (objs : List (Option AObj)) (w : World) (π' : List Value) (objs' : List (Option AObj)) (w' : World) : Prop where
  os : w'.os = w.os
  tape : w'.tape = w.tape
  output : (w'.output = w.output ∧ w.drawn ≤ w'.drawn)
  size : w.heap.size ≤ w'.heap.size
  heap : ∀ b, b < w.heap.size → (∀ i o h, nth objs i = some (some o) → nth π i = some h → blk h ≠ some b) → w'.heap[b]? = w.heap[b]?
  own : ∀ i o h b, nth objs' i = some (some o) → nth π' i = some h → blk h = some b → w.heap.size ≤ b ∨ ∃ j o' h', nth objs j = some (some o') ∧ nth π j = some h' ∧ blk h' = some b
  hand : ∀ i h, nth π i = some h → isSl h = false → nth π' i = some h

theorem Hist.refl (π : List Value) (objs : List (Option AObj)) (w : World) : Hist π objs w π objs w :=
  ⟨rfl, rfl, ⟨rfl, Nat.le_refl _⟩, Nat.le_refl _, fun _ _ _ => rfl, fun i o h _ h1 h2 h3 => .inr ⟨i, o, h, h1, h2, h3⟩, fun _ _ h _ => h⟩

theorem Hist.trans {π π1 π2 : List Value} {objs objs1 objs2 : List (Option AObj)} {w w1 w2 : World} (a : Hist π objs w π1 objs1 w1) (b : Hist π1 objs1 w1 π2 objs2 w2) : Hist π objs w π2 objs2 w2 where
  os := b.os.trans a.os
  tape := b.tape.trans a.tape
  output := ⟨b.output.1.trans a.output.1, Nat.le_trans a.output.2 b.output.2⟩
  size := Nat.le_trans a.size b.size
  heap := by
    intro c hc hn
    rw [b.heap c (Nat.lt_of_lt_of_le hc a.size) ?_, a.heap c hc hn]
    intro i o h h1 h2 h3
    rcases a.own i o h c h1 h2 h3 with h4 | ⟨j, o', h', h5, h6, h7⟩
    · omega
    · exact hn j o' h' h5 h6 h7
  own := by
    intro i o h c h1 h2 h3
    rcases b.own i o h c h1 h2 h3 with h4 | ⟨j, o', h', h5, h6, h7⟩
    · exact .inl (Nat.le_trans a.size h4)
    · exact a.own j o' h' c h5 h6 h7
  hand := fun i h h1 h2 => b.hand i h (a.hand i h h1 h2) h2

def keepQ (q : Option Nat) (a : AV) : AV :=
  match q with
  | none => a
  | some i => a.drop i

structure Tr (X : Nat → Prop) (π : List Value) (objs : List (Option AObj)) (w : World) (q : Option Nat) (π' : List Value) (objs' : List (Option AObj)) (w' : World) : Prop where
  mem : Mem X π' objs' w'
  keep : ∀ a v, RelV w (okOf X π objs) π a v → RelV w' (okOf X π' objs') π' (keepQ q a) v
  hist : Hist π objs w π' objs' w'

theorem cell_lt {w : World} {a : Addr} {v : Value} (h : w.cell? a = some v) : a.block < w.heap.size := World.block_lt_of_cell? w a h

/-! ### A new object -/
section
variable {X : Nat → Prop} {π : List Value} {objs : List (Option AObj)} {w : World}

theorem alloc_heap (obj : Obj) : (w.alloc obj).heap = w.heap.push obj := rfl
theorem heap_push_old (obj : Obj) {b : Nat} (h : b < w.heap.size) : (w.alloc obj).heap[b]? = w.heap[b]? := by
  rw [alloc_heap, Array.getElem?_push, if_neg (Nat.ne_of_lt h)]
theorem heap_push_new (obj : Obj) : (w.alloc obj).heap[w.heap.size]? = some obj := by rw [alloc_heap]; simp
theorem cell_push (obj : Obj) {a : Addr} {v : Value} (h : w.cell? a = some v) : (w.alloc obj).cell? a = some v := by
  have hb := cell_lt h
  unfold World.cell? at h ⊢
  rw [heap_push_old obj hb]
  exact h

theorem new_ok (h : Value) (o : AObj) (hl : π.length = objs.length) (hh : ∀ b, blk h = some b → w.heap.size ≤ b) {b : Nat} (hb : b < w.heap.size) (hok : okOf X π objs b) : okOf X (π ++ [h]) (objs ++ [some o]) b := by
  refine ⟨hok.1, fun i o' h' h1 h2 => ?_⟩
  rcases nth_append_some h1 with h3 | ⟨h3, h4⟩
  · rcases nth_append_some h2 with h5 | ⟨h5, _⟩
    · exact hok.2 i o' h' h3 h5
    · have := nth_lt h3; omega
  · rcases nth_append_some h2 with h5 | ⟨_, h6⟩
    · have := nth_lt h5; omega
    · have e : i - π.length = 0 := by
        have := nth_lt h6; simp at this; omega
      rw [e] at h6
      simp only [nth, Option.some.injEq] at h6
      subst h6
      intro hc
      have := hh _ hc
      omega

theorem new_keeps (obj : Obj) (h : Value) (o : AObj) (hl : π.length = objs.length) (hh : ∀ b, blk h = some b → w.heap.size ≤ b) : Keeps w (okOf X π objs) (w.alloc obj) (okOf X (π ++ [h]) (objs ++ [some o])) :=
  fun _ _ _ h1 h2 => ⟨new_ok h o hl hh (cell_lt h2) h1, cell_push obj h2⟩
theorem new_hand (h : Value) : ∀ j k, nth π j = some k → nth (π ++ [h]) j = some k := fun _ _ hj => nth_append_left hj

theorem new_keepsW {w' : World} (hw : ∀ b, b < w.heap.size → w'.heap[b]? = w.heap[b]?) (h : Value) (o : AObj) (hl : π.length = objs.length) (hh : ∀ b, blk h = some b → w.heap.size ≤ b) : Keeps w (okOf X π objs) w' (okOf X (π ++ [h]) (objs ++ [some o])) := by
  intro b off u h1 h2
  have hb := cell_lt h2
  refine ⟨new_ok h o hl hh hb h1, ?_⟩
  unfold World.cell? at h2 ⊢
  rw [hw b hb]
  exact h2

/-- A new object, at new memory or at none. -/
theorem tr_newW (m : Mem X π objs w) {w' : World} (hos : w'.os = w.os) (htape : w'.tape = w.tape) (hout : w'.output = w.output ∧ w.drawn ≤ w'.drawn) (hsz : w.heap.size ≤ w'.heap.size) (hw : ∀ b, b < w.heap.size → w'.heap[b]? = w.heap[b]?)
    (h : Value) (o : AObj) (hh : ∀ b, blk h = some b → w.heap.size ≤ b) (hrel : RelO w' (okOf X (π ++ [h]) (objs ++ [some o])) (π ++ [h]) o h) :
    Tr X π objs w none (π ++ [h]) (objs ++ [some o]) w' := by
  have hk := new_keepsW (X := X) (π := π) (objs := objs) (w := w) hw h o m.len hh
  have hp := new_hand (π := π) h
  have hnew : ∀ {i : Nat} {o' : AObj}, nth (objs ++ [some o]) i = some (some o') → (nth objs i = some (some o')) ∨ (i = objs.length ∧ o' = o) := by
    intro i o' hi
    rcases nth_append_some hi with h1 | ⟨h1, h2⟩
    · exact .inl h1
    · right
      have : i - objs.length = 0 := by have := nth_lt h2; simp at this; omega
      rw [this] at h2
      simp only [nth, Option.some.injEq] at h2
      exact ⟨by omega, h2.symm⟩
  have hold : ∀ {i : Nat} {o' : AObj} {h' : Value}, nth objs i = some (some o') → nth (π ++ [h]) i = some h' → nth π i = some h' := by
    intro i o' h' h1 h2
    rcases nth_append_some h2 with h3 | ⟨h3, _⟩
    · exact h3
    · have := nth_lt h1; have := m.len; omega
  have hlast : ∀ {h' : Value}, nth (π ++ [h]) objs.length = some h' → h' = h := by
    intro h' h2
    have := nth_append_at (l := π) (r := [h]) (m := 0)
    rw [Nat.add_zero, m.len] at this
    rw [this] at h2
    simpa [nth] using h2.symm
  refine ⟨⟨by simp [m.len], ?_, ?_, ?_, ?_⟩, fun a v h1 => h1.mono hk hp, ⟨hos, htape, hout, hsz, fun b hb' _ => hw b hb', ?_, fun i k hi _ => hp i k hi⟩⟩
  · intro i o' hi
    rcases hnew hi with h1 | ⟨rfl, rfl⟩
    · obtain ⟨k, h2, h3⟩ := m.obj i o' h1
      exact ⟨k, hp _ _ h2, h3.mono hk hp (fun b e => hw b (h3.lt e))⟩
    · refine ⟨h, ?_, hrel⟩
      have := nth_append_at (l := π) (r := [h]) (m := 0)
      rw [Nat.add_zero, m.len] at this
      rw [this]
      rfl
  · intro i j o1 o2 h1 h2 b hne ho1 ho2 hp1 hp2 hb1
    rcases hnew ho1 with e1 | ⟨rfl, rfl⟩ <;> rcases hnew ho2 with e2 | ⟨rfl, rfl⟩
    · exact m.dist i j o1 o2 h1 h2 b hne e1 e2 (hold e1 hp1) (hold e2 hp2) hb1
    · have := m.lt e1 (hold e1 hp1) hb1
      rw [hlast hp2]
      intro e
      have := hh b e
      omega
    · rw [hlast hp1] at hb1
      have := hh b hb1
      intro e
      have := m.lt e2 (hold e2 hp2) e
      omega
    · exact absurd rfl hne
  · intro i o1 h1 b ho1 hp1 hb1 hx
    rcases hnew ho1 with e1 | ⟨rfl, rfl⟩
    · exact m.ext i o1 h1 b e1 (hold e1 hp1) hb1 hx
    · rw [hlast hp1] at hb1
      have := hh b hb1
      have := m.inX _ hx
      omega
  · intro b hx
    have := m.inX b hx
    omega
  · intro i o1 h1 b ho1 hp1 hb1
    rcases hnew ho1 with e1 | ⟨rfl, rfl⟩
    · exact .inr ⟨i, o1, h1, e1, hold e1 hp1, hb1⟩
    · rw [hlast hp1] at hb1
      exact .inl (hh b hb1)

/-- A new object at a new block. -/
theorem tr_new (m : Mem X π objs w) (obj : Obj) (h : Value) (o : AObj) (hb : blk h = some w.heap.size) (hrel : RelO (w.alloc obj) (okOf X (π ++ [h]) (objs ++ [some o])) (π ++ [h]) o h) :
    Tr X π objs w none (π ++ [h]) (objs ++ [some o]) (w.alloc obj) :=
  tr_newW (w' := w.alloc obj) m rfl rfl ⟨rfl, Nat.le_refl _⟩ (by rw [alloc_heap]; simp) (fun b hb => heap_push_old obj hb) h o (by intro b e; rw [hb] at e; cases e; exact Nat.le_refl _) hrel

/-! ### An object that is written -/
theorem okOf_set {i : Nat} {o o' : AObj} (ho : nth objs i = some (some o)) (b : Nat) : okOf X π (setNth objs i (some o')) b ↔ okOf X π objs b := by
  constructor
  · rintro ⟨h1, h2⟩
    refine ⟨h1, fun j o1 h hj hp => ?_⟩
    by_cases e : j = i
    · subst e
      exact h2 j o' h (nth_setNth_eq ho) hp
    · exact h2 j o1 h (by rw [nth_setNth_ne e]; exact hj) hp
  · rintro ⟨h1, h2⟩
    refine ⟨h1, fun j o1 h hj hp => ?_⟩
    rcases nth_setNth hj with ⟨rfl, _⟩ | ⟨_, h3⟩
    · exact h2 j o h ho hp
    · exact h2 j o1 h h3 hp

theorem set_keeps {w' : World} {i : Nat} {o o' : AObj} {h : Value} {b : Nat} (ho : nth objs i = some (some o)) (hp : nth π i = some h) (hb : blk h = some b) (hw : ∀ c, c ≠ b → w'.heap[c]? = w.heap[c]?) :
    Keeps w (okOf X π objs) w' (okOf X π (setNth objs i (some o'))) := by
  intro c off u h1 h2
  refine ⟨(okOf_set ho c).2 h1, ?_⟩
  have hne : c ≠ b := fun e => h1.2 i o h ho hp (by rw [hb, e])
  unfold World.cell? at h2 ⊢
  rw [hw c hne]
  exact h2

theorem tr_set (m : Mem X π objs w) {w' : World} {i : Nat} {o o' : AObj} {h : Value} {b : Nat} (ho : nth objs i = some (some o)) (hp : nth π i = some h) (hb : blk h = some b)
    (hos : w'.os = w.os) (htape : w'.tape = w.tape) (hout : w'.output = w.output ∧ w.drawn ≤ w'.drawn) (hsz : w'.heap.size = w.heap.size) (hw : ∀ c, c ≠ b → w'.heap[c]? = w.heap[c]?)
    (hrel : RelO w' (okOf X π (setNth objs i (some o'))) π o' h) : Tr X π objs w none π (setNth objs i (some o')) w' := by
  have hk := set_keeps (X := X) (w' := w') (o' := o') ho hp hb hw
  have hp' : ∀ j k, nth π j = some k → nth π j = some k := fun _ _ h => h
  have hold : ∀ {j : Nat} {o1 : AObj}, nth (setNth objs i (some o')) j = some (some o1) → ∃ o2, nth objs j = some (some o2) := by
    intro j o1 hj
    rcases nth_setNth hj with ⟨rfl, _⟩ | ⟨_, h3⟩
    · exact ⟨o, ho⟩
    · exact ⟨o1, h3⟩
  refine ⟨⟨by rw [setNth_length]; exact m.len, ?_, ?_, ?_, ?_⟩, fun a v h1 => h1.mono hk hp', ⟨hos, htape, hout, by omega, ?_, ?_, fun i k hi _ => hi⟩⟩
  · intro j o1 hj
    rcases nth_setNth hj with ⟨rfl, e⟩ | ⟨hne, h3⟩
    · cases e
      exact ⟨h, hp, hrel⟩
    · obtain ⟨k, h4, h5⟩ := m.obj j o1 h3
      refine ⟨k, h4, h5.mono hk hp' (fun c e => hw c ?_)⟩
      intro ec
      subst ec
      exact m.dist j i o1 o k h c hne h3 ho h4 hp e hb
  · intro j j' o1 o2 h1 h2 c hne ho1 ho2 hp1 hp2 hb1
    obtain ⟨o3, e1⟩ := hold ho1
    obtain ⟨o4, e2⟩ := hold ho2
    exact m.dist j j' o3 o4 h1 h2 c hne e1 e2 hp1 hp2 hb1
  · intro j o1 h1 c ho1 hp1 hb1
    obtain ⟨o3, e1⟩ := hold ho1
    exact m.ext j o3 h1 c e1 hp1 hb1
  · intro c hx
    have := m.inX c hx
    omega
  · intro c hc hn
    exact hw c (fun e => hn i o h ho hp (by rw [hb, e]))
  · intro j o1 h1 c ho1 hp1 hb1
    obtain ⟨o3, e1⟩ := hold ho1
    exact .inr ⟨j, o3, h1, e1, hp1, hb1⟩

/-! ### A slice that grows: what stood for it is gone -/
theorem regrow_keeps {w' : World} {i : Nat} {o o' : AObj} {h h' : Value} (ho : nth objs i = some (some o)) (hp : nth π i = some h)
    (hw : ∀ c, c < w.heap.size → blk h ≠ some c → w'.heap[c]? = w.heap[c]?) (hb' : ∀ b, blk h' = some b → blk h = some b ∨ w.heap.size ≤ b) :
    Keeps w (okOf X π objs) w' (okOf X (setNth π i h') (setNth (dropO i objs) i (some o'))) := by
  intro c off u h1 h2
  have hc : c < w.heap.size := cell_lt h2
  refine ⟨⟨h1.1, fun j o1 k hj hk => ?_⟩, ?_⟩
  · rcases nth_setNth hj with ⟨rfl, _⟩ | ⟨hne, h3⟩
    · rw [nth_setNth_eq hp] at hk
      cases hk
      intro e
      rcases hb' c e with e1 | e1
      · exact h1.2 j o h ho hp e1
      · omega
    · obtain ⟨o2, h4, _⟩ := nth_dropO i objs h3
      rw [nth_setNth_ne hne] at hk
      exact h1.2 j o2 k h4 hk
  · unfold World.cell? at h2 ⊢
    rw [hw c hc (h1.2 i o h ho hp)]
    exact h2

theorem tr_regrow (m : Mem X π objs w) {w' : World} {i : Nat} {o o' : AObj} {h h' : Value} (ho : nth objs i = some (some o)) (hp : nth π i = some h) (hsl : isSl h = true)
    (hos : w'.os = w.os) (htape : w'.tape = w.tape) (hout : w'.output = w.output ∧ w.drawn ≤ w'.drawn) (hsz : w.heap.size ≤ w'.heap.size) (hw : ∀ c, c < w.heap.size → blk h ≠ some c → w'.heap[c]? = w.heap[c]?)
    (hb' : ∀ b, blk h' = some b → blk h = some b ∨ w.heap.size ≤ b)
    (hrel : RelO w' (okOf X (setNth π i h') (setNth (dropO i objs) i (some o'))) (setNth π i h') o' h') : Tr X π objs w (some i) (setNth π i h') (setNth (dropO i objs) i (some o')) w' := by
  have hold : ∀ {j : Nat} {o1 : AObj}, nth (setNth (dropO i objs) i (some o')) j = some (some o1) → (j = i ∧ o1 = o') ∨ (j ≠ i ∧ ∃ o2, nth objs j = some (some o2) ∧ o1 = o2.drop i) := by
    intro j o1 hj
    rcases nth_setNth hj with ⟨rfl, e⟩ | ⟨hne, h3⟩
    · cases e; exact .inl ⟨rfl, rfl⟩
    · exact .inr ⟨hne, nth_dropO i objs h3⟩
  have hpi : nth (setNth π i h') i = some h' := nth_setNth_eq hp
  have hpj : ∀ {j : Nat}, j ≠ i → nth (setNth π i h') j = nth π j := fun hne => nth_setNth_ne hne
  have hok : ∀ c, c < w.heap.size → okOf X π objs c → okOf X (setNth π i h') (setNth (dropO i objs) i (some o')) c := by
    intro c hc h1
    refine ⟨h1.1, fun j o1 k hj hk => ?_⟩
    rcases hold hj with ⟨rfl, rfl⟩ | ⟨hne, o2, h2, rfl⟩
    · rw [hpi] at hk
      cases hk
      intro e
      rcases hb' c e with e1 | e1
      · exact h1.2 j o h ho hp e1
      · omega
    · rw [hpj hne] at hk
      exact h1.2 j o2 k h2 hk
  have hk : Keeps w (okOf X π objs) w' (okOf X (setNth π i h') (setNth (dropO i objs) i (some o'))) := by
    intro c off u h1 h2
    have hc : c < w.heap.size := cell_lt h2
    refine ⟨hok c hc h1, ?_⟩
    unfold World.cell? at h2 ⊢
    rw [hw c hc (h1.2 i o h ho hp)]
    exact h2
  have hh : ∀ j k, nth π j = some k → j ≠ i ∨ isSl k = false → nth (setNth π i h') j = some k := by
    intro j k hj hd
    have hne : j ≠ i := by
      rcases hd with hd | hd
      · exact hd
      · intro e
        subst e
        rw [hp] at hj
        cases hj
        rw [hsl] at hd
        cases hd
    rw [hpj hne]
    exact hj
  refine ⟨⟨by simp [setNth_length, dropO_length, m.len], ?_, ?_, ?_, ?_⟩, fun a v h1 => h1.drop hk hh, ⟨hos, htape, hout, hsz, ?_, ?_, fun j k hj hd => hh j k hj (.inr hd)⟩⟩
  · intro j o1 hj
    rcases hold hj with ⟨rfl, rfl⟩ | ⟨hne, o2, h2, rfl⟩
    · exact ⟨h', hpi, hrel⟩
    · obtain ⟨k, h4, h5⟩ := m.obj j o2 h2
      refine ⟨k, by rw [hpj hne]; exact h4, h5.drop hk hh (fun c e => hw c (h5.lt e) ?_)⟩
      exact m.dist j i o2 o k h c hne h2 ho h4 hp e
  · intro j j' o1 o2 h1 h2 c hne ho1 ho2 hp1 hp2 hb1
    rcases hold ho1 with ⟨rfl, rfl⟩ | ⟨hn1, o3, e1, rfl⟩ <;> rcases hold ho2 with ⟨rfl, rfl⟩ | ⟨hn2, o4, e2, rfl⟩
    · exact absurd rfl hne
    · rw [hpi] at hp1
      cases hp1
      rw [hpj hn2] at hp2
      intro e
      rcases hb' c hb1 with e3 | e3
      · exact m.dist j' j o4 o h2 h c hn2 e2 ho hp2 hp e e3
      · have := m.lt e2 hp2 e
        omega
    · rw [hpi] at hp2
      cases hp2
      rw [hpj hn1] at hp1
      intro e
      rcases hb' c e with e3 | e3
      · exact m.dist j j' o3 o h1 h c hn1 e1 ho hp1 hp hb1 e3
      · have := m.lt e1 hp1 hb1
        omega
    · rw [hpj hn1] at hp1
      rw [hpj hn2] at hp2
      exact m.dist j j' o3 o4 h1 h2 c hne e1 e2 hp1 hp2 hb1
  · intro j o1 h1 c ho1 hp1 hb1 hx
    rcases hold ho1 with ⟨rfl, rfl⟩ | ⟨hn1, o3, e1, rfl⟩
    · rw [hpi] at hp1
      cases hp1
      rcases hb' c hb1 with e3 | e3
      · exact m.ext j o h c ho hp e3 hx
      · have := m.inX c hx
        omega
    · rw [hpj hn1] at hp1
      exact m.ext j o3 h1 c e1 hp1 hb1 hx
  · intro c hx
    have := m.inX c hx
    omega
  · intro c hc hn
    exact hw c hc (hn i o h ho hp)
  · intro j o1 h1 c ho1 hp1 hb1
    rcases hold ho1 with ⟨rfl, rfl⟩ | ⟨hn1, o3, e1, rfl⟩
    · rw [hpi] at hp1
      cases hp1
      rcases hb' c hb1 with e3 | e3
      · exact .inr ⟨j, o, h, ho, hp, e3⟩
      · exact .inl e3
    · rw [hpj hn1] at hp1
      exact .inr ⟨j, o3, h1, e1, hp1, hb1⟩

/-! ### An object that is let go of -/
theorem tr_forget (m : Mem X π objs w) (i : Nat) : Tr X π objs w none π (setNth objs i none) w := by
  have hold : ∀ {j : Nat} {o1 : AObj}, nth (setNth objs i none) j = some (some o1) → nth objs j = some (some o1) := by
    intro j o1 hj
    rcases nth_setNth hj with ⟨rfl, e⟩ | ⟨_, h3⟩
    · cases e
    · exact h3
  have hk : Keeps w (okOf X π objs) w (okOf X π (setNth objs i none)) := fun b o u h1 h2 => ⟨⟨h1.1, fun j o1 h hj hp => h1.2 j o1 h (hold hj) hp⟩, h2⟩
  have hp' : ∀ j k, nth π j = some k → nth π j = some k := fun _ _ h => h
  refine ⟨⟨by rw [setNth_length]; exact m.len, ?_, ?_, ?_, m.inX⟩, fun a v h1 => h1.mono hk hp', ⟨rfl, rfl, ⟨rfl, Nat.le_refl _⟩, Nat.le_refl _, fun _ _ _ => rfl, ?_, fun _ _ h _ => h⟩⟩
  · intro j o1 hj
    obtain ⟨k, h4, h5⟩ := m.obj j o1 (hold hj)
    exact ⟨k, h4, h5.mono hk hp' (fun _ _ => rfl)⟩
  · intro j j' o1 o2 h1 h2 c hne ho1 ho2 hp1 hp2 hb1
    exact m.dist j j' o1 o2 h1 h2 c hne (hold ho1) (hold ho2) hp1 hp2 hb1
  · intro j o1 h1 c ho1 hp1 hb1
    exact m.ext j o1 h1 c (hold ho1) hp1 hb1
  · intro j o1 h1 c ho1 hp1 hb1
    exact .inr ⟨j, o1, h1, hold ho1, hp1, hb1⟩
end

end Ab
