/- A call that is lent objects of the caller's; objects are told under other numbers. -/
import Derived.Test.YtdnpkeahgpbkoaaAb27
set_option linter.unusedSimpArgs false
set_option linter.unusedVariables false
namespace Ab
open Go

/-! ### Other numbers -/
mutual
def AV.ren (ρ : Nat → Nat) : AV → AV
  | .gs j => .gs (ρ j)
  | .ge j s e o => .ge (ρ j) s e o
  | .ag cs => .ag (AV.rens ρ cs)
  | .tp cs => .tp (AV.rens ρ cs)
  | .fn f cs => .fn f (AV.rens ρ cs)
  | .ifc t x => .ifc t (AV.ren ρ x)
  | .d x => .d x
  | .ro x => .ro x
  | .ptr j o => .ptr (ρ j) o
  | .mp j => .mp (ρ j)
  | .e0 s => .e0 s
  | .lit b => .lit b
  | .und => .und
  | .orc b => .orc b
  | .dead => .dead
def AV.rens (ρ : Nat → Nat) : List AV → List AV
  | [] => []
  | x :: r => AV.ren ρ x :: AV.rens ρ r
end
def renEs (ρ : Nat → Nat) : List (Value × AV) → List (Value × AV)
  | [] => []
  | (k, x) :: r => (k, x.ren ρ) :: renEs ρ r
def AObj.ren (ρ : Nat → Nat) : AObj → AObj
  | .cells e cs => .cells e (AV.rens ρ cs)
  | .grow e s xs rd => .grow e s xs rd
  | .builder bs => .builder bs
  | .hold a v => .hold (a.ren ρ) v
  | .map es => .map (renEs ρ es)

mutual
theorem RelV.ren {w w' : World} {ok ok' : Nat → Prop} {π π' : List Value} {ρ : Nat → Nat} (hk : Keeps w ok w' ok') (hp : ∀ j h, nth π j = some h → nth π' (ρ j) = some h) {a : AV} {v : Value} : RelV w ok π a v → RelV w' ok' π' (a.ren ρ) v
  | .d h => by simp only [AV.ren]; exact .d (h.mono hk)
  | .ro h hm => by simp only [AV.ren]; exact .ro (h.mono hk) (keeps_run hk hm)
  | .ptr h => by simp only [AV.ren]; exact .ptr (hp _ _ h)
  | .gs h => by simp only [AV.ren]; exact .gs (hp _ _ h)
  | .ge h => by simp only [AV.ren]; exact .ge (hp _ _ h)
  | .mp h => by simp only [AV.ren]; exact .mp (hp _ _ h)
  | .e0 => by simp only [AV.ren]; exact .e0
  | .lit => by simp only [AV.ren]; exact .lit
  | .und => by simp only [AV.ren]; exact .und
  | .orc => by simp only [AV.ren]; exact .orc
  | .ag h hf => by simp only [AV.ren]; exact .ag (h.ren hk hp) hf
  | .tp h => by simp only [AV.ren]; exact .tp (h.ren hk hp)
  | .fn h => by simp only [AV.ren]; exact .fn (h.ren hk hp)
  | .ifc h => by simp only [AV.ren]; exact .ifc (h.ren hk hp)
  | .dead => by simp only [AV.ren]; exact .dead
theorem RelVs.ren {w w' : World} {ok ok' : Nat → Prop} {π π' : List Value} {ρ : Nat → Nat} (hk : Keeps w ok w' ok') (hp : ∀ j h, nth π j = some h → nth π' (ρ j) = some h) {a : List AV} {v : List Value} : RelVs w ok π a v → RelVs w' ok' π' (AV.rens ρ a) v
  | .nil => .nil
  | .cons h t => .cons (h.ren hk hp) (t.ren hk hp)
end
theorem RelEs.ren {w w' : World} {ok ok' : Nat → Prop} {π π' : List Value} {ρ : Nat → Nat} (hk : Keeps w ok w' ok') (hp : ∀ j h, nth π j = some h → nth π' (ρ j) = some h) : ∀ {a : List (Value × AV)} {v : List MapEntry}, RelEs w ok π a v → RelEs w' ok' π' (renEs ρ a) v
  | _, _, .nil => .nil
  | _, _, .cons h t => .cons (h.ren hk hp) (t.ren hk hp)
theorem RelO.ren {w w' : World} {ok ok' : Nat → Prop} {π π' : List Value} {ρ : Nat → Nat} (hk : Keeps w ok w' ok') (hp : ∀ j h, nth π j = some h → nth π' (ρ j) = some h) {o : AObj} {h : Value} (hh : ∀ b, blk h = some b → w'.heap[b]? = w.heap[b]?) : RelO w ok π o h → RelO w' ok' π' (o.ren ρ) h
  | .cells hb h hf => .cells ((hh _ rfl).trans hb) (h.ren hk hp) hf
  | .gnil => .gnil
  | .grow hb hz h hu hc hm ho hr => .grow ((hh _ rfl).trans hb) hz (h.mono hk) hu hc hm ho hr
  | .map hb h => .map ((hh _ rfl).trans hb) (h.ren hk hp)
  | .hold h => .hold (h.ren hk hp)

mutual
theorem RelV.unren {w w' : World} {ok ok' : Nat → Prop} {π π' : List Value} {ρ : Nat → Nat} {m : Nat} (hk : Keeps w ok w' ok') (hp : ∀ j h, j < m → nth π (ρ j) = some h → nth π' j = some h) : ∀ (a : AV) {v : Value}, refsB m a = true → RelV w ok π (a.ren ρ) v → RelV w' ok' π' a v
  | .d x, _, _, h => by simp only [AV.ren] at h; cases h with | d h => exact .d (h.mono hk)
  | .ro x, _, _, h => by simp only [AV.ren] at h; cases h with | ro h hm => exact .ro (h.mono hk) (keeps_run hk hm)
  | .ptr j o, _, hr, h => by simp only [AV.ren] at h; cases h with | ptr h => exact .ptr (hp _ _ (by simpa [refsB, Nat.blt_eq] using hr) h)
  | .gs j, _, hr, h => by simp only [AV.ren] at h; cases h with | gs h => exact .gs (hp _ _ (by simpa [refsB, Nat.blt_eq] using hr) h)
  | .ge j s e o, _, hr, h => by simp only [AV.ren] at h; cases h with | ge h => exact .ge (hp _ _ (by simpa [refsB, Nat.blt_eq] using hr) h)
  | .mp j, _, hr, h => by simp only [AV.ren] at h; cases h with | mp h => exact .mp (hp _ _ (by simpa [refsB, Nat.blt_eq] using hr) h)
  | .e0 s, _, _, h => by simp only [AV.ren] at h; cases h; exact .e0
  | .lit b, _, _, h => by simp only [AV.ren] at h; cases h; exact .lit
  | .und, _, _, h => by simp only [AV.ren] at h; cases h; exact .und
  | .orc b, _, _, h => by simp only [AV.ren] at h; cases h; exact .orc
  | .dead, _, _, h => by simp only [AV.ren] at h; exact .dead
  | .ag cs, _, hr, h => by simp only [AV.ren] at h; cases h with | ag h hf => exact .ag (RelVs.unren hk hp cs (by simpa [refsB] using hr) h) hf
  | .tp cs, _, hr, h => by simp only [AV.ren] at h; cases h with | tp h => exact .tp (RelVs.unren hk hp cs (by simpa [refsB] using hr) h)
  | .fn f cs, _, hr, h => by simp only [AV.ren] at h; cases h with | fn h => exact .fn (RelVs.unren hk hp cs (by simpa [refsB] using hr) h)
  | .ifc t x, _, hr, h => by simp only [AV.ren] at h; cases h with | ifc h => exact .ifc (RelV.unren hk hp x (by simpa [refsB] using hr) h)
theorem RelVs.unren {w w' : World} {ok ok' : Nat → Prop} {π π' : List Value} {ρ : Nat → Nat} {m : Nat} (hk : Keeps w ok w' ok') (hp : ∀ j h, j < m → nth π (ρ j) = some h → nth π' j = some h) : ∀ (a : List AV) {v : List Value}, refsBs m a = true → RelVs w ok π (AV.rens ρ a) v → RelVs w' ok' π' a v
  | [], _, _, h => by simp only [AV.rens] at h; cases h; exact .nil
  | x :: r, _, hr, h => by
    simp only [AV.rens] at h
    simp only [refsBs] at hr
    split at hr
    · rename_i hx
      cases h with | cons h t => exact .cons (RelV.unren hk hp x hx h) (RelVs.unren hk hp r hr t)
    · cases hr
end
theorem RelEs.unren {w w' : World} {ok ok' : Nat → Prop} {π π' : List Value} {ρ : Nat → Nat} {m : Nat} (hk : Keeps w ok w' ok') (hp : ∀ j h, j < m → nth π (ρ j) = some h → nth π' j = some h) : ∀ (a : List (Value × AV)) {v : List MapEntry}, refsM m a = true → RelEs w ok π (renEs ρ a) v → RelEs w' ok' π' a v
  | [], _, _, h => by simp only [renEs] at h; cases h; exact .nil
  | (k, x) :: r, _, hr, h => by
    simp only [renEs] at h
    simp only [refsM] at hr
    split at hr
    · rename_i hx
      cases h with | cons h t => exact .cons (RelV.unren hk hp x hx h) (RelEs.unren hk hp r hr t)
    · cases hr
theorem RelO.unren {w w' : World} {ok ok' : Nat → Prop} {π π' : List Value} {ρ : Nat → Nat} {m : Nat} (hk : Keeps w ok w' ok') (hp : ∀ j h, j < m → nth π (ρ j) = some h → nth π' j = some h) : ∀ (o : AObj) {h : Value}, refsO1 m o = true → (∀ b, blk h = some b → w'.heap[b]? = w.heap[b]?) → RelO w ok π (o.ren ρ) h → RelO w' ok' π' o h
  | .cells e cs, _, hr, hh, h => by simp only [AObj.ren] at h; cases h with | cells hb h hf => exact .cells ((hh _ rfl).trans hb) (RelVs.unren hk hp cs hr h) hf
  | .grow e s xs rd, _, hr, hh, h => by
    simp only [AObj.ren] at h
    cases h with
    | gnil => exact .gnil
    | grow hb hz h hu hc hm ho hr => exact .grow ((hh _ rfl).trans hb) hz (h.mono hk) hu hc hm ho hr
  | .map es, _, hr, hh, h => by simp only [AObj.ren] at h; cases h with | map hb h => exact .map ((hh _ rfl).trans hb) (RelEs.unren hk hp es hr h)
  | .builder bs, _, hr, hh, h => by simp only [AObj.ren] at h; cases h
  | .hold a v, _, hr, hh, h => by simp only [AObj.ren] at h; cases h with | hold h => exact .hold (RelV.unren hk hp a hr h)

/-! ### What stands for a slice that may have grown elsewhere is gone -/
mutual
def AV.dropS (q : Nat → Bool) : AV → AV
  | .gs j => match q j with | true => .dead | false => .gs j
  | .ge j s e o => match q j with | true => .dead | false => .ge j s e o
  | .ag cs => .ag (AV.dropSs q cs)
  | .tp cs => .tp (AV.dropSs q cs)
  | .fn f cs => .fn f (AV.dropSs q cs)
  | .ifc t x => .ifc t (AV.dropS q x)
  | .d x => .d x
  | .ro x => .ro x
  | .ptr j o => .ptr j o
  | .mp j => .mp j
  | .e0 s => .e0 s
  | .lit b => .lit b
  | .und => .und
  | .orc b => .orc b
  | .dead => .dead
def AV.dropSs (q : Nat → Bool) : List AV → List AV
  | [] => []
  | x :: r => AV.dropS q x :: AV.dropSs q r
end
def dropSEs (q : Nat → Bool) : List (Value × AV) → List (Value × AV)
  | [] => []
  | (k, x) :: r => (k, x.dropS q) :: dropSEs q r
def AObj.dropS (q : Nat → Bool) : AObj → AObj
  | .cells e cs => .cells e (AV.dropSs q cs)
  | .grow e s xs rd => .grow e s xs rd
  | .builder bs => .builder bs
  | .hold a v => .hold (a.dropS q) v
  | .map es => .map (dropSEs q es)
def dropSE (q : Nat → Bool) : Env → Env
  | [] => []
  | (t, a) :: r => (t, a.dropS q) :: dropSE q r
theorem look_dropSE (q : Nat → Bool) : ∀ (env : Env) (t : Nat), look (dropSE q env) t = (look env t).map (AV.dropS q)
  | [], t => rfl
  | (k, a) :: r, t => by
    simp only [dropSE, look]
    split
    · rfl
    · exact look_dropSE q r t
mutual
theorem RelV.dropS {w w' : World} {ok ok' : Nat → Prop} {π π' : List Value} {q : Nat → Bool} (hk : Keeps w ok w' ok') (hp : ∀ j h, nth π j = some h → q j = false ∨ isSl h = false → nth π' j = some h) {a : AV} {v : Value} : RelV w ok π a v → RelV w' ok' π' (a.dropS q) v
  | .d h => by simp only [AV.dropS]; exact .d (h.mono hk)
  | .ro h hm => by simp only [AV.dropS]; exact .ro (h.mono hk) (keeps_run hk hm)
  | .ptr h => by simp only [AV.dropS]; exact .ptr (hp _ _ h (.inr rfl))
  | .gs (i := j) h => by
    simp only [AV.dropS]
    split
    · exact .dead
    · rename_i e; exact .gs (hp _ _ h (.inl e))
  | .ge (i := j) h => by
    simp only [AV.dropS]
    split
    · exact .dead
    · rename_i e; exact .ge (hp _ _ h (.inl e))
  | .mp h => by simp only [AV.dropS]; exact .mp (hp _ _ h (.inr rfl))
  | .e0 => by simp only [AV.dropS]; exact .e0
  | .lit => by simp only [AV.dropS]; exact .lit
  | .und => by simp only [AV.dropS]; exact .und
  | .orc => by simp only [AV.dropS]; exact .orc
  | .ag h hf => by simp only [AV.dropS]; exact .ag (h.dropS hk hp) hf
  | .tp h => by simp only [AV.dropS]; exact .tp (h.dropS hk hp)
  | .fn h => by simp only [AV.dropS]; exact .fn (h.dropS hk hp)
  | .ifc h => by simp only [AV.dropS]; exact .ifc (h.dropS hk hp)
  | .dead => by simp only [AV.dropS]; exact .dead
theorem RelVs.dropS {w w' : World} {ok ok' : Nat → Prop} {π π' : List Value} {q : Nat → Bool} (hk : Keeps w ok w' ok') (hp : ∀ j h, nth π j = some h → q j = false ∨ isSl h = false → nth π' j = some h) {a : List AV} {v : List Value} : RelVs w ok π a v → RelVs w' ok' π' (AV.dropSs q a) v
  | .nil => .nil
  | .cons h t => .cons (h.dropS hk hp) (t.dropS hk hp)
end
theorem RelEs.dropS {w w' : World} {ok ok' : Nat → Prop} {π π' : List Value} {q : Nat → Bool} (hk : Keeps w ok w' ok') (hp : ∀ j h, nth π j = some h → q j = false ∨ isSl h = false → nth π' j = some h) : ∀ {a : List (Value × AV)} {v : List MapEntry}, RelEs w ok π a v → RelEs w' ok' π' (dropSEs q a) v
  | _, _, .nil => .nil
  | _, _, .cons h t => .cons (h.dropS hk hp) (t.dropS hk hp)
theorem RelO.dropS {w w' : World} {ok ok' : Nat → Prop} {π π' : List Value} {q : Nat → Bool} (hk : Keeps w ok w' ok') (hp : ∀ j h, nth π j = some h → q j = false ∨ isSl h = false → nth π' j = some h) {o : AObj} {h : Value} (hh : ∀ b, blk h = some b → w'.heap[b]? = w.heap[b]?) : RelO w ok π o h → RelO w' ok' π' (o.dropS q) h
  | .cells hb h hf => .cells ((hh _ rfl).trans hb) (h.dropS hk hp) hf
  | .gnil => .gnil
  | .grow hb hz h hu hc hm ho hr => .grow ((hh _ rfl).trans hb) hz (h.mono hk) hu hc hm ho hr
  | .map hb h => .map ((hh _ rfl).trans hb) (h.dropS hk hp)
  | .hold h => .hold (h.dropS hk hp)

end Ab
