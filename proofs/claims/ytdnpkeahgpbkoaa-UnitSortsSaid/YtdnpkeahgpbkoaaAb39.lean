/- Data told in other words: readers of slices. -/
import Derived.Test.YtdnpkeahgpbkoaaAb38
set_option linter.unusedSimpArgs false
set_option linter.unusedVariables false
namespace Ab
open Go

def CLe (x y : D) : Prop := ∀ w ok us, RelL w ok x.cells us → RelL w ok y.cells us
theorem CLe.refl (x : D) : CLe x x := fun _ _ _ h => h
def CLes : List D → List D → Prop
  | [], [] => True
  | x :: r, y :: s => CLe x y ∧ CLes r s
  | _, _ => False
theorem CLes.len : ∀ {xs ys : List D}, CLes xs ys → xs.length = ys.length
  | [], [], _ => rfl
  | _ :: _, _ :: _, h => by simp [CLes.len h.2]
  | [], _ :: _, h => h.elim
  | _ :: _, [], h => h.elim
theorem CLes.rel {w : World} {ok : Nat → Prop} {s : Nat} : ∀ {xs ys : List D} {us : List Value}, CLes xs ys → RelE w ok s xs us → RelE w ok s ys us
  | [], [], _, _, h => h
  | x :: r, y :: t, us, hc, h => by
    cases h with
    | cons h hl ht => exact .cons (hc.1 _ _ _ h) hl (CLes.rel hc.2 ht)
  | [], _ :: _, _, h, _ => h.elim
  | _ :: _, [], _, h, _ => h.elim
theorem CLes.map {α : Type} (e e' : α → D) : ∀ (l : List α), (∀ a ∈ l, CLe (e a) (e' a)) → CLes (l.map e) (l.map e')
  | [], _ => trivial
  | a :: r, h => ⟨h a List.mem_cons_self, CLes.map e e' r fun b hb => h b (List.mem_cons_of_mem _ hb)⟩

theorem CLe.sl {s : Nat} {xs ys : List D} {rd rd' : Nat → D} (h : CLes xs ys) (hr : ∀ i, i < ys.length → ys[i]? = some (rd' i)) : CLe (.sl s xs rd) (.sl s ys rd') := by
  intro w ok us hu
  cases hu with
  | cons hd hf ht =>
    cases ht
    refine .cons ?_ hf .nil
    cases hd with
    | nil hb =>
      cases ys with
      | nil => exact .nil hb
      | cons _ _ => exact h.elim
    | sl a b c d e =>
      have hl := h.len
      rw [hl] at c ⊢
      exact .sl (h.rel a) b c d hr
theorem VLe.sl_c {s : Nat} {xs ys : List D} {rd rd' : Nat → D} (h : CLe (.sl s xs rd) (.sl s ys rd')) : VLe (.d (.sl s xs rd)) (.d (.sl s ys rd')) := by
  intro w ok π v hv
  cases hv with
  | d hd =>
    have hf : flat v = true := by cases hd <;> rfl
    have := h w ok [v] (.cons hd hf .nil)
    cases this with | cons h _ _ => exact .d h

theorem relVs_L {w : World} {ok : Nat → Prop} {π : List Value} : ∀ {ds : List D} {vs : List Value}, RelVs w ok π (ds.map .d) vs → (∀ v ∈ vs, flat v = true) → RelL w ok ds vs
  | [], vs, h, _ => by simp only [List.map_nil] at h; cases h; exact .nil
  | d :: r, vs, h, hf => by
    simp only [List.map_cons] at h
    cases h with
    | cons h t => cases h with | d h => exact .cons h (hf _ List.mem_cons_self) (relVs_L t fun v hv => hf v (List.mem_cons_of_mem _ hv))
theorem VLe.agL {cs : List AV} {ds : List D} (h : VLs cs (ds.map .d)) : VLe (.ag cs) (.d (.ag ds)) := by
  intro w ok π v hv
  cases hv with
  | ag hc hf => exact .d (.ag (relVs_L (h.rel hc) hf))

def DLe (x y : D) : Prop := ∀ w ok v, RelD w ok x v → RelD w ok y v
theorem DLe.refl (x : D) : DLe x x := fun _ _ _ h => h
def DLes : List D → List D → Prop
  | [], [] => True
  | x :: r, y :: s => DLe x y ∧ DLes r s
  | _, _ => False
theorem DLes.rel {w : World} {ok : Nat → Prop} : ∀ {xs ys : List D} {us : List Value}, DLes xs ys → RelL w ok xs us → RelL w ok ys us
  | [], [], _, _, h => h
  | x :: r, y :: t, us, hc, h => by
    cases h with
    | cons h hf ht => exact .cons (hc.1 _ _ _ h) hf (DLes.rel hc.2 ht)
  | [], _ :: _, _, h, _ => h.elim
  | _ :: _, [], _, h, _ => h.elim
theorem VLe.dag {cs ds : List D} (h : DLes cs ds) : VLe (.d (.ag cs)) (.d (.ag ds)) := by
  intro w ok π v hv
  cases hv with | d hd => cases hd with | ag hl => exact .d (.ag (h.rel hl))
theorem DLe.slR {s : Nat} {xs ys : List D} {rd rd' : Nat → D} (h : xs = ys) (hr : ∀ i, i < ys.length → ys[i]? = some (rd' i)) : DLe (.sl s xs rd) (.sl s ys rd') := by
  subst h
  intro w ok v hv
  cases hv with
  | nil hb => exact .nil hb
  | sl a b c d e => exact .sl a b c d hr
theorem DLe.eL {α : Type} {s : Nat} {e : α → D} {d : α} {l : List α} {xs : List D} {rd : Nat → D} (h : xs = l.map e) : DLe (.sl s xs rd) (Ab.eL s e d l) := .slR h (map_rd e d l)

/-- A literal row of rows. -/
theorem lit_rows {α : Type} {s : Nat} (e : α → D) (d : α) (l : List (List α)) (s2 : Nat) : CLe (.sl s2 (l.map fun c => .sl s (c.map e) (litRd (c.map e))) (litRd (l.map fun c => .sl s (c.map e) (litRd (c.map e))))) (eL s2 (eL s e d) [] l) :=
  CLe.sl (CLes.map _ _ l fun c _ => CLe.sl (CLes.map e e c fun a _ => .refl _) (map_rd e d c)) (map_rd (eL s e d) [] l)
end Ab
