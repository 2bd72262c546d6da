/- A part of the proof: Ab36, Ab37. -/
import Derived.Test.YtjjlipbddlignaaDoorP7
import Derived.ProofKit
set_option linter.unusedVariables false
set_option linter.unusedSimpArgs false
set_option linter.unusedSimpArgs false
set_option linter.unusedVariables false
set_option linter.unusedSectionVars false
namespace Ab
open Go
variable [Draws]

/-- Whatever lies at a type's place and is read, is data of a shape. -/
structure Reads (P : Program) (t : TypeId) {α : Type} (enc : α → D) (Q : α → Prop) : Prop where
  len : ∀ a, (enc a).cells.length = P.cellsOf t
  rd : ∀ {H : Type} (eH : TypeId × Value → H) (w : World) (fuel : Nat) (cs : List Value) (x : DataW H × List MemPlace) (ok : Nat → Prop), (∀ b, ok b) → DataW.trod eH P w 0 (fun _ => true) true fuel t cs = some x → ∃ a, Q a ∧ RelL w ok (enc a).cells cs

theorem reads_string {P : Program} {t : TypeId} (ht : P.underlying t = some .string) (hs : P.cellsOf t = 1) : Reads P t (fun b : ByteArray => D.v (.string b)) (fun b => b.size ≤ maxLen) where
  len a := by rw [hs]; rfl
  rd eH w fuel cs x ok hok h := by
    cases fuel with
    | zero => simp [DataW.trod] at h
    | succ n =>
      unfold DataW.trod at h
      rw [ht] at h
      split at h <;> simp_all
      rename_i b
      exact ⟨b, h.1, .cons (.v rfl) rfl .nil⟩

/-- From the row's reading to the argument. -/
theorem Reads.arg {P : Program} {t : TypeId} {α : Type} {enc : α → D} {Q : α → Prop} (R : Reads P t enc Q) {H : Type} {eH : TypeId × Value → H} {W : World} {v : Value} {d : DataW H} {p : List MemPlace} (h : DataW.Trod eH P W 0 (fun _ => true) true t v d p) (hna : ∀ cs, v ≠ .agg cs) (ok : Nat → Prop) (hok : ∀ b, ok b) :
    ∃ a, Q a ∧ RelL W ok (enc a).cells [v] := by
  obtain ⟨fuel, hf⟩ := h
  have : v.cells.toList = [v] := by
    cases v <;> first | rfl | exact absurd rfl (hna _)
  rw [this] at hf
  exact R.rd eH W fuel [v] _ ok hok hf
end Ab
set_option linter.unusedSimpArgs false
set_option linter.unusedVariables false
set_option linter.unusedSectionVars false
namespace Ab
open Go
variable [Draws]

theorem law_calls {P : Program} [Globals P] {f : FuncId} {fn : Func} {c : Code} (h1 : P.funcs[f]? = some fn) (h2 : fn.body = some c) (h3 : (fn.name == "runtime.NumGoroutine") = false) {az : List AV} (h : ACall P f az [] (fun r _ => r = vB true)) {W : World} {vs : List Value} (hg : Globals.tb P W) (hv : RelVs W (okOf (fun _ => False) [] []) [] az vs) :
    Calls P f vs.toArray W fun e w' => e = .returned (.bool true) ∧ Go.RowKit.Below W.heap.size W w' := by
  have hm : Mem (fun _ => False) [] [] W := ⟨rfl, fun i o h => by simp [nth] at h, fun i j o o' h h' b _ h1 => by simp [nth] at h1, fun i o h b h1 => by simp [nth] at h1, fun b h => h.elim⟩
  rcases h _ [] W vs ⟨hg, fun i o h b h1 => by simp [nth] at h1⟩ hm hv with ⟨_, h⟩ | ⟨v, w', h, _⟩
  · refine Calls.mono h ?_
    rintro e w' ⟨v, r, o, π', rfl, rfl, _, hrel, hh⟩
    refine ⟨?_, hh.os, hh.tape, hh.output.1, hh.size, fun k hk => hh.heap k hk (fun i o k h1 => by simp [nth] at h1)⟩
    cases hrel with | d hrel => cases hrel; rfl
  · rw [callFunc_run h1 h2 h3] at h
    cases h

theorem relV_of {w : World} {ok : Nat → Prop} {π : List Value} {d : D} {v : Value} (hc : d.cells = [d]) (h : RelL w ok d.cells [v]) : RelV w ok π (.d d) v := by
  rw [hc] at h
  cases h with
  | cons h _ _ => exact .d h
theorem ok_all (b : Nat) : okOf (fun _ => False) [] [] b := ⟨fun h => h, fun i o h h1 => by simp [nth] at h1⟩
end Ab
