/- From a law's contract to its row. -/
import Derived.Test.YtdnpkeahgpbkoaaAb36
set_option linter.unusedSimpArgs false
set_option linter.unusedVariables false
namespace Ab
open Go

theorem law_calls {P : Program} {f : FuncId} {fn : Func} {c : Code} (h1 : P.funcs[f]? = some fn) (h2 : fn.body = some c) (h3 : (fn.name == "runtime.NumGoroutine") = false) {as : List AV} (h : ACall P f as [] (fun r _ => r = vB true)) {W : World} {vs : List Value} (hv : RelVs W (okOf (fun _ => False) [] []) [] as vs) :
    Calls P f vs.toArray W fun e w' => e = .returned (.bool true) ∧ Go.RowKit.Below W.heap.size W w' := by
  have hm : Mem (fun _ => False) [] [] W := ⟨rfl, fun i o h => by simp [nth] at h, fun i j o o' h h' b _ h1 => by simp [nth] at h1, fun i o h b h1 => by simp [nth] at h1, fun b h => h.elim⟩
  rcases h _ [] W vs hm hv with ⟨_, h⟩ | ⟨v, w', h, _⟩
  · refine Calls.mono h ?_
    rintro e w' ⟨v, r, o, π', rfl, rfl, _, hrel, hh⟩
    refine ⟨?_, hh.os, hh.tape, hh.output.1, hh.size, fun k hk => hh.heap k hk (fun i o k h1 => by simp [nth] at h1)⟩
    cases hrel with | d hrel => cases hrel; rfl
  · rw [callFunc_run h1 h2 h3] at h
    cases h

theorem relV_of {w : World} {ok : Nat → Prop} {π : List Value} {d : D} {v : Value} (hc : d.cells = [d]) (h : RelL w ok d.cells [v]) : RelV w ok π (.d d) v := by
  rw [hc] at h
  cases h with
  | cons h _ _ => exact .d h
theorem ok_all (b : Nat) : okOf (fun _ => False) [] [] b := ⟨fun h => h, fun i o h h1 => by simp [nth] at h1⟩
theorem wf_i64 {n : Int} (h : (Lit.int .i64 n).wf = true) : -9223372036854775808 ≤ n ∧ n ≤ 9223372036854775807 := by
  simp only [Lit.wf, IntKind.min, IntKind.max, IntKind.signed, IntKind.bits] at h
  simp at h
  omega
end Ab
