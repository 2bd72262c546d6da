/- A part of the proof: N31. -/
import Derived.Test.YtjjlipbddlignaaGreatDoorP15
import Derived.Lib.Join
set_option linter.unusedVariables false
set_option linter.unusedSimpArgs false
namespace Go.Proofs.YtjjlipbddlignaaGreatDoor
open Go Ab Go.Lib
set_option maxRecDepth 100000
set_option linter.unusedVariables false
set_option linter.unusedSimpArgs false

/-! ### A line's parts, joined -/
def sBv : List UInt8 := [98, 105, 116, 118, 101, 99]
def tailP (x : Nd) : List (List UInt8) := (if frm x.op = [119] then [sBv] else []) ++ (if 0 < x.s then [tItoa x.s] else []) ++ (x.a ++ x.n).map tItoa ++ (if x.t = [] then [] else [x.t])
def partsP (id : Int) (x : Nd) : List (List UInt8) := tItoa id :: x.op :: tailP x
theorem tail_flat (l : List Int) : ((l.map tItoa).map ([32] ++ ·)).flatten = l.flatMap numT := by
  induction l with
  | nil => rfl
  | cons n r ih =>
    rw [List.map_cons, List.map_cons, List.flatten_cons, ih, List.flatMap_cons]
    rfl
theorem parts_join (id : Int) (x : Nd) : Go.Lib.join (partsP id x) [32] ++ [10] = nodeT id x := by
  unfold partsP
  rw [Go.Lib.join_cons]
  unfold Go.Lib.joinTail tailP nodeT
  rw [List.map_cons, List.flatten_cons, List.map_append, List.map_append, List.map_append, List.flatten_append, List.flatten_append, List.flatten_append, tail_flat, List.flatMap_append]
  have e1 : ((if frm x.op = [119] then [sBv] else []).map ([32] ++ ·)).flatten = if frm x.op = [119] then sBitvec else [] := by split <;> rfl
  have e2 : ((if 0 < x.s then [tItoa x.s] else []).map ([32] ++ ·)).flatten = if 0 < x.s then numT x.s else [] := by
    split
    · simp [numT]
    · rfl
  have e3 : ((if x.t = [] then [] else [x.t]).map ([32] ++ ·)).flatten = if x.t = [] then [] else 32 :: x.t := by
    split
    · rfl
    · simp
  rw [e1, e2, e3]
  simp
end Go.Proofs.YtjjlipbddlignaaGreatDoor
