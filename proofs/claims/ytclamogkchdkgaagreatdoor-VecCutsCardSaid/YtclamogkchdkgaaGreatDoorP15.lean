/- A part of the proof: LY, S4, VR0c. -/
import Derived.Test.YtclamogkchdkgaaGreatDoorP14
import Derived.Shelf.Strings.Repeat
import Derived.Ground.NamesProg
import Derived.Test.YtclamogkchdkgaaGreatDoorProg
set_option linter.unusedVariables false
set_option linter.unusedSimpArgs false
namespace Go.Proofs
open Go.Shelf
def Tryz.layRep_ren : Go.Shelf.Ren := ⟨fun | 105 => 53 | 212 => 103 | 99 => 104 | 165 => 105 | 166 => 106 | 170 => 107 | 169 => 40 | 263 => 119 | 264 => 120 | 206 => 121 | 240 => 61 | 241 => 122 | 276 => 112 | 277 => 127 | n => n, fun | 9 => 9 | 3 => 3 | 4 => 4 | 20 => 20 | 0 => 0 | 46 => 117 | 109 => 118 | 5 => 5 | 72 => 71 | 76 => 122 | 51 => 137 | 146 => 138 | 53 => 65 | 148 => 131 | 70 => 68 | 37 => 69 | 75 => 73 | 127 => 103 | 164 => 129 | 80 => 75 | n => n, fun | n => n⟩
theorem Tryz.layRep : Go.Proofs.Lays.n105 Tryz.prog Tryz.layRep_ren := {
  mixed := by kernel_rfl
  f99 := Tryz.func104.trans (congrArg some (by kernel_rfl))
  f105 := Tryz.func53.trans (congrArg some (by kernel_rfl))
  f165 := Tryz.func105.trans (congrArg some (by kernel_rfl))
  f166 := Tryz.func106.trans (congrArg some (by kernel_rfl))
  f169 := Tryz.func40.trans (congrArg some (by kernel_rfl))
  f170 := Tryz.func107.trans (congrArg some (by kernel_rfl))
  f206 := Tryz.func121.trans (congrArg some (by kernel_rfl))
  f212 := Tryz.func103.trans (congrArg some (by kernel_rfl))
  f240 := Tryz.func61.trans (congrArg some (by kernel_rfl))
  f241 := Tryz.func122.trans (congrArg some (by kernel_rfl))
  f263 := Tryz.func119.trans (congrArg some (by kernel_rfl))
  f264 := Tryz.func120.trans (congrArg some (by kernel_rfl))
  f276 := Tryz.func112.trans (congrArg some (by kernel_rfl))
  f277 := Tryz.func127.trans (congrArg some (by kernel_rfl))
  t0 := Tryz.underlying0
  a0 := Tryz.isAgg0
  z0 := Tryz.sizeOf0
  v0 := Tryz.zeroValue0
  t3 := Tryz.underlying3
  a3 := Tryz.isAgg3
  z3 := Tryz.sizeOf3
  v3 := Tryz.zeroValue3
  t4 := Tryz.underlying4
  a4 := Tryz.isAgg4
  z4 := Tryz.sizeOf4
  v4 := Tryz.zeroValue4
  t5 := Tryz.underlying5
  a5 := Tryz.isAgg5
  z5 := Tryz.sizeOf5
  v5 := Tryz.zeroValue5
  t9 := Tryz.underlying9
  a9 := Tryz.isAgg9
  z9 := Tryz.sizeOf9
  v9 := Tryz.zeroValue9
  t20 := Tryz.underlying20
  a20 := Tryz.isAgg20
  z20 := Tryz.sizeOf20
  v20 := Tryz.zeroValue20
  t37 := Tryz.underlying69
  a37 := Tryz.isAgg69
  z37 := Tryz.sizeOf69
  v37 := Tryz.zeroValue69
  t46 := Tryz.underlying117
  a46 := Tryz.isAgg117
  z46 := Tryz.sizeOf117
  v46 := Tryz.zeroValue117
  t51 := Tryz.underlying137
  a51 := Tryz.isAgg137
  z51 := Tryz.sizeOf137
  v51 := Tryz.zeroValue137
  t53 := Tryz.underlying65
  a53 := Tryz.isAgg65
  z53 := Tryz.sizeOf65
  v53 := Tryz.zeroValue65
  t70 := Tryz.underlying68
  a70 := Tryz.isAgg68
  z70 := Tryz.sizeOf68
  v70 := Tryz.zeroValue68
  t72 := Tryz.underlying71
  a72 := Tryz.isAgg71
  z72 := Tryz.sizeOf71
  v72 := Tryz.zeroValue71
  t75 := Tryz.underlying73
  a75 := Tryz.isAgg73
  z75 := Tryz.sizeOf73
  v75 := Tryz.zeroValue73
  t76 := Tryz.underlying122
  a76 := Tryz.isAgg122
  z76 := Tryz.sizeOf122
  v76 := Tryz.zeroValue122
  t109 := Tryz.underlying118
  a109 := Tryz.isAgg118
  z109 := Tryz.sizeOf118
  v109 := Tryz.zeroValue118
  t127 := Tryz.underlying103
  a127 := Tryz.isAgg103
  z127 := Tryz.sizeOf103
  v127 := Tryz.zeroValue103
  t146 := Tryz.underlying138
  a146 := Tryz.isAgg138
  z146 := Tryz.sizeOf138
  v146 := Tryz.zeroValue138
  t148 := Tryz.underlying131
  a148 := Tryz.isAgg131
  z148 := Tryz.sizeOf131
  v148 := Tryz.zeroValue131
  t164 := Tryz.underlying129
  a164 := Tryz.isAgg129
  z164 := Tryz.sizeOf129
  v164 := Tryz.zeroValue129 }
theorem Tryz.layRepX : Go.Proofs.Builder.Extra Tryz.prog Tryz.layRep_ren := {
  sizeBuilder := by kernel_rfl
  liesBuilder := by kernel_rfl
  t5 := Tryz.layRep.t5
  a5 := Tryz.layRep.a5
  z5 := Tryz.layRep.z5
  v5 := Tryz.layRep.v5
  infoByte := by kernel_rfl
  cellsByte := by kernel_rfl
  sizeByte := by kernel_rfl
  neB5 := by decide }
end Go.Proofs
namespace Go.Proofs.YtclamogkchdkgaaGreatDoor
open Go Ab
set_option maxRecDepth 100000
set_option linter.unusedVariables false
set_option linter.unusedSimpArgs false

/-! ### strings.Repeat of one digit: the kit's contract, laid at this program -/
theorem repL (c : UInt8) : ∀ n : Nat, Go.Lib.repeatL [c] n = List.replicate n c
  | 0 => rfl
  | n + 1 => by
    have := repL c n
    simp only [Go.Lib.repeatL] at this ⊢
    rw [List.replicate_succ, ← this]
    simp
theorem repOk : RepOk := by
  intro c n hn
  have key := fun w => Go.Proofs.Any.strings_Repeat Go.Proofs.Tryz.layRep Go.Proofs.Tryz.layRepX ⟨#[c]⟩ n w (by omega) (by simp [ByteArray.size]; omega)
  refine below_acall (vs := [.string ⟨#[c]⟩, .int .i64 n]) (v := .string ⟨(List.replicate n c).toArray⟩) rfl ?_ (Go.Proofs.enters_of Go.Proofs.Tryz.layRep.f105 (by kernel_rfl) rfl) ?_
  · intro w ok π us h
    cases h with
    | cons h1 h2 =>
      cases h2 with
      | cons h3 h4 =>
        cases h4
        cases h1 with | d h1 => cases h3 with | d h3 =>
          cases h1; cases h3; rfl
  · intro w
    refine (key w).mono ?_
    rintro e w' ⟨rfl, b⟩
    exact ⟨by rw [← repL], b⟩
end Go.Proofs.YtclamogkchdkgaaGreatDoor
namespace Go.Proofs.YtclamogkchdkgaaGreatDoor
open Go Ab Go.ChangeShapes Go.WideShapes Go.ChangeAt Go.RowKit
set_option linter.unusedVariables false
theorem rdA3 : Reads Tryz.prog 43 (fun p : Int × Int × Int => D.ag ((eI p.1).cells ++ (eI p.2.1).cells ++ (eI p.2.2).cells)) (fun p => (Lit.int .i64 p.1).wf = true ∧ (Lit.int .i64 p.2.1).wf = true ∧ (Lit.int .i64 p.2.2).wf = true) := reads_arr3 (s := 1) Tryz.underlying43 (by kernel_rfl) (by kernel_rfl) rdI
theorem lims_of {l : List Nat} (h : ∀ a ∈ l, a < 18446744073709551616) : lims l := h
end Go.Proofs.YtclamogkchdkgaaGreatDoor
