/- A part of the proof: LY, S4. -/
import Derived.Test.YtcenfhcemmlaeaaGreatDoorP17
import Derived.Shelf.Strings.Repeat
import Derived.Ground.NamesProg
import Derived.Test.YtcenfhcemmlaeaaGreatDoorProg
set_option linter.unusedVariables false
set_option linter.unusedSimpArgs false
namespace Go.Proofs
open Go.Shelf
def Tryz.layRep_ren : Go.Shelf.Ren := ⟨fun | 105 => 142 | 212 => 143 | 99 => 144 | 165 => 145 | 166 => 146 | 170 => 147 | 169 => 137 | 263 => 148 | 264 => 149 | 206 => 150 | 240 => 138 | 241 => 151 | 276 => 139 | 277 => 152 | n => n, fun | 9 => 9 | 3 => 3 | 4 => 4 | 20 => 20 | 0 => 0 | 46 => 160 | 109 => 195 | 5 => 5 | 72 => 187 | 76 => 198 | 51 => 173 | 146 => 200 | 53 => 95 | 148 => 202 | 70 => 184 | 37 => 185 | 75 => 189 | 127 => 177 | 164 => 191 | 80 => 166 | n => n, fun | n => n⟩
theorem Tryz.layRep : Go.Proofs.Lays.n105 Tryz.prog Tryz.layRep_ren := {
  mixed := by kernel_rfl
  f99 := Tryz.func144.trans (congrArg some (by kernel_rfl))
  f105 := Tryz.func142.trans (congrArg some (by kernel_rfl))
  f165 := Tryz.func145.trans (congrArg some (by kernel_rfl))
  f166 := Tryz.func146.trans (congrArg some (by kernel_rfl))
  f169 := Tryz.func137.trans (congrArg some (by kernel_rfl))
  f170 := Tryz.func147.trans (congrArg some (by kernel_rfl))
  f206 := Tryz.func150.trans (congrArg some (by kernel_rfl))
  f212 := Tryz.func143.trans (congrArg some (by kernel_rfl))
  f240 := Tryz.func138.trans (congrArg some (by kernel_rfl))
  f241 := Tryz.func151.trans (congrArg some (by kernel_rfl))
  f263 := Tryz.func148.trans (congrArg some (by kernel_rfl))
  f264 := Tryz.func149.trans (congrArg some (by kernel_rfl))
  f276 := Tryz.func139.trans (congrArg some (by kernel_rfl))
  f277 := Tryz.func152.trans (congrArg some (by kernel_rfl))
  t0 := Tryz.underlying0
  a0 := Tryz.isAgg0
  z0 := Tryz.sizeOf0
  v0 := Tryz.zeroValue0
  t3 := Tryz.underlying3
  a3 := Tryz.isAgg3
  z3 := Tryz.sizeOf3
  v3 := Tryz.zeroValue3
  t4 := Tryz.underlying4
  a4 := Tryz.isAgg4
  z4 := Tryz.sizeOf4
  v4 := Tryz.zeroValue4
  t5 := Tryz.underlying5
  a5 := Tryz.isAgg5
  z5 := Tryz.sizeOf5
  v5 := Tryz.zeroValue5
  t9 := Tryz.underlying9
  a9 := Tryz.isAgg9
  z9 := Tryz.sizeOf9
  v9 := Tryz.zeroValue9
  t20 := Tryz.underlying20
  a20 := Tryz.isAgg20
  z20 := Tryz.sizeOf20
  v20 := Tryz.zeroValue20
  t37 := Tryz.underlying185
  a37 := Tryz.isAgg185
  z37 := Tryz.sizeOf185
  v37 := Tryz.zeroValue185
  t46 := Tryz.underlying160
  a46 := Tryz.isAgg160
  z46 := Tryz.sizeOf160
  v46 := Tryz.zeroValue160
  t51 := Tryz.underlying173
  a51 := Tryz.isAgg173
  z51 := Tryz.sizeOf173
  v51 := Tryz.zeroValue173
  t53 := Tryz.underlying95
  a53 := Tryz.isAgg95
  z53 := Tryz.sizeOf95
  v53 := Tryz.zeroValue95
  t70 := Tryz.underlying184
  a70 := Tryz.isAgg184
  z70 := Tryz.sizeOf184
  v70 := Tryz.zeroValue184
  t72 := Tryz.underlying187
  a72 := Tryz.isAgg187
  z72 := Tryz.sizeOf187
  v72 := Tryz.zeroValue187
  t75 := Tryz.underlying189
  a75 := Tryz.isAgg189
  z75 := Tryz.sizeOf189
  v75 := Tryz.zeroValue189
  t76 := Tryz.underlying198
  a76 := Tryz.isAgg198
  z76 := Tryz.sizeOf198
  v76 := Tryz.zeroValue198
  t109 := Tryz.underlying195
  a109 := Tryz.isAgg195
  z109 := Tryz.sizeOf195
  v109 := Tryz.zeroValue195
  t127 := Tryz.underlying177
  a127 := Tryz.isAgg177
  z127 := Tryz.sizeOf177
  v127 := Tryz.zeroValue177
  t146 := Tryz.underlying200
  a146 := Tryz.isAgg200
  z146 := Tryz.sizeOf200
  v146 := Tryz.zeroValue200
  t148 := Tryz.underlying202
  a148 := Tryz.isAgg202
  z148 := Tryz.sizeOf202
  v148 := Tryz.zeroValue202
  t164 := Tryz.underlying191
  a164 := Tryz.isAgg191
  z164 := Tryz.sizeOf191
  v164 := Tryz.zeroValue191 }
theorem Tryz.layRepX : Go.Proofs.Builder.Extra Tryz.prog Tryz.layRep_ren := {
  sizeBuilder := by kernel_rfl
  liesBuilder := by kernel_rfl
  t5 := Tryz.layRep.t5
  a5 := Tryz.layRep.a5
  z5 := Tryz.layRep.z5
  v5 := Tryz.layRep.v5
  infoByte := by kernel_rfl
  cellsByte := by kernel_rfl
  sizeByte := by kernel_rfl
  neB5 := by decide }
end Go.Proofs
namespace Go.Proofs.YtcenfhcemmlaeaaGreatDoor
open Go Ab
set_option maxRecDepth 100000
set_option linter.unusedVariables false
set_option linter.unusedSimpArgs false

/-! ### strings.Repeat of one digit: the kit's contract, laid at this program -/
theorem repL (c : UInt8) : ∀ n : Nat, Go.Lib.repeatL [c] n = List.replicate n c
  | 0 => rfl
  | n + 1 => by
    have := repL c n
    simp only [Go.Lib.repeatL] at this ⊢
    rw [List.replicate_succ, ← this]
    simp
theorem repOk : RepOk := by
  intro c n hn
  have key := fun w => Go.Proofs.Any.strings_Repeat Go.Proofs.Tryz.layRep Go.Proofs.Tryz.layRepX ⟨#[c]⟩ n w (by omega) (by simp [ByteArray.size]; omega)
  refine below_acall (vs := [.string ⟨#[c]⟩, .int .i64 n]) (v := .string ⟨(List.replicate n c).toArray⟩) rfl ?_ (Go.Proofs.enters_of Go.Proofs.Tryz.layRep.f105 (by kernel_rfl) rfl) ?_
  · intro w ok π us h
    cases h with
    | cons h1 h2 =>
      cases h2 with
      | cons h3 h4 =>
        cases h4
        cases h1 with | d h1 => cases h3 with | d h3 =>
          cases h1; cases h3; rfl
  · intro w
    refine (key w).mono ?_
    rintro e w' ⟨rfl, b⟩
    exact ⟨by rw [← repL], b⟩
end Go.Proofs.YtcenfhcemmlaeaaGreatDoor
