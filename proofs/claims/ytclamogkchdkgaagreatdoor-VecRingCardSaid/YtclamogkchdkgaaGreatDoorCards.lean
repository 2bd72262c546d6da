/-
  DERIVED. GIVEN WITH THE SEED: THE CARDS: each row of YtclamogkchdkgaaGreatDoorRows.lean that lists a variable, with what it lists TIED to the program's text (the seventh form; the later family's looks); each row that meets fmt, with fmt's text TOLD by the authors' own Lean function (tested against real Go, not proved from fmt's source: count such statements apart). THE CARD IS WHAT COUNTS. Prove the row's statement (the work); the ties are given (YtclamogkchdkgaaGreatDoorTie.lean); close each card by the builder's one call (the guide's Derived/Test/ToyasCard.lean, 'card_holds'). Laid BY PROGRAM, IN A SANDBOX (cutbox-door.mjs). By AI agents, Wed Nov 11 2026. No macro, syntax, notation, axiom, sorry.
-/
import Derived.Test.YtclamogkchdkgaaGreatDoorRows
import GoSem.ClaimSeven
namespace Go.Proofs.YtclamogkchdkgaaGreatDoor
namespace Rows

/-- THE TIED CARD OF 'vidimuslaw02.VecTells'. -/
def vecTellsCard : Claim7 := { stood := { row := vecTellsRow, standIns := [], harness := (true, "aa072bca47ab315a2c4542066f895ef7f1c835d217556444b7711ce60d6cb5f5"), looks := false }, kinds := [], alts := [], laidByText := true, laidKinds := [.data, .pinned], laidTests := true, laidLooks := .later }
def VecTellsCardSaid : Prop := Claim7.holds Tryz.pinned (.plain (OpenSpec.ofChange vecTellsSpec)) vecTellsCard

/-- THE TIED CARD OF 'vidimuslaw02.VecReckons'. -/
def vecReckonsCard : Claim7 := { stood := { row := vecReckonsRow, standIns := [], harness := (true, "aa072bca47ab315a2c4542066f895ef7f1c835d217556444b7711ce60d6cb5f5"), looks := false }, kinds := [], alts := [], laidByText := true, laidKinds := [.data, .pinned], laidTests := true, laidLooks := .later }
def VecReckonsCardSaid : Prop := Claim7.holds Tryz.pinned (.plain (OpenSpec.ofChange vecReckonsSpec)) vecReckonsCard

/-- THE TIED CARD OF 'vidimuslaw02.VecCuts'. -/
def vecCutsCard : Claim7 := { stood := { row := vecCutsRow, standIns := [], harness := (true, "aa072bca47ab315a2c4542066f895ef7f1c835d217556444b7711ce60d6cb5f5"), looks := false }, kinds := [], alts := [], laidByText := true, laidKinds := [.data, .pinned], laidTests := true, laidLooks := .later }
def VecCutsCardSaid : Prop := Claim7.holds Tryz.pinned (.plain (OpenSpec.ofChange vecCutsSpec)) vecCutsCard

/-- THE TIED CARD OF 'vidimuslaw02.VecRing'. -/
def vecRingCard : Claim7 := { stood := { row := vecRingRow, standIns := [], harness := (true, "aa072bca47ab315a2c4542066f895ef7f1c835d217556444b7711ce60d6cb5f5"), looks := false }, kinds := [], alts := [], laidByText := true, laidKinds := [.data, .pinned], laidTests := true, laidLooks := .later }
def VecRingCardSaid : Prop := Claim7.holds Tryz.pinned (.plain (OpenSpec.ofChange vecRingSpec)) vecRingCard

/-- THE TIED CARD OF 'vidimuslaw02.VecBits'. -/
def vecBitsCard : Claim7 := { stood := { row := vecBitsRow, standIns := [], harness := (true, "aa072bca47ab315a2c4542066f895ef7f1c835d217556444b7711ce60d6cb5f5"), looks := false }, kinds := [], alts := [], laidByText := true, laidKinds := [.data, .pinned], laidTests := true, laidLooks := .later }
def VecBitsCardSaid : Prop := Claim7.holds Tryz.pinned (.plain (OpenSpec.ofChange vecBitsSpec)) vecBitsCard

/-- THE TIED CARD OF 'vidimuslaw02.VecShifts'. -/
def vecShiftsCard : Claim7 := { stood := { row := vecShiftsRow, standIns := [], harness := (true, "aa072bca47ab315a2c4542066f895ef7f1c835d217556444b7711ce60d6cb5f5"), looks := false }, kinds := [], alts := [], laidByText := true, laidKinds := [.data, .pinned], laidTests := true, laidLooks := .later }
def VecShiftsCardSaid : Prop := Claim7.holds Tryz.pinned (.plain (OpenSpec.ofChange vecShiftsSpec)) vecShiftsCard

/-- THE TIED CARD OF 'vidimuslaw02.VecParts'. -/
def vecPartsCard : Claim7 := { stood := { row := vecPartsRow, standIns := [], harness := (true, "aa072bca47ab315a2c4542066f895ef7f1c835d217556444b7711ce60d6cb5f5"), looks := false }, kinds := [], alts := [], laidByText := true, laidKinds := [.data, .pinned], laidTests := true, laidLooks := .later }
def VecPartsCardSaid : Prop := Claim7.holds Tryz.pinned (.plain (OpenSpec.ofChange vecPartsSpec)) vecPartsCard

/-- THE SECOND FORM's CARD OF 'vidimuslaw02.VecTells'. -/
def vecTellsUptoCard : Claim7 := { stood := { row := vecTellsUptoRow, standIns := [], harness := (true, "aa072bca47ab315a2c4542066f895ef7f1c835d217556444b7711ce60d6cb5f5"), looks := false }, kinds := [], alts := [], laidByText := true, laidKinds := [.data, .pinned], laidTests := true, laidLooks := .later }
def VecTellsUptoCardSaid : Prop := Claim7.holds Tryz.pinned (.plain (OpenSpec.upto vecTellsSpec)) vecTellsUptoCard

/-- THE SECOND FORM's CARD OF 'vidimuslaw02.VecReckons'. -/
def vecReckonsUptoCard : Claim7 := { stood := { row := vecReckonsUptoRow, standIns := [], harness := (true, "aa072bca47ab315a2c4542066f895ef7f1c835d217556444b7711ce60d6cb5f5"), looks := false }, kinds := [], alts := [], laidByText := true, laidKinds := [.data, .pinned], laidTests := true, laidLooks := .later }
def VecReckonsUptoCardSaid : Prop := Claim7.holds Tryz.pinned (.plain (OpenSpec.upto vecReckonsSpec)) vecReckonsUptoCard

/-- THE SECOND FORM's CARD OF 'vidimuslaw02.VecCuts'. -/
def vecCutsUptoCard : Claim7 := { stood := { row := vecCutsUptoRow, standIns := [], harness := (true, "aa072bca47ab315a2c4542066f895ef7f1c835d217556444b7711ce60d6cb5f5"), looks := false }, kinds := [], alts := [], laidByText := true, laidKinds := [.data, .pinned], laidTests := true, laidLooks := .later }
def VecCutsUptoCardSaid : Prop := Claim7.holds Tryz.pinned (.plain (OpenSpec.upto vecCutsSpec)) vecCutsUptoCard

/-- THE SECOND FORM's CARD OF 'vidimuslaw02.VecRing'. -/
def vecRingUptoCard : Claim7 := { stood := { row := vecRingUptoRow, standIns := [], harness := (true, "aa072bca47ab315a2c4542066f895ef7f1c835d217556444b7711ce60d6cb5f5"), looks := false }, kinds := [], alts := [], laidByText := true, laidKinds := [.data, .pinned], laidTests := true, laidLooks := .later }
def VecRingUptoCardSaid : Prop := Claim7.holds Tryz.pinned (.plain (OpenSpec.upto vecRingSpec)) vecRingUptoCard

/-- THE SECOND FORM's CARD OF 'vidimuslaw02.VecBits'. -/
def vecBitsUptoCard : Claim7 := { stood := { row := vecBitsUptoRow, standIns := [], harness := (true, "aa072bca47ab315a2c4542066f895ef7f1c835d217556444b7711ce60d6cb5f5"), looks := false }, kinds := [], alts := [], laidByText := true, laidKinds := [.data, .pinned], laidTests := true, laidLooks := .later }
def VecBitsUptoCardSaid : Prop := Claim7.holds Tryz.pinned (.plain (OpenSpec.upto vecBitsSpec)) vecBitsUptoCard

/-- THE SECOND FORM's CARD OF 'vidimuslaw02.VecShifts'. -/
def vecShiftsUptoCard : Claim7 := { stood := { row := vecShiftsUptoRow, standIns := [], harness := (true, "aa072bca47ab315a2c4542066f895ef7f1c835d217556444b7711ce60d6cb5f5"), looks := false }, kinds := [], alts := [], laidByText := true, laidKinds := [.data, .pinned], laidTests := true, laidLooks := .later }
def VecShiftsUptoCardSaid : Prop := Claim7.holds Tryz.pinned (.plain (OpenSpec.upto vecShiftsSpec)) vecShiftsUptoCard

/-- THE SECOND FORM's CARD OF 'vidimuslaw02.VecParts'. -/
def vecPartsUptoCard : Claim7 := { stood := { row := vecPartsUptoRow, standIns := [], harness := (true, "aa072bca47ab315a2c4542066f895ef7f1c835d217556444b7711ce60d6cb5f5"), looks := false }, kinds := [], alts := [], laidByText := true, laidKinds := [.data, .pinned], laidTests := true, laidLooks := .later }
def VecPartsUptoCardSaid : Prop := Claim7.holds Tryz.pinned (.plain (OpenSpec.upto vecPartsSpec)) vecPartsUptoCard
end Rows
end Go.Proofs.YtclamogkchdkgaaGreatDoor
