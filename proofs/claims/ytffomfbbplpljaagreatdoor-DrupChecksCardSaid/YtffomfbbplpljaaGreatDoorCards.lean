/-
  DERIVED. GIVEN WITH THE SEED: THE CARDS: each row of YtffomfbbplpljaaGreatDoorRows.lean that lists a variable, with what it lists TIED to the program's text (the seventh form; the later family's looks); each row that meets fmt, with fmt's text TOLD by the authors' own Lean function (tested against real Go, not proved from fmt's source: count such statements apart). THE CARD IS WHAT COUNTS. Prove the row's statement (the work); the ties are given (YtffomfbbplpljaaGreatDoorTie.lean); close each card by the builder's one call (the guide's Derived/Test/ToyasCard.lean, 'card_holds'). Laid BY PROGRAM, IN A SANDBOX (cutbox-door.mjs). By AI agents, Wed Nov 11 2026. No macro, syntax, notation, axiom, sorry.
-/
import Derived.Test.YtffomfbbplpljaaGreatDoorRows
import GoSem.ClaimSeven
namespace Go.Proofs.YtffomfbbplpljaaGreatDoor
namespace Rows

/-- THE TIED CARD OF 'vidimuslaw05.DrupChecks'. -/
def drupChecksCard : Claim7 := { stood := { row := drupChecksRow, standIns := [], harness := (true, "20ffc1158e062d023270481380239b2ae4da9da6f21fad593049ba038abc5978"), looks := true }, kinds := [], alts := [], laidByText := true, laidKinds := [.data, .data, .data, .data, .pinned], laidTests := true, laidLooks := .later }
def DrupChecksCardSaid : Prop := Claim7.holds Tryz.pinned (.plain (OpenSpec.ofChange drupChecksSpec)) drupChecksCard

/-- THE SECOND FORM's CARD OF 'vidimuslaw05.DrupChecks'. -/
def drupChecksUptoCard : Claim7 := { stood := { row := drupChecksUptoRow, standIns := [], harness := (true, "20ffc1158e062d023270481380239b2ae4da9da6f21fad593049ba038abc5978"), looks := true }, kinds := [], alts := [], laidByText := true, laidKinds := [.data, .data, .data, .data, .pinned], laidTests := true, laidLooks := .later }
def DrupChecksUptoCardSaid : Prop := Claim7.holds Tryz.pinned (.plain (OpenSpec.upto drupChecksSpec)) drupChecksUptoCard
end Rows
end Go.Proofs.YtffomfbbplpljaaGreatDoor
