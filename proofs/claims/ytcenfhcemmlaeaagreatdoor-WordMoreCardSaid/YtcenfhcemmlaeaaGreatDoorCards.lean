/-
  DERIVED. GIVEN WITH THE SEED: THE CARDS: each row of YtcenfhcemmlaeaaGreatDoorRows.lean that lists a variable, with what it lists TIED to the program's text (the seventh form; the later family's looks); each row that meets fmt, with fmt's text TOLD by the authors' own Lean function (tested against real Go, not proved from fmt's source: count such statements apart). THE CARD IS WHAT COUNTS. Prove the row's statement (the work); the ties are given (YtcenfhcemmlaeaaGreatDoorTie.lean); close each card by the builder's one call (the guide's Derived/Test/ToyasCard.lean, 'card_holds'). Laid BY PROGRAM, IN A SANDBOX (cutbox-door.mjs). By AI agents, Wed Nov 11 2026. No macro, syntax, notation, axiom, sorry.
-/
import Derived.Test.YtcenfhcemmlaeaaGreatDoorRows
import GoSem.ClaimSeven
namespace Go.Proofs.YtcenfhcemmlaeaaGreatDoor
namespace Rows

/-- THE TIED CARD OF 'vidimuslaw15.WordTells'. -/
def wordTellsCard : Claim7 := { stood := { row := wordTellsRow, standIns := [], harness := (true, "1424daac4077d14194dea7dfc2d5603fbfb68a4b96b3bedf2dee0b9e2932f769"), looks := true }, kinds := [], alts := [], laidByText := true, laidKinds := [.data, .pinned], laidTests := true, laidLooks := .later }
def WordTellsCardSaid : Prop := Claim7.holds Tryz.pinned (.plain (OpenSpec.ofChange wordTellsSpec)) wordTellsCard

/-- THE TIED CARD OF 'vidimuslaw15.WordWide'. -/
def wordWideCard : Claim7 := { stood := { row := wordWideRow, standIns := [], harness := (true, "1424daac4077d14194dea7dfc2d5603fbfb68a4b96b3bedf2dee0b9e2932f769"), looks := true }, kinds := [], alts := [], laidByText := true, laidKinds := [.data, .pinned], laidTests := true, laidLooks := .later }
def WordWideCardSaid : Prop := Claim7.holds Tryz.pinned (.plain (OpenSpec.ofChange wordWideSpec)) wordWideCard

/-- THE TIED CARD OF 'vidimuslaw15.WordRuns'. -/
def wordRunsCard : Claim7 := { stood := { row := wordRunsRow, standIns := [], harness := (true, "1424daac4077d14194dea7dfc2d5603fbfb68a4b96b3bedf2dee0b9e2932f769"), looks := true }, kinds := [], alts := [], laidByText := true, laidKinds := [.data, .pinned], laidTests := true, laidLooks := .later }
def WordRunsCardSaid : Prop := Claim7.holds Tryz.pinned (.plain (OpenSpec.ofChange wordRunsSpec)) wordRunsCard

/-- THE TIED CARD OF 'vidimuslaw15.WordStays'. -/
def wordStaysCard : Claim7 := { stood := { row := wordStaysRow, standIns := [], harness := (true, "1424daac4077d14194dea7dfc2d5603fbfb68a4b96b3bedf2dee0b9e2932f769"), looks := true }, kinds := [], alts := [], laidByText := true, laidKinds := [.data, .pinned], laidTests := true, laidLooks := .later }
def WordStaysCardSaid : Prop := Claim7.holds Tryz.pinned (.plain (OpenSpec.ofChange wordStaysSpec)) wordStaysCard

/-- THE TIED CARD OF 'vidimuslaw15.WordOps'. -/
def wordOpsCard : Claim7 := { stood := { row := wordOpsRow, standIns := [], harness := (true, "1424daac4077d14194dea7dfc2d5603fbfb68a4b96b3bedf2dee0b9e2932f769"), looks := true }, kinds := [], alts := [], laidByText := true, laidKinds := [.data, .pinned], laidTests := true, laidLooks := .later }
def WordOpsCardSaid : Prop := Claim7.holds Tryz.pinned (.plain (OpenSpec.ofChange wordOpsSpec)) wordOpsCard

/-- THE TIED CARD OF 'vidimuslaw15.WordMore'. -/
def wordMoreCard : Claim7 := { stood := { row := wordMoreRow, standIns := [], harness := (true, "1424daac4077d14194dea7dfc2d5603fbfb68a4b96b3bedf2dee0b9e2932f769"), looks := true }, kinds := [], alts := [], laidByText := true, laidKinds := [.data, .pinned], laidTests := true, laidLooks := .later }
def WordMoreCardSaid : Prop := Claim7.holds Tryz.pinned (.plain (OpenSpec.ofChange wordMoreSpec)) wordMoreCard

/-- THE SECOND FORM's CARD OF 'vidimuslaw15.WordTells'. -/
def wordTellsUptoCard : Claim7 := { stood := { row := wordTellsUptoRow, standIns := [], harness := (true, "1424daac4077d14194dea7dfc2d5603fbfb68a4b96b3bedf2dee0b9e2932f769"), looks := true }, kinds := [], alts := [], laidByText := true, laidKinds := [.data, .pinned], laidTests := true, laidLooks := .later }
def WordTellsUptoCardSaid : Prop := Claim7.holds Tryz.pinned (.plain (OpenSpec.upto wordTellsSpec)) wordTellsUptoCard

/-- THE SECOND FORM's CARD OF 'vidimuslaw15.WordWide'. -/
def wordWideUptoCard : Claim7 := { stood := { row := wordWideUptoRow, standIns := [], harness := (true, "1424daac4077d14194dea7dfc2d5603fbfb68a4b96b3bedf2dee0b9e2932f769"), looks := true }, kinds := [], alts := [], laidByText := true, laidKinds := [.data, .pinned], laidTests := true, laidLooks := .later }
def WordWideUptoCardSaid : Prop := Claim7.holds Tryz.pinned (.plain (OpenSpec.upto wordWideSpec)) wordWideUptoCard

/-- THE SECOND FORM's CARD OF 'vidimuslaw15.WordRuns'. -/
def wordRunsUptoCard : Claim7 := { stood := { row := wordRunsUptoRow, standIns := [], harness := (true, "1424daac4077d14194dea7dfc2d5603fbfb68a4b96b3bedf2dee0b9e2932f769"), looks := true }, kinds := [], alts := [], laidByText := true, laidKinds := [.data, .pinned], laidTests := true, laidLooks := .later }
def WordRunsUptoCardSaid : Prop := Claim7.holds Tryz.pinned (.plain (OpenSpec.upto wordRunsSpec)) wordRunsUptoCard

/-- THE SECOND FORM's CARD OF 'vidimuslaw15.WordStays'. -/
def wordStaysUptoCard : Claim7 := { stood := { row := wordStaysUptoRow, standIns := [], harness := (true, "1424daac4077d14194dea7dfc2d5603fbfb68a4b96b3bedf2dee0b9e2932f769"), looks := true }, kinds := [], alts := [], laidByText := true, laidKinds := [.data, .pinned], laidTests := true, laidLooks := .later }
def WordStaysUptoCardSaid : Prop := Claim7.holds Tryz.pinned (.plain (OpenSpec.upto wordStaysSpec)) wordStaysUptoCard

/-- THE SECOND FORM's CARD OF 'vidimuslaw15.WordOps'. -/
def wordOpsUptoCard : Claim7 := { stood := { row := wordOpsUptoRow, standIns := [], harness := (true, "1424daac4077d14194dea7dfc2d5603fbfb68a4b96b3bedf2dee0b9e2932f769"), looks := true }, kinds := [], alts := [], laidByText := true, laidKinds := [.data, .pinned], laidTests := true, laidLooks := .later }
def WordOpsUptoCardSaid : Prop := Claim7.holds Tryz.pinned (.plain (OpenSpec.upto wordOpsSpec)) wordOpsUptoCard

/-- THE SECOND FORM's CARD OF 'vidimuslaw15.WordMore'. -/
def wordMoreUptoCard : Claim7 := { stood := { row := wordMoreUptoRow, standIns := [], harness := (true, "1424daac4077d14194dea7dfc2d5603fbfb68a4b96b3bedf2dee0b9e2932f769"), looks := true }, kinds := [], alts := [], laidByText := true, laidKinds := [.data, .pinned], laidTests := true, laidLooks := .later }
def WordMoreUptoCardSaid : Prop := Claim7.holds Tryz.pinned (.plain (OpenSpec.upto wordMoreSpec)) wordMoreUptoCard
end Rows
end Go.Proofs.YtcenfhcemmlaeaaGreatDoor
