/-
  DERIVED. GIVEN WITH THE SEED: THE CARDS: each row of YtbodbhpdelgpnaaGreatDoorRows.lean that lists a variable, with what it lists TIED to the program's text (the seventh form; the later family's looks); each row that meets fmt, with fmt's text TOLD by the authors' own Lean function (tested against real Go, not proved from fmt's source: count such statements apart). THE CARD IS WHAT COUNTS. Prove the row's statement (the work); the ties are given (YtbodbhpdelgpnaaGreatDoorTie.lean); close each card by the builder's one call (the guide's Derived/Test/ToyasCard.lean, 'card_holds'). Laid BY PROGRAM, IN A SANDBOX (cutbox-door.mjs). By AI agents, Wed Nov 11 2026. No macro, syntax, notation, axiom, sorry.
-/
import Derived.Test.YtbodbhpdelgpnaaGreatDoorRows
import GoSem.ClaimSeven
namespace Go.Proofs.YtbodbhpdelgpnaaGreatDoor
namespace Rows

/-- THE TIED CARD OF 'vidimuslaw16.WwitTells'. -/
def wwitTellsCard : Claim7 := { stood := { row := wwitTellsRow, standIns := [], harness := (true, "4dd77893111c70871ae879211b7f821f37b60f9e4f7fb366d8d2b0a333aae9e5"), looks := true }, kinds := [], alts := [], laidByText := true, laidKinds := [.data, .data, .data, .data, .pinned], laidTests := true, laidLooks := .later }
def WwitTellsCardSaid : Prop := Claim7.holds Tryz.pinned (.plain (OpenSpec.ofChange wwitTellsSpec)) wwitTellsCard

/-- THE TIED CARD OF 'vidimuslaw16.WwitBack'. -/
def wwitBackCard : Claim7 := { stood := { row := wwitBackRow, standIns := [], harness := (true, "4dd77893111c70871ae879211b7f821f37b60f9e4f7fb366d8d2b0a333aae9e5"), looks := true }, kinds := [], alts := [], laidByText := true, laidKinds := [.data, .data, .data, .data, .pinned], laidTests := true, laidLooks := .later }
def WwitBackCardSaid : Prop := Claim7.holds Tryz.pinned (.plain (OpenSpec.ofChange wwitBackSpec)) wwitBackCard

/-- THE TIED CARD OF 'vidimuslaw16.WwitLast'. -/
def wwitLastCard : Claim7 := { stood := { row := wwitLastRow, standIns := [], harness := (true, "4dd77893111c70871ae879211b7f821f37b60f9e4f7fb366d8d2b0a333aae9e5"), looks := true }, kinds := [], alts := [], laidByText := true, laidKinds := [.data, .data, .data, .data, .pinned], laidTests := true, laidLooks := .later }
def WwitLastCardSaid : Prop := Claim7.holds Tryz.pinned (.plain (OpenSpec.ofChange wwitLastSpec)) wwitLastCard

/-- THE TIED CARD OF 'vidimuslaw16.WwitEnds'. -/
def wwitEndsCard : Claim7 := { stood := { row := wwitEndsRow, standIns := [], harness := (true, "4dd77893111c70871ae879211b7f821f37b60f9e4f7fb366d8d2b0a333aae9e5"), looks := true }, kinds := [], alts := [], laidByText := true, laidKinds := [.data, .data, .data, .data, .pinned], laidTests := true, laidLooks := .later }
def WwitEndsCardSaid : Prop := Claim7.holds Tryz.pinned (.plain (OpenSpec.ofChange wwitEndsSpec)) wwitEndsCard

/-- THE TIED CARD OF 'vidimuslaw16.WwitFrames'. -/
def wwitFramesCard : Claim7 := { stood := { row := wwitFramesRow, standIns := [], harness := (true, "4dd77893111c70871ae879211b7f821f37b60f9e4f7fb366d8d2b0a333aae9e5"), looks := true }, kinds := [], alts := [], laidByText := true, laidKinds := [.data, .data, .data, .data, .pinned], laidTests := true, laidLooks := .later }
def WwitFramesCardSaid : Prop := Claim7.holds Tryz.pinned (.plain (OpenSpec.ofChange wwitFramesSpec)) wwitFramesCard

/-- THE SECOND FORM's CARD OF 'vidimuslaw16.WwitTells'. -/
def wwitTellsUptoCard : Claim7 := { stood := { row := wwitTellsUptoRow, standIns := [], harness := (true, "4dd77893111c70871ae879211b7f821f37b60f9e4f7fb366d8d2b0a333aae9e5"), looks := true }, kinds := [], alts := [], laidByText := true, laidKinds := [.data, .data, .data, .data, .pinned], laidTests := true, laidLooks := .later }
def WwitTellsUptoCardSaid : Prop := Claim7.holds Tryz.pinned (.plain (OpenSpec.upto wwitTellsSpec)) wwitTellsUptoCard

/-- THE SECOND FORM's CARD OF 'vidimuslaw16.WwitBack'. -/
def wwitBackUptoCard : Claim7 := { stood := { row := wwitBackUptoRow, standIns := [], harness := (true, "4dd77893111c70871ae879211b7f821f37b60f9e4f7fb366d8d2b0a333aae9e5"), looks := true }, kinds := [], alts := [], laidByText := true, laidKinds := [.data, .data, .data, .data, .pinned], laidTests := true, laidLooks := .later }
def WwitBackUptoCardSaid : Prop := Claim7.holds Tryz.pinned (.plain (OpenSpec.upto wwitBackSpec)) wwitBackUptoCard

/-- THE SECOND FORM's CARD OF 'vidimuslaw16.WwitLast'. -/
def wwitLastUptoCard : Claim7 := { stood := { row := wwitLastUptoRow, standIns := [], harness := (true, "4dd77893111c70871ae879211b7f821f37b60f9e4f7fb366d8d2b0a333aae9e5"), looks := true }, kinds := [], alts := [], laidByText := true, laidKinds := [.data, .data, .data, .data, .pinned], laidTests := true, laidLooks := .later }
def WwitLastUptoCardSaid : Prop := Claim7.holds Tryz.pinned (.plain (OpenSpec.upto wwitLastSpec)) wwitLastUptoCard

/-- THE SECOND FORM's CARD OF 'vidimuslaw16.WwitEnds'. -/
def wwitEndsUptoCard : Claim7 := { stood := { row := wwitEndsUptoRow, standIns := [], harness := (true, "4dd77893111c70871ae879211b7f821f37b60f9e4f7fb366d8d2b0a333aae9e5"), looks := true }, kinds := [], alts := [], laidByText := true, laidKinds := [.data, .data, .data, .data, .pinned], laidTests := true, laidLooks := .later }
def WwitEndsUptoCardSaid : Prop := Claim7.holds Tryz.pinned (.plain (OpenSpec.upto wwitEndsSpec)) wwitEndsUptoCard

/-- THE SECOND FORM's CARD OF 'vidimuslaw16.WwitFrames'. -/
def wwitFramesUptoCard : Claim7 := { stood := { row := wwitFramesUptoRow, standIns := [], harness := (true, "4dd77893111c70871ae879211b7f821f37b60f9e4f7fb366d8d2b0a333aae9e5"), looks := true }, kinds := [], alts := [], laidByText := true, laidKinds := [.data, .data, .data, .data, .pinned], laidTests := true, laidLooks := .later }
def WwitFramesUptoCardSaid : Prop := Claim7.holds Tryz.pinned (.plain (OpenSpec.upto wwitFramesSpec)) wwitFramesUptoCard
end Rows
end Go.Proofs.YtbodbhpdelgpnaaGreatDoor
