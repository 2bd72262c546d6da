/-
  DERIVED. GIVEN WITH THE SEED: THE CARDS: each row of YtffomfbbplpljaaDoorRows.lean that lists a variable, with what it lists TIED to the program's text (the seventh form; the later family's looks); each row that meets fmt, with fmt's text TOLD by the authors' own Lean function (tested against real Go, not proved from fmt's source: count such statements apart). THE CARD IS WHAT COUNTS. Prove the row's statement (the work); the ties are given (YtffomfbbplpljaaDoorTie.lean); close each card by the builder's one call (the guide's Derived/Test/ToyasCard.lean, 'card_holds'). Laid BY PROGRAM, IN A SANDBOX (cutbox-door.mjs). By AI agents, Wed Nov 11 2026. No macro, syntax, notation, axiom, sorry.
-/
import Derived.Test.YtffomfbbplpljaaDoorRows
import GoSem.ClaimSeven
namespace Go.Proofs.YtffomfbbplpljaaDoor
namespace Rows

/-- THE TIED CARD OF 'vidimuslaw05.DrupSound'. -/
def drupSoundCard : Claim7 := { stood := { row := drupSoundRow, standIns := [], harness := (true, "12c510f697caeb76ea5554ad930a1f907213bf1c0cac14984c3872ba462ceabe"), looks := true }, kinds := [], alts := [], laidByText := true, laidKinds := [.data, .data, .data, .data, .pinned], laidTests := true, laidLooks := .later }
def DrupSoundCardSaid : Prop := Claim7.holds Tryd.pinned (.plain (OpenSpec.ofChange drupSoundSpec)) drupSoundCard

/-- THE TIED CARD OF 'vidimuslaw05.DrupBack'. -/
def drupBackCard : Claim7 := { stood := { row := drupBackRow, standIns := [], harness := (true, "12c510f697caeb76ea5554ad930a1f907213bf1c0cac14984c3872ba462ceabe"), looks := true }, kinds := [], alts := [], laidByText := true, laidKinds := [.data, .data, .data, .data, .pinned], laidTests := true, laidLooks := .later }
def DrupBackCardSaid : Prop := Claim7.holds Tryd.pinned (.plain (OpenSpec.ofChange drupBackSpec)) drupBackCard

/-- THE TIED CARD OF 'vidimuslaw05.DrupMore'. -/
def drupMoreCard : Claim7 := { stood := { row := drupMoreRow, standIns := [], harness := (true, "12c510f697caeb76ea5554ad930a1f907213bf1c0cac14984c3872ba462ceabe"), looks := true }, kinds := [], alts := [], laidByText := true, laidKinds := [.data, .data, .data, .data, .pinned], laidTests := true, laidLooks := .later }
def DrupMoreCardSaid : Prop := Claim7.holds Tryd.pinned (.plain (OpenSpec.ofChange drupMoreSpec)) drupMoreCard

/-- THE TIED CARD OF 'vidimuslaw05.DrupApart'. -/
def drupApartCard : Claim7 := { stood := { row := drupApartRow, standIns := [], harness := (true, "12c510f697caeb76ea5554ad930a1f907213bf1c0cac14984c3872ba462ceabe"), looks := true }, kinds := [], alts := [], laidByText := true, laidKinds := [.data, .data, .data, .data, .pinned], laidTests := true, laidLooks := .later }
def DrupApartCardSaid : Prop := Claim7.holds Tryd.pinned (.plain (OpenSpec.ofChange drupApartSpec)) drupApartCard

/-- THE TIED CARD OF 'vidimuslaw05.DrupKept'. -/
def drupKeptCard : Claim7 := { stood := { row := drupKeptRow, standIns := [], harness := (true, "12c510f697caeb76ea5554ad930a1f907213bf1c0cac14984c3872ba462ceabe"), looks := true }, kinds := [], alts := [], laidByText := true, laidKinds := [.data, .data, .data, .data, .pinned], laidTests := true, laidLooks := .later }
def DrupKeptCardSaid : Prop := Claim7.holds Tryd.pinned (.plain (OpenSpec.ofChange drupKeptSpec)) drupKeptCard

/-- THE SECOND FORM's CARD OF 'vidimuslaw05.DrupSound'. -/
def drupSoundUptoCard : Claim7 := { stood := { row := drupSoundUptoRow, standIns := [], harness := (true, "12c510f697caeb76ea5554ad930a1f907213bf1c0cac14984c3872ba462ceabe"), looks := true }, kinds := [], alts := [], laidByText := true, laidKinds := [.data, .data, .data, .data, .pinned], laidTests := true, laidLooks := .later }
def DrupSoundUptoCardSaid : Prop := Claim7.holds Tryd.pinned (.plain (OpenSpec.upto drupSoundSpec)) drupSoundUptoCard

/-- THE SECOND FORM's CARD OF 'vidimuslaw05.DrupBack'. -/
def drupBackUptoCard : Claim7 := { stood := { row := drupBackUptoRow, standIns := [], harness := (true, "12c510f697caeb76ea5554ad930a1f907213bf1c0cac14984c3872ba462ceabe"), looks := true }, kinds := [], alts := [], laidByText := true, laidKinds := [.data, .data, .data, .data, .pinned], laidTests := true, laidLooks := .later }
def DrupBackUptoCardSaid : Prop := Claim7.holds Tryd.pinned (.plain (OpenSpec.upto drupBackSpec)) drupBackUptoCard

/-- THE SECOND FORM's CARD OF 'vidimuslaw05.DrupMore'. -/
def drupMoreUptoCard : Claim7 := { stood := { row := drupMoreUptoRow, standIns := [], harness := (true, "12c510f697caeb76ea5554ad930a1f907213bf1c0cac14984c3872ba462ceabe"), looks := true }, kinds := [], alts := [], laidByText := true, laidKinds := [.data, .data, .data, .data, .pinned], laidTests := true, laidLooks := .later }
def DrupMoreUptoCardSaid : Prop := Claim7.holds Tryd.pinned (.plain (OpenSpec.upto drupMoreSpec)) drupMoreUptoCard

/-- THE SECOND FORM's CARD OF 'vidimuslaw05.DrupApart'. -/
def drupApartUptoCard : Claim7 := { stood := { row := drupApartUptoRow, standIns := [], harness := (true, "12c510f697caeb76ea5554ad930a1f907213bf1c0cac14984c3872ba462ceabe"), looks := true }, kinds := [], alts := [], laidByText := true, laidKinds := [.data, .data, .data, .data, .pinned], laidTests := true, laidLooks := .later }
def DrupApartUptoCardSaid : Prop := Claim7.holds Tryd.pinned (.plain (OpenSpec.upto drupApartSpec)) drupApartUptoCard

/-- THE SECOND FORM's CARD OF 'vidimuslaw05.DrupKept'. -/
def drupKeptUptoCard : Claim7 := { stood := { row := drupKeptUptoRow, standIns := [], harness := (true, "12c510f697caeb76ea5554ad930a1f907213bf1c0cac14984c3872ba462ceabe"), looks := true }, kinds := [], alts := [], laidByText := true, laidKinds := [.data, .data, .data, .data, .pinned], laidTests := true, laidLooks := .later }
def DrupKeptUptoCardSaid : Prop := Claim7.holds Tryd.pinned (.plain (OpenSpec.upto drupKeptSpec)) drupKeptUptoCard
end Rows
end Go.Proofs.YtffomfbbplpljaaDoor
