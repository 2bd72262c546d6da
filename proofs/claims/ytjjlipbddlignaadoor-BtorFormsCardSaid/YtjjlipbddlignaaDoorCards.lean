/-
  DERIVED. GIVEN WITH THE SEED: THE CARDS: each row of YtjjlipbddlignaaDoorRows.lean that lists a variable, with what it lists TIED to the program's text (the seventh form; the later family's looks); each row that meets fmt, with fmt's text TOLD by the authors' own Lean function (tested against real Go, not proved from fmt's source: count such statements apart). THE CARD IS WHAT COUNTS. Prove the row's statement (the work); the ties are given (YtjjlipbddlignaaDoorTie.lean); close each card by the builder's one call (the guide's Derived/Test/ToyasCard.lean, 'card_holds'). Laid BY PROGRAM, IN A SANDBOX (cutbox-door.mjs). By AI agents, Wed Nov 11 2026. No macro, syntax, notation, axiom, sorry.
-/
import Derived.Test.YtjjlipbddlignaaDoorRows
import GoSem.ClaimSeven
namespace Go.Proofs.YtjjlipbddlignaaDoor
namespace Rows

/-- THE TIED CARD OF 'vidimuslaw13.BtorForms'. -/
def btorFormsCard : Claim7 := { stood := { row := btorFormsRow, standIns := [], harness := (true, "cca36224d1fe31d2548814e9e474cdb13d3d7269ffe6af5978eddb9d86730862"), looks := false }, kinds := [], alts := [], laidByText := true, laidKinds := [.data, .data, .data, .data, .listed, .data, .pinned], laidTests := true, laidLooks := .later }
def BtorFormsCardSaid : Prop := Claim7.holds Tryd.pinned (.plain (OpenSpec.ofChange btorFormsSpec)) btorFormsCard

/-- THE SECOND FORM's CARD OF 'vidimuslaw13.BtorForms'. -/
def btorFormsUptoCard : Claim7 := { stood := { row := btorFormsUptoRow, standIns := [], harness := (true, "cca36224d1fe31d2548814e9e474cdb13d3d7269ffe6af5978eddb9d86730862"), looks := false }, kinds := [], alts := [], laidByText := true, laidKinds := [.data, .data, .data, .data, .listed, .data, .pinned], laidTests := true, laidLooks := .later }
def BtorFormsUptoCardSaid : Prop := Claim7.holds Tryd.pinned (.plain (OpenSpec.upto btorFormsSpec)) btorFormsUptoCard
end Rows
end Go.Proofs.YtjjlipbddlignaaDoor
