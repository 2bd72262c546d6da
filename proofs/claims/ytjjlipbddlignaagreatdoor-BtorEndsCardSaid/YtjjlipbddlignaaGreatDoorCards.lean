/-
  DERIVED. GIVEN WITH THE SEED: THE CARDS: each row of YtjjlipbddlignaaGreatDoorRows.lean that lists a variable, with what it lists TIED to the program's text (the seventh form; the later family's looks); each row that meets fmt, with fmt's text TOLD by the authors' own Lean function (tested against real Go, not proved from fmt's source: count such statements apart). THE CARD IS WHAT COUNTS. Prove the row's statement (the work); the ties are given (YtjjlipbddlignaaGreatDoorTie.lean); close each card by the builder's one call (the guide's Derived/Test/ToyasCard.lean, 'card_holds'). Laid BY PROGRAM, IN A SANDBOX (cutbox-door.mjs). By AI agents, Wed Nov 11 2026. No macro, syntax, notation, axiom, sorry.
-/
import Derived.Test.YtjjlipbddlignaaGreatDoorRows
import GoSem.ClaimSeven
namespace Go.Proofs.YtjjlipbddlignaaGreatDoor
namespace Rows

/-- THE TIED CARD OF 'vidimuslaw13.BtorTells'. -/
def btorTellsCard : Claim7 := { stood := { row := btorTellsRow, standIns := [], harness := (true, "36c8b98d0207e5a8d5f2ea81ddef56f05578ba671f1687277da3670096a321ac"), looks := false }, kinds := [], alts := [], laidByText := true, laidKinds := [.data, .data, .data, .data, .listed, .data, .pinned], laidTests := true, laidLooks := .later }
def BtorTellsCardSaid : Prop := Claim7.holds Tryz.pinned (.plain (OpenSpec.ofChange btorTellsSpec)) btorTellsCard

/-- THE TIED CARD OF 'vidimuslaw13.BtorBack'. -/
def btorBackCard : Claim7 := { stood := { row := btorBackRow, standIns := [], harness := (true, "36c8b98d0207e5a8d5f2ea81ddef56f05578ba671f1687277da3670096a321ac"), looks := false }, kinds := [], alts := [], laidByText := true, laidKinds := [.data, .data, .data, .data, .listed, .data, .pinned], laidTests := true, laidLooks := .later }
def BtorBackCardSaid : Prop := Claim7.holds Tryz.pinned (.plain (OpenSpec.ofChange btorBackSpec)) btorBackCard

/-- THE TIED CARD OF 'vidimuslaw13.BtorForth'. -/
def btorForthCard : Claim7 := { stood := { row := btorForthRow, standIns := [], harness := (true, "36c8b98d0207e5a8d5f2ea81ddef56f05578ba671f1687277da3670096a321ac"), looks := false }, kinds := [], alts := [], laidByText := true, laidKinds := [.data, .data, .data, .data, .listed, .data, .pinned], laidTests := true, laidLooks := .later }
def BtorForthCardSaid : Prop := Claim7.holds Tryz.pinned (.plain (OpenSpec.ofChange btorForthSpec)) btorForthCard

/-- THE TIED CARD OF 'vidimuslaw13.BtorLines'. -/
def btorLinesCard : Claim7 := { stood := { row := btorLinesRow, standIns := [], harness := (true, "36c8b98d0207e5a8d5f2ea81ddef56f05578ba671f1687277da3670096a321ac"), looks := false }, kinds := [], alts := [], laidByText := true, laidKinds := [.data, .data, .data, .data, .listed, .data, .pinned], laidTests := true, laidLooks := .later }
def BtorLinesCardSaid : Prop := Claim7.holds Tryz.pinned (.plain (OpenSpec.ofChange btorLinesSpec)) btorLinesCard

/-- THE TIED CARD OF 'vidimuslaw13.BtorEnds'. -/
def btorEndsCard : Claim7 := { stood := { row := btorEndsRow, standIns := [], harness := (true, "36c8b98d0207e5a8d5f2ea81ddef56f05578ba671f1687277da3670096a321ac"), looks := false }, kinds := [], alts := [], laidByText := true, laidKinds := [.data, .data, .data, .data, .listed, .data, .pinned], laidTests := true, laidLooks := .later }
def BtorEndsCardSaid : Prop := Claim7.holds Tryz.pinned (.plain (OpenSpec.ofChange btorEndsSpec)) btorEndsCard

/-- THE SECOND FORM's CARD OF 'vidimuslaw13.BtorTells'. -/
def btorTellsUptoCard : Claim7 := { stood := { row := btorTellsUptoRow, standIns := [], harness := (true, "36c8b98d0207e5a8d5f2ea81ddef56f05578ba671f1687277da3670096a321ac"), looks := false }, kinds := [], alts := [], laidByText := true, laidKinds := [.data, .data, .data, .data, .listed, .data, .pinned], laidTests := true, laidLooks := .later }
def BtorTellsUptoCardSaid : Prop := Claim7.holds Tryz.pinned (.plain (OpenSpec.upto btorTellsSpec)) btorTellsUptoCard

/-- THE SECOND FORM's CARD OF 'vidimuslaw13.BtorBack'. -/
def btorBackUptoCard : Claim7 := { stood := { row := btorBackUptoRow, standIns := [], harness := (true, "36c8b98d0207e5a8d5f2ea81ddef56f05578ba671f1687277da3670096a321ac"), looks := false }, kinds := [], alts := [], laidByText := true, laidKinds := [.data, .data, .data, .data, .listed, .data, .pinned], laidTests := true, laidLooks := .later }
def BtorBackUptoCardSaid : Prop := Claim7.holds Tryz.pinned (.plain (OpenSpec.upto btorBackSpec)) btorBackUptoCard

/-- THE SECOND FORM's CARD OF 'vidimuslaw13.BtorForth'. -/
def btorForthUptoCard : Claim7 := { stood := { row := btorForthUptoRow, standIns := [], harness := (true, "36c8b98d0207e5a8d5f2ea81ddef56f05578ba671f1687277da3670096a321ac"), looks := false }, kinds := [], alts := [], laidByText := true, laidKinds := [.data, .data, .data, .data, .listed, .data, .pinned], laidTests := true, laidLooks := .later }
def BtorForthUptoCardSaid : Prop := Claim7.holds Tryz.pinned (.plain (OpenSpec.upto btorForthSpec)) btorForthUptoCard

/-- THE SECOND FORM's CARD OF 'vidimuslaw13.BtorLines'. -/
def btorLinesUptoCard : Claim7 := { stood := { row := btorLinesUptoRow, standIns := [], harness := (true, "36c8b98d0207e5a8d5f2ea81ddef56f05578ba671f1687277da3670096a321ac"), looks := false }, kinds := [], alts := [], laidByText := true, laidKinds := [.data, .data, .data, .data, .listed, .data, .pinned], laidTests := true, laidLooks := .later }
def BtorLinesUptoCardSaid : Prop := Claim7.holds Tryz.pinned (.plain (OpenSpec.upto btorLinesSpec)) btorLinesUptoCard

/-- THE SECOND FORM's CARD OF 'vidimuslaw13.BtorEnds'. -/
def btorEndsUptoCard : Claim7 := { stood := { row := btorEndsUptoRow, standIns := [], harness := (true, "36c8b98d0207e5a8d5f2ea81ddef56f05578ba671f1687277da3670096a321ac"), looks := false }, kinds := [], alts := [], laidByText := true, laidKinds := [.data, .data, .data, .data, .listed, .data, .pinned], laidTests := true, laidLooks := .later }
def BtorEndsUptoCardSaid : Prop := Claim7.holds Tryz.pinned (.plain (OpenSpec.upto btorEndsSpec)) btorEndsUptoCard
end Rows
end Go.Proofs.YtjjlipbddlignaaGreatDoor
