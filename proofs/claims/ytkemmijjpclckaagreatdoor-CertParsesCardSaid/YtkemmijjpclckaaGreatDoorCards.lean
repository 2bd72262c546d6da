/-
  DERIVED. GIVEN WITH THE SEED: THE CARDS: each row of YtkemmijjpclckaaGreatDoorRows.lean that lists a variable, with what it lists TIED to the program's text (the seventh form; the later family's looks); each row that meets fmt, with fmt's text TOLD by the authors' own Lean function (tested against real Go, not proved from fmt's source: count such statements apart). THE CARD IS WHAT COUNTS. Prove the row's statement (the work); the ties are given (YtkemmijjpclckaaGreatDoorTie.lean); close each card by the builder's one call (the guide's Derived/Test/ToyasCard.lean, 'card_holds'). Laid BY PROGRAM, IN A SANDBOX (cutbox-door.mjs). By AI agents, Wed Nov 11 2026. No macro, syntax, notation, axiom, sorry.
-/
import Derived.Test.YtkemmijjpclckaaGreatDoorRows
import GoSem.ClaimSeven
namespace Go.Proofs.YtkemmijjpclckaaGreatDoor
namespace Rows

/-- THE TIED CARD OF 'vidimuslaw20.CertTells'. -/
def certTellsCard : Claim7 := { stood := { row := certTellsRow, standIns := [], harness := (true, "8464ab40145aab257342a30d660a6fa2a22cb6e349416b5beca5878be248c7f6"), looks := true }, kinds := [], alts := [], laidByText := true, laidKinds := [.data, .data, .data, .data, .pinned], laidTests := true, laidLooks := .later }
def CertTellsCardSaid : Prop := Claim7.holds Tryz.pinned (.plain (OpenSpec.ofChange certTellsSpec)) certTellsCard

/-- THE TIED CARD OF 'vidimuslaw20.CertParses'. -/
def certParsesCard : Claim7 := { stood := { row := certParsesRow, standIns := [], harness := (true, "8464ab40145aab257342a30d660a6fa2a22cb6e349416b5beca5878be248c7f6"), looks := true }, kinds := [], alts := [], laidByText := true, laidKinds := [.data, .data, .data, .data, .pinned], laidTests := true, laidLooks := .later }
def CertParsesCardSaid : Prop := Claim7.holds Tryz.pinned (.plain (OpenSpec.ofChange certParsesSpec)) certParsesCard

/-- THE TIED CARD OF 'vidimuslaw20.CertChecks'. -/
def certChecksCard : Claim7 := { stood := { row := certChecksRow, standIns := [], harness := (true, "8464ab40145aab257342a30d660a6fa2a22cb6e349416b5beca5878be248c7f6"), looks := true }, kinds := [], alts := [], laidByText := true, laidKinds := [.data, .data, .data, .data, .pinned], laidTests := true, laidLooks := .later }
def CertChecksCardSaid : Prop := Claim7.holds Tryz.pinned (.plain (OpenSpec.ofChange certChecksSpec)) certChecksCard

/-- THE TIED CARD OF 'vidimuslaw20.CertSound'. -/
def certSoundCard : Claim7 := { stood := { row := certSoundRow, standIns := [], harness := (true, "8464ab40145aab257342a30d660a6fa2a22cb6e349416b5beca5878be248c7f6"), looks := true }, kinds := [], alts := [], laidByText := true, laidKinds := [.data, .data, .data, .data, .pinned], laidTests := true, laidLooks := .later }
def CertSoundCardSaid : Prop := Claim7.holds Tryz.pinned (.plain (OpenSpec.ofChange certSoundSpec)) certSoundCard

/-- THE TIED CARD OF 'vidimuslaw20.CertHolds'. -/
def certHoldsCard : Claim7 := { stood := { row := certHoldsRow, standIns := [], harness := (true, "8464ab40145aab257342a30d660a6fa2a22cb6e349416b5beca5878be248c7f6"), looks := true }, kinds := [], alts := [], laidByText := true, laidKinds := [.data, .data, .data, .data, .pinned], laidTests := true, laidLooks := .later }
def CertHoldsCardSaid : Prop := Claim7.holds Tryz.pinned (.plain (OpenSpec.ofChange certHoldsSpec)) certHoldsCard

/-- THE TIED CARD OF 'vidimuslaw20.CertBack'. -/
def certBackCard : Claim7 := { stood := { row := certBackRow, standIns := [], harness := (true, "8464ab40145aab257342a30d660a6fa2a22cb6e349416b5beca5878be248c7f6"), looks := true }, kinds := [], alts := [], laidByText := true, laidKinds := [.data, .data, .data, .data, .pinned], laidTests := true, laidLooks := .later }
def CertBackCardSaid : Prop := Claim7.holds Tryz.pinned (.plain (OpenSpec.ofChange certBackSpec)) certBackCard

/-- THE TIED CARD OF 'vidimuslaw20.CertGrows'. -/
def certGrowsCard : Claim7 := { stood := { row := certGrowsRow, standIns := [], harness := (true, "8464ab40145aab257342a30d660a6fa2a22cb6e349416b5beca5878be248c7f6"), looks := true }, kinds := [], alts := [], laidByText := true, laidKinds := [.data, .data, .data, .data, .pinned], laidTests := true, laidLooks := .later }
def CertGrowsCardSaid : Prop := Claim7.holds Tryz.pinned (.plain (OpenSpec.ofChange certGrowsSpec)) certGrowsCard

/-- THE TIED CARD OF 'vidimuslaw20.CertInputs'. -/
def certInputsCard : Claim7 := { stood := { row := certInputsRow, standIns := [], harness := (true, "8464ab40145aab257342a30d660a6fa2a22cb6e349416b5beca5878be248c7f6"), looks := true }, kinds := [], alts := [], laidByText := true, laidKinds := [.data, .data, .data, .data, .pinned], laidTests := true, laidLooks := .later }
def CertInputsCardSaid : Prop := Claim7.holds Tryz.pinned (.plain (OpenSpec.ofChange certInputsSpec)) certInputsCard

/-- THE SECOND FORM's CARD OF 'vidimuslaw20.CertTells'. -/
def certTellsUptoCard : Claim7 := { stood := { row := certTellsUptoRow, standIns := [], harness := (true, "8464ab40145aab257342a30d660a6fa2a22cb6e349416b5beca5878be248c7f6"), looks := true }, kinds := [], alts := [], laidByText := true, laidKinds := [.data, .data, .data, .data, .pinned], laidTests := true, laidLooks := .later }
def CertTellsUptoCardSaid : Prop := Claim7.holds Tryz.pinned (.plain (OpenSpec.upto certTellsSpec)) certTellsUptoCard

/-- THE SECOND FORM's CARD OF 'vidimuslaw20.CertParses'. -/
def certParsesUptoCard : Claim7 := { stood := { row := certParsesUptoRow, standIns := [], harness := (true, "8464ab40145aab257342a30d660a6fa2a22cb6e349416b5beca5878be248c7f6"), looks := true }, kinds := [], alts := [], laidByText := true, laidKinds := [.data, .data, .data, .data, .pinned], laidTests := true, laidLooks := .later }
def CertParsesUptoCardSaid : Prop := Claim7.holds Tryz.pinned (.plain (OpenSpec.upto certParsesSpec)) certParsesUptoCard

/-- THE SECOND FORM's CARD OF 'vidimuslaw20.CertChecks'. -/
def certChecksUptoCard : Claim7 := { stood := { row := certChecksUptoRow, standIns := [], harness := (true, "8464ab40145aab257342a30d660a6fa2a22cb6e349416b5beca5878be248c7f6"), looks := true }, kinds := [], alts := [], laidByText := true, laidKinds := [.data, .data, .data, .data, .pinned], laidTests := true, laidLooks := .later }
def CertChecksUptoCardSaid : Prop := Claim7.holds Tryz.pinned (.plain (OpenSpec.upto certChecksSpec)) certChecksUptoCard

/-- THE SECOND FORM's CARD OF 'vidimuslaw20.CertSound'. -/
def certSoundUptoCard : Claim7 := { stood := { row := certSoundUptoRow, standIns := [], harness := (true, "8464ab40145aab257342a30d660a6fa2a22cb6e349416b5beca5878be248c7f6"), looks := true }, kinds := [], alts := [], laidByText := true, laidKinds := [.data, .data, .data, .data, .pinned], laidTests := true, laidLooks := .later }
def CertSoundUptoCardSaid : Prop := Claim7.holds Tryz.pinned (.plain (OpenSpec.upto certSoundSpec)) certSoundUptoCard

/-- THE SECOND FORM's CARD OF 'vidimuslaw20.CertHolds'. -/
def certHoldsUptoCard : Claim7 := { stood := { row := certHoldsUptoRow, standIns := [], harness := (true, "8464ab40145aab257342a30d660a6fa2a22cb6e349416b5beca5878be248c7f6"), looks := true }, kinds := [], alts := [], laidByText := true, laidKinds := [.data, .data, .data, .data, .pinned], laidTests := true, laidLooks := .later }
def CertHoldsUptoCardSaid : Prop := Claim7.holds Tryz.pinned (.plain (OpenSpec.upto certHoldsSpec)) certHoldsUptoCard

/-- THE SECOND FORM's CARD OF 'vidimuslaw20.CertBack'. -/
def certBackUptoCard : Claim7 := { stood := { row := certBackUptoRow, standIns := [], harness := (true, "8464ab40145aab257342a30d660a6fa2a22cb6e349416b5beca5878be248c7f6"), looks := true }, kinds := [], alts := [], laidByText := true, laidKinds := [.data, .data, .data, .data, .pinned], laidTests := true, laidLooks := .later }
def CertBackUptoCardSaid : Prop := Claim7.holds Tryz.pinned (.plain (OpenSpec.upto certBackSpec)) certBackUptoCard

/-- THE SECOND FORM's CARD OF 'vidimuslaw20.CertGrows'. -/
def certGrowsUptoCard : Claim7 := { stood := { row := certGrowsUptoRow, standIns := [], harness := (true, "8464ab40145aab257342a30d660a6fa2a22cb6e349416b5beca5878be248c7f6"), looks := true }, kinds := [], alts := [], laidByText := true, laidKinds := [.data, .data, .data, .data, .pinned], laidTests := true, laidLooks := .later }
def CertGrowsUptoCardSaid : Prop := Claim7.holds Tryz.pinned (.plain (OpenSpec.upto certGrowsSpec)) certGrowsUptoCard

/-- THE SECOND FORM's CARD OF 'vidimuslaw20.CertInputs'. -/
def certInputsUptoCard : Claim7 := { stood := { row := certInputsUptoRow, standIns := [], harness := (true, "8464ab40145aab257342a30d660a6fa2a22cb6e349416b5beca5878be248c7f6"), looks := true }, kinds := [], alts := [], laidByText := true, laidKinds := [.data, .data, .data, .data, .pinned], laidTests := true, laidLooks := .later }
def CertInputsUptoCardSaid : Prop := Claim7.holds Tryz.pinned (.plain (OpenSpec.upto certInputsSpec)) certInputsUptoCard
end Rows
end Go.Proofs.YtkemmijjpclckaaGreatDoor
