/-
  NARROWER THAN 'FOR EVERY INPUT', by the rows' own cells (each row's printed sentence says how): VecTells: laid · VecReckons: laid · VecCuts: laid · VecRing: laid · VecBits: laid · VecShifts: laid · VecParts: laid.
  DERIVED. THE GIVEN ROWS OF THIS SEAT. 7 by the template 'for every input the law returns true; each argument reads behind the call as it read before'; 0 by the template 'total and deterministic' (their statements: YtclamogkchdkgaaGreatDoorTotals.lean).
  GIVEN WITH THE SEED: the statements are not yours to turn. If you find one false, say at which input.
  Laid BY PROGRAM, IN A SANDBOX (cutbox-rows.mjs): the forced cells as the released guide's own fill.sh prints them over the translation 52ba935b76f2b978… (all of the seat's roots in one cut). By AI agents, Wed Nov 11 2026. No macro, syntax, notation, axiom, sorry.
-/
import Derived.Test.YtclamogkchdkgaaGreatDoorChecked
import GoSem.PinnedTables
import GoSem.Claim
import GoSem.ClaimJoined
import GoSem.ClaimMapViews
import Derived.JoinedTies
import Derived.KernelRfl
namespace Go.Proofs.YtclamogkchdkgaaGreatDoor
/- THE CELL 'sum', in the pinned program and in every row, IS THE sha256 OF THE DUMP (.gsa) THAT YtclamogkchdkgaaGreatDoorProg.lean LOADS. Nothing in Lean hashes anything: it is a label: what it is worth is what the hold of that sum in a sandbox is worth. -/
noncomputable def Tryz.pinned : Pinned := { name := "ytclamogkchdkgaagreatdoor", sum := "52ba935b76f2b978728897b6ac7b2cc1ce34563e7b50b69074ca4f9dd78f0561", checked := Tryz.checked }
namespace Rows
def none {H : Type} : Left H := { results := [], args := [] }

/- WHAT THE LISTED PACKAGE-LEVEL VARIABLES READ AS WHEN THE CALL BEGINS. Each datum BY PROGRAM (the guide's laid-datum.mjs) off the statement by which the dump's own 'gosem.cut.vars' lays the variable. In a bare row this is a premise. The card (YtclamogkchdkgaaGreatDoorCards.lean) ties it to the program's text. -/
def laid_unicode_utf8_acceptRanges {H : Type} : DataW H := .agg [.agg [.lit (.int .u8 128), .lit (.int .u8 191)], .agg [.lit (.int .u8 160), .lit (.int .u8 191)], .agg [.lit (.int .u8 128), .lit (.int .u8 159)], .agg [.lit (.int .u8 144), .lit (.int .u8 191)], .agg [.lit (.int .u8 128), .lit (.int .u8 143)], .agg [.lit (.int .u8 0), .lit (.int .u8 0)], .agg [.lit (.int .u8 0), .lit (.int .u8 0)], .agg [.lit (.int .u8 0), .lit (.int .u8 0)], .agg [.lit (.int .u8 0), .lit (.int .u8 0)], .agg [.lit (.int .u8 0), .lit (.int .u8 0)], .agg [.lit (.int .u8 0), .lit (.int .u8 0)], .agg [.lit (.int .u8 0), .lit (.int .u8 0)], .agg [.lit (.int .u8 0), .lit (.int .u8 0)], .agg [.lit (.int .u8 0), .lit (.int .u8 0)], .agg [.lit (.int .u8 0), .lit (.int .u8 0)], .agg [.lit (.int .u8 0), .lit (.int .u8 0)]]
/-- One of Go's own tables, pinned by name: the form's constant. -/
def laid_unicode_utf8_first : DataW Unit := Go.Pinned.utf8First

/-- 'vidimuslaw02.VecTells': WHATEVER THE INPUT: true; the input reads as it did. -/
def vecTellsSpec : ChangeSpec := { name := "vecTells", fn := fun _ => fun
  | [d] => { results := [.lit (.bool true)], args := [d] }
  | _ => none }
def vecTellsRow : OpenClaim := { program := "ytclamogkchdkgaagreatdoor", sum := "52ba935b76f2b978728897b6ac7b2cc1ce34563e7b50b69074ca4f9dd78f0561", func := "vidimus/vidimuslaw02.VecTells", spec := "vecTells", inPlace := ["internal/bytealg.IndexByteString", "internal/bytealg.IndexString", "internal/abi.NoEscape", "math/bits.Add64", "internal/bytealg.MakeNoZero"], unfollowed := true, recurses := true, named := ["unicode/utf8.first", "unicode/utf8.acceptRanges", "internal/bytealg.MaxLen"], apart := false, laid := [("unicode/utf8.acceptRanges", laid_unicode_utf8_acceptRanges), ("unicode/utf8.first", laid_unicode_utf8_first)] }
def VecTellsSaid : Prop := vecTellsRow.holds Tryz.pinned (OpenSpec.ofChange vecTellsSpec)

/-- ITS FALSE NEIGHBOUR: 'it returns false'. Refute it at one input. -/
def vecTellsWrong : ChangeSpec := { name := "vecTells", fn := fun _ => fun
  | [d] => { results := [.lit (.bool false)], args := [d] }
  | _ => none }
def VecTellsWrongFalsely : Prop := vecTellsRow.holds Tryz.pinned (OpenSpec.ofChange vecTellsWrong)

/-- 'vidimuslaw02.VecReckons': WHATEVER THE INPUT: true; the input reads as it did. -/
def vecReckonsSpec : ChangeSpec := { name := "vecReckons", fn := fun _ => fun
  | [d1, d2, d3] => { results := [.lit (.bool true)], args := [d1, d2, d3] }
  | _ => none }
def vecReckonsRow : OpenClaim := { program := "ytclamogkchdkgaagreatdoor", sum := "52ba935b76f2b978728897b6ac7b2cc1ce34563e7b50b69074ca4f9dd78f0561", func := "vidimus/vidimuslaw02.VecReckons", spec := "vecReckons", inPlace := ["internal/bytealg.IndexByteString", "internal/bytealg.IndexString", "internal/abi.NoEscape", "math/bits.Add64", "internal/bytealg.MakeNoZero"], unfollowed := true, recurses := true, named := ["unicode/utf8.first", "unicode/utf8.acceptRanges", "internal/bytealg.MaxLen"], apart := false, laid := [("unicode/utf8.acceptRanges", laid_unicode_utf8_acceptRanges), ("unicode/utf8.first", laid_unicode_utf8_first)] }
def VecReckonsSaid : Prop := vecReckonsRow.holds Tryz.pinned (OpenSpec.ofChange vecReckonsSpec)

/-- ITS FALSE NEIGHBOUR: 'it returns false'. Refute it at one input. -/
def vecReckonsWrong : ChangeSpec := { name := "vecReckons", fn := fun _ => fun
  | [d1, d2, d3] => { results := [.lit (.bool false)], args := [d1, d2, d3] }
  | _ => none }
def VecReckonsWrongFalsely : Prop := vecReckonsRow.holds Tryz.pinned (OpenSpec.ofChange vecReckonsWrong)

/-- 'vidimuslaw02.VecCuts': WHATEVER THE INPUT: true; the input reads as it did. -/
def vecCutsSpec : ChangeSpec := { name := "vecCuts", fn := fun _ => fun
  | [d] => { results := [.lit (.bool true)], args := [d] }
  | _ => none }
def vecCutsRow : OpenClaim := { program := "ytclamogkchdkgaagreatdoor", sum := "52ba935b76f2b978728897b6ac7b2cc1ce34563e7b50b69074ca4f9dd78f0561", func := "vidimus/vidimuslaw02.VecCuts", spec := "vecCuts", inPlace := ["internal/bytealg.IndexByteString", "internal/bytealg.IndexString", "internal/abi.NoEscape", "math/bits.Add64", "internal/bytealg.MakeNoZero"], unfollowed := true, recurses := true, named := ["unicode/utf8.first", "unicode/utf8.acceptRanges", "internal/bytealg.MaxLen"], apart := false, laid := [("unicode/utf8.acceptRanges", laid_unicode_utf8_acceptRanges), ("unicode/utf8.first", laid_unicode_utf8_first)] }
def VecCutsSaid : Prop := vecCutsRow.holds Tryz.pinned (OpenSpec.ofChange vecCutsSpec)

/-- ITS FALSE NEIGHBOUR: 'it returns false'. Refute it at one input. -/
def vecCutsWrong : ChangeSpec := { name := "vecCuts", fn := fun _ => fun
  | [d] => { results := [.lit (.bool false)], args := [d] }
  | _ => none }
def VecCutsWrongFalsely : Prop := vecCutsRow.holds Tryz.pinned (OpenSpec.ofChange vecCutsWrong)

/-- 'vidimuslaw02.VecRing': WHATEVER THE INPUT: true; the input reads as it did. -/
def vecRingSpec : ChangeSpec := { name := "vecRing", fn := fun _ => fun
  | [d1, d2, d3] => { results := [.lit (.bool true)], args := [d1, d2, d3] }
  | _ => none }
def vecRingRow : OpenClaim := { program := "ytclamogkchdkgaagreatdoor", sum := "52ba935b76f2b978728897b6ac7b2cc1ce34563e7b50b69074ca4f9dd78f0561", func := "vidimus/vidimuslaw02.VecRing", spec := "vecRing", inPlace := ["internal/bytealg.IndexByteString", "internal/bytealg.IndexString", "internal/abi.NoEscape", "math/bits.Add64", "internal/bytealg.MakeNoZero"], unfollowed := true, recurses := true, named := ["unicode/utf8.first", "unicode/utf8.acceptRanges", "internal/bytealg.MaxLen"], apart := false, laid := [("unicode/utf8.acceptRanges", laid_unicode_utf8_acceptRanges), ("unicode/utf8.first", laid_unicode_utf8_first)] }
def VecRingSaid : Prop := vecRingRow.holds Tryz.pinned (OpenSpec.ofChange vecRingSpec)

/-- ITS FALSE NEIGHBOUR: 'it returns false'. Refute it at one input. -/
def vecRingWrong : ChangeSpec := { name := "vecRing", fn := fun _ => fun
  | [d1, d2, d3] => { results := [.lit (.bool false)], args := [d1, d2, d3] }
  | _ => none }
def VecRingWrongFalsely : Prop := vecRingRow.holds Tryz.pinned (OpenSpec.ofChange vecRingWrong)

/-- 'vidimuslaw02.VecBits': WHATEVER THE INPUT: true; the input reads as it did. -/
def vecBitsSpec : ChangeSpec := { name := "vecBits", fn := fun _ => fun
  | [d1, d2, d3] => { results := [.lit (.bool true)], args := [d1, d2, d3] }
  | _ => none }
def vecBitsRow : OpenClaim := { program := "ytclamogkchdkgaagreatdoor", sum := "52ba935b76f2b978728897b6ac7b2cc1ce34563e7b50b69074ca4f9dd78f0561", func := "vidimus/vidimuslaw02.VecBits", spec := "vecBits", inPlace := ["internal/bytealg.IndexByteString", "internal/bytealg.IndexString", "internal/abi.NoEscape", "math/bits.Add64", "internal/bytealg.MakeNoZero"], unfollowed := true, recurses := true, named := ["unicode/utf8.first", "unicode/utf8.acceptRanges", "internal/bytealg.MaxLen"], apart := false, laid := [("unicode/utf8.acceptRanges", laid_unicode_utf8_acceptRanges), ("unicode/utf8.first", laid_unicode_utf8_first)] }
def VecBitsSaid : Prop := vecBitsRow.holds Tryz.pinned (OpenSpec.ofChange vecBitsSpec)

/-- ITS FALSE NEIGHBOUR: 'it returns false'. Refute it at one input. -/
def vecBitsWrong : ChangeSpec := { name := "vecBits", fn := fun _ => fun
  | [d1, d2, d3] => { results := [.lit (.bool false)], args := [d1, d2, d3] }
  | _ => none }
def VecBitsWrongFalsely : Prop := vecBitsRow.holds Tryz.pinned (OpenSpec.ofChange vecBitsWrong)

/-- 'vidimuslaw02.VecShifts': WHATEVER THE INPUT: true; the input reads as it did. -/
def vecShiftsSpec : ChangeSpec := { name := "vecShifts", fn := fun _ => fun
  | [d1, d2] => { results := [.lit (.bool true)], args := [d1, d2] }
  | _ => none }
def vecShiftsRow : OpenClaim := { program := "ytclamogkchdkgaagreatdoor", sum := "52ba935b76f2b978728897b6ac7b2cc1ce34563e7b50b69074ca4f9dd78f0561", func := "vidimus/vidimuslaw02.VecShifts", spec := "vecShifts", inPlace := ["internal/bytealg.IndexByteString", "internal/bytealg.IndexString", "internal/abi.NoEscape", "math/bits.Add64", "internal/bytealg.MakeNoZero"], unfollowed := true, recurses := true, named := ["unicode/utf8.first", "unicode/utf8.acceptRanges", "internal/bytealg.MaxLen"], apart := false, laid := [("unicode/utf8.acceptRanges", laid_unicode_utf8_acceptRanges), ("unicode/utf8.first", laid_unicode_utf8_first)] }
def VecShiftsSaid : Prop := vecShiftsRow.holds Tryz.pinned (OpenSpec.ofChange vecShiftsSpec)

/-- ITS FALSE NEIGHBOUR: 'it returns false'. Refute it at one input. -/
def vecShiftsWrong : ChangeSpec := { name := "vecShifts", fn := fun _ => fun
  | [d1, d2] => { results := [.lit (.bool false)], args := [d1, d2] }
  | _ => none }
def VecShiftsWrongFalsely : Prop := vecShiftsRow.holds Tryz.pinned (OpenSpec.ofChange vecShiftsWrong)

/-- 'vidimuslaw02.VecParts': WHATEVER THE INPUT: true; the input reads as it did. -/
def vecPartsSpec : ChangeSpec := { name := "vecParts", fn := fun _ => fun
  | [d] => { results := [.lit (.bool true)], args := [d] }
  | _ => none }
def vecPartsRow : OpenClaim := { program := "ytclamogkchdkgaagreatdoor", sum := "52ba935b76f2b978728897b6ac7b2cc1ce34563e7b50b69074ca4f9dd78f0561", func := "vidimus/vidimuslaw02.VecParts", spec := "vecParts", inPlace := ["internal/bytealg.IndexByteString", "internal/bytealg.IndexString", "internal/abi.NoEscape", "math/bits.Add64", "internal/bytealg.MakeNoZero"], unfollowed := true, recurses := true, named := ["unicode/utf8.first", "unicode/utf8.acceptRanges", "internal/bytealg.MaxLen"], apart := false, laid := [("unicode/utf8.acceptRanges", laid_unicode_utf8_acceptRanges), ("unicode/utf8.first", laid_unicode_utf8_first)] }
def VecPartsSaid : Prop := vecPartsRow.holds Tryz.pinned (OpenSpec.ofChange vecPartsSpec)

/-- ITS FALSE NEIGHBOUR: 'it returns false'. Refute it at one input. -/
def vecPartsWrong : ChangeSpec := { name := "vecParts", fn := fun _ => fun
  | [d] => { results := [.lit (.bool false)], args := [d] }
  | _ => none }
def VecPartsWrongFalsely : Prop := vecPartsRow.holds Tryz.pinned (OpenSpec.ofChange vecPartsWrong)

/- THE SECOND FORM. 'bulk': how many values and letters a reading holds, each counted each time it is reached (what is shared counts as often as it is met; a slice's spare places count too). A statement '..UptoSaid' is the law's where the arguments, and the package variables that the reading takes, are together of bulk at most 1048576: NARROWER than '..Said'. Prove '..Said' where nothing that the law and all that it calls make is longer than what came in: it says more and counts as full. Else prove '..UptoSaid'. A law counts once. -/
mutual
def uptoBulk {H : Type} : DataW H → Nat
  | .lit (.string bytes) => bytes.length + 1
  | .lit _ => 1
  | .nil => 1
  | .ptr d => uptoBulk d + 1
  | .slice elems spare => uptoBulkAll elems + uptoBulkAll spare + 1
  | .agg parts => uptoBulkAll parts + 1
  | .iface _ d => uptoBulk d + 1
  | .map entries => uptoBulkEntries entries + 1
  | .held _ => 1
def uptoBulkAll {H : Type} : List (DataW H) → Nat
  | [] => 0
  | d :: r => uptoBulk d + uptoBulkAll r
def uptoBulkEntries {H : Type} : List (Lit × DataW H) → Nat
  | [] => 0
  | x :: r => uptoBulkEntry x + uptoBulkEntries r
def uptoBulkEntry {H : Type} : Lit × DataW H → Nat
  | (.string bytes, d) => bytes.length + uptoBulk d + 1
  | (_, d) => uptoBulk d + 1
 end
def uptoSmall : (H : Type) → List (DataW H) → Bool := fun _ ds => decide (uptoBulkAll ds ≤ 1048576)
def OpenSpec.upto (s : _root_.Go.ChangeSpec) : _root_.Go.OpenSpec := { _root_.Go.OpenSpec.ofChange s with cond := some uptoSmall }

/-- 'vidimuslaw02.VecTells', WHERE WHAT IT READS IS OF BULK AT MOST 1048576: true; the input reads as it did. -/
def vecTellsUptoRow : OpenClaim := { program := "ytclamogkchdkgaagreatdoor", sum := "52ba935b76f2b978728897b6ac7b2cc1ce34563e7b50b69074ca4f9dd78f0561", func := "vidimus/vidimuslaw02.VecTells", spec := "vecTells", inPlace := ["internal/bytealg.IndexByteString", "internal/bytealg.IndexString", "internal/abi.NoEscape", "math/bits.Add64", "internal/bytealg.MakeNoZero"], unfollowed := true, recurses := true, named := ["unicode/utf8.first", "unicode/utf8.acceptRanges", "internal/bytealg.MaxLen"], apart := false, laid := [("unicode/utf8.acceptRanges", laid_unicode_utf8_acceptRanges), ("unicode/utf8.first", laid_unicode_utf8_first)], narrowed := true }
def VecTellsUptoSaid : Prop := vecTellsUptoRow.holds Tryz.pinned (OpenSpec.upto vecTellsSpec)

/-- 'vidimuslaw02.VecReckons', WHERE WHAT IT READS IS OF BULK AT MOST 1048576: true; the input reads as it did. -/
def vecReckonsUptoRow : OpenClaim := { program := "ytclamogkchdkgaagreatdoor", sum := "52ba935b76f2b978728897b6ac7b2cc1ce34563e7b50b69074ca4f9dd78f0561", func := "vidimus/vidimuslaw02.VecReckons", spec := "vecReckons", inPlace := ["internal/bytealg.IndexByteString", "internal/bytealg.IndexString", "internal/abi.NoEscape", "math/bits.Add64", "internal/bytealg.MakeNoZero"], unfollowed := true, recurses := true, named := ["unicode/utf8.first", "unicode/utf8.acceptRanges", "internal/bytealg.MaxLen"], apart := false, laid := [("unicode/utf8.acceptRanges", laid_unicode_utf8_acceptRanges), ("unicode/utf8.first", laid_unicode_utf8_first)], narrowed := true }
def VecReckonsUptoSaid : Prop := vecReckonsUptoRow.holds Tryz.pinned (OpenSpec.upto vecReckonsSpec)

/-- 'vidimuslaw02.VecCuts', WHERE WHAT IT READS IS OF BULK AT MOST 1048576: true; the input reads as it did. -/
def vecCutsUptoRow : OpenClaim := { program := "ytclamogkchdkgaagreatdoor", sum := "52ba935b76f2b978728897b6ac7b2cc1ce34563e7b50b69074ca4f9dd78f0561", func := "vidimus/vidimuslaw02.VecCuts", spec := "vecCuts", inPlace := ["internal/bytealg.IndexByteString", "internal/bytealg.IndexString", "internal/abi.NoEscape", "math/bits.Add64", "internal/bytealg.MakeNoZero"], unfollowed := true, recurses := true, named := ["unicode/utf8.first", "unicode/utf8.acceptRanges", "internal/bytealg.MaxLen"], apart := false, laid := [("unicode/utf8.acceptRanges", laid_unicode_utf8_acceptRanges), ("unicode/utf8.first", laid_unicode_utf8_first)], narrowed := true }
def VecCutsUptoSaid : Prop := vecCutsUptoRow.holds Tryz.pinned (OpenSpec.upto vecCutsSpec)

/-- 'vidimuslaw02.VecRing', WHERE WHAT IT READS IS OF BULK AT MOST 1048576: true; the input reads as it did. -/
def vecRingUptoRow : OpenClaim := { program := "ytclamogkchdkgaagreatdoor", sum := "52ba935b76f2b978728897b6ac7b2cc1ce34563e7b50b69074ca4f9dd78f0561", func := "vidimus/vidimuslaw02.VecRing", spec := "vecRing", inPlace := ["internal/bytealg.IndexByteString", "internal/bytealg.IndexString", "internal/abi.NoEscape", "math/bits.Add64", "internal/bytealg.MakeNoZero"], unfollowed := true, recurses := true, named := ["unicode/utf8.first", "unicode/utf8.acceptRanges", "internal/bytealg.MaxLen"], apart := false, laid := [("unicode/utf8.acceptRanges", laid_unicode_utf8_acceptRanges), ("unicode/utf8.first", laid_unicode_utf8_first)], narrowed := true }
def VecRingUptoSaid : Prop := vecRingUptoRow.holds Tryz.pinned (OpenSpec.upto vecRingSpec)

/-- 'vidimuslaw02.VecBits', WHERE WHAT IT READS IS OF BULK AT MOST 1048576: true; the input reads as it did. -/
def vecBitsUptoRow : OpenClaim := { program := "ytclamogkchdkgaagreatdoor", sum := "52ba935b76f2b978728897b6ac7b2cc1ce34563e7b50b69074ca4f9dd78f0561", func := "vidimus/vidimuslaw02.VecBits", spec := "vecBits", inPlace := ["internal/bytealg.IndexByteString", "internal/bytealg.IndexString", "internal/abi.NoEscape", "math/bits.Add64", "internal/bytealg.MakeNoZero"], unfollowed := true, recurses := true, named := ["unicode/utf8.first", "unicode/utf8.acceptRanges", "internal/bytealg.MaxLen"], apart := false, laid := [("unicode/utf8.acceptRanges", laid_unicode_utf8_acceptRanges), ("unicode/utf8.first", laid_unicode_utf8_first)], narrowed := true }
def VecBitsUptoSaid : Prop := vecBitsUptoRow.holds Tryz.pinned (OpenSpec.upto vecBitsSpec)

/-- 'vidimuslaw02.VecShifts', WHERE WHAT IT READS IS OF BULK AT MOST 1048576: true; the input reads as it did. -/
def vecShiftsUptoRow : OpenClaim := { program := "ytclamogkchdkgaagreatdoor", sum := "52ba935b76f2b978728897b6ac7b2cc1ce34563e7b50b69074ca4f9dd78f0561", func := "vidimus/vidimuslaw02.VecShifts", spec := "vecShifts", inPlace := ["internal/bytealg.IndexByteString", "internal/bytealg.IndexString", "internal/abi.NoEscape", "math/bits.Add64", "internal/bytealg.MakeNoZero"], unfollowed := true, recurses := true, named := ["unicode/utf8.first", "unicode/utf8.acceptRanges", "internal/bytealg.MaxLen"], apart := false, laid := [("unicode/utf8.acceptRanges", laid_unicode_utf8_acceptRanges), ("unicode/utf8.first", laid_unicode_utf8_first)], narrowed := true }
def VecShiftsUptoSaid : Prop := vecShiftsUptoRow.holds Tryz.pinned (OpenSpec.upto vecShiftsSpec)

/-- 'vidimuslaw02.VecParts', WHERE WHAT IT READS IS OF BULK AT MOST 1048576: true; the input reads as it did. -/
def vecPartsUptoRow : OpenClaim := { program := "ytclamogkchdkgaagreatdoor", sum := "52ba935b76f2b978728897b6ac7b2cc1ce34563e7b50b69074ca4f9dd78f0561", func := "vidimus/vidimuslaw02.VecParts", spec := "vecParts", inPlace := ["internal/bytealg.IndexByteString", "internal/bytealg.IndexString", "internal/abi.NoEscape", "math/bits.Add64", "internal/bytealg.MakeNoZero"], unfollowed := true, recurses := true, named := ["unicode/utf8.first", "unicode/utf8.acceptRanges", "internal/bytealg.MaxLen"], apart := false, laid := [("unicode/utf8.acceptRanges", laid_unicode_utf8_acceptRanges), ("unicode/utf8.first", laid_unicode_utf8_first)], narrowed := true }
def VecPartsUptoSaid : Prop := vecPartsUptoRow.holds Tryz.pinned (OpenSpec.upto vecPartsSpec)

end Rows
end Go.Proofs.YtclamogkchdkgaaGreatDoor
