/-
  NARROWER THAN 'FOR EVERY INPUT', by the rows' own cells (each row's printed sentence says how): WordTells: laid · WordWide: laid · WordRuns: laid · WordStays: laid · WordOps: laid · WordMore: laid.
  DERIVED. THE GIVEN ROWS OF THIS SEAT. 6 by the template 'for every input the law returns true; each argument reads behind the call as it read before'; 0 by the template 'total and deterministic' (their statements: YtcenfhcemmlaeaaGreatDoorTotals.lean).
  GIVEN WITH THE SEED: the statements are not yours to turn. If you find one false, say at which input.
  Laid BY PROGRAM, IN A SANDBOX (cutbox-rows.mjs): the forced cells as the released guide's own fill.sh prints them over the translation 369d5cdbeaca4bff… (all of the seat's roots in one cut). By AI agents, Wed Nov 11 2026. No macro, syntax, notation, axiom, sorry.
-/
import Derived.Test.YtcenfhcemmlaeaaGreatDoorChecked
import GoSem.PinnedTables
import GoSem.Claim
import GoSem.ClaimJoined
import GoSem.ClaimMapViews
import Derived.JoinedTies
import Derived.KernelRfl
namespace Go.Proofs.YtcenfhcemmlaeaaGreatDoor
/- THE CELL 'sum', in the pinned program and in every row, IS THE sha256 OF THE DUMP (.gsa) THAT YtcenfhcemmlaeaaGreatDoorProg.lean LOADS. Nothing in Lean hashes anything: it is a label: what it is worth is what the hold of that sum in a sandbox is worth. -/
noncomputable def Tryz.pinned : Pinned := { name := "ytcenfhcemmlaeaagreatdoor", sum := "369d5cdbeaca4bffea65bae1a88cde5a8778ba03f1d2733aab27eaa68e8c1989", checked := Tryz.checked }
namespace Rows
def none {H : Type} : Left H := { results := [], args := [] }

/- WHAT THE LISTED PACKAGE-LEVEL VARIABLES READ AS WHEN THE CALL BEGINS. Each datum BY PROGRAM (the guide's laid-datum.mjs) off the statement by which the dump's own 'gosem.cut.vars' lays the variable. In a bare row this is a premise. The card (YtcenfhcemmlaeaaGreatDoorCards.lean) ties it to the program's text. -/
def laid_unicode_utf8_acceptRanges {H : Type} : DataW H := .agg [.agg [.lit (.int .u8 128), .lit (.int .u8 191)], .agg [.lit (.int .u8 160), .lit (.int .u8 191)], .agg [.lit (.int .u8 128), .lit (.int .u8 159)], .agg [.lit (.int .u8 144), .lit (.int .u8 191)], .agg [.lit (.int .u8 128), .lit (.int .u8 143)], .agg [.lit (.int .u8 0), .lit (.int .u8 0)], .agg [.lit (.int .u8 0), .lit (.int .u8 0)], .agg [.lit (.int .u8 0), .lit (.int .u8 0)], .agg [.lit (.int .u8 0), .lit (.int .u8 0)], .agg [.lit (.int .u8 0), .lit (.int .u8 0)], .agg [.lit (.int .u8 0), .lit (.int .u8 0)], .agg [.lit (.int .u8 0), .lit (.int .u8 0)], .agg [.lit (.int .u8 0), .lit (.int .u8 0)], .agg [.lit (.int .u8 0), .lit (.int .u8 0)], .agg [.lit (.int .u8 0), .lit (.int .u8 0)], .agg [.lit (.int .u8 0), .lit (.int .u8 0)]]
/-- One of Go's own tables, pinned by name: the form's constant. -/
def laid_unicode_utf8_first : DataW Unit := Go.Pinned.utf8First

/-- 'vidimuslaw15.WordTells': WHATEVER THE INPUT: true; the input reads as it did. -/
def wordTellsSpec : ChangeSpec := { name := "wordTells", fn := fun _ => fun
  | [d1, d2, d3] => { results := [.lit (.bool true)], args := [d1, d2, d3] }
  | _ => none }
def wordTellsRow : OpenClaim := { program := "ytcenfhcemmlaeaagreatdoor", sum := "369d5cdbeaca4bffea65bae1a88cde5a8778ba03f1d2733aab27eaa68e8c1989", func := "vidimus/vidimuslaw15.WordTells", spec := "wordTells", inPlace := ["internal/bytealg.IndexByteString", "internal/bytealg.IndexString"], unfollowed := true, recurses := true, named := ["unicode/utf8.first", "unicode/utf8.acceptRanges", "internal/bytealg.MaxLen"], apart := false, laid := [("unicode/utf8.acceptRanges", laid_unicode_utf8_acceptRanges), ("unicode/utf8.first", laid_unicode_utf8_first)] }
def WordTellsSaid : Prop := wordTellsRow.holds Tryz.pinned (OpenSpec.ofChange wordTellsSpec)

/-- ITS FALSE NEIGHBOUR: 'it returns false'. Refute it at one input. -/
def wordTellsWrong : ChangeSpec := { name := "wordTells", fn := fun _ => fun
  | [d1, d2, d3] => { results := [.lit (.bool false)], args := [d1, d2, d3] }
  | _ => none }
def WordTellsWrongFalsely : Prop := wordTellsRow.holds Tryz.pinned (OpenSpec.ofChange wordTellsWrong)

/-- 'vidimuslaw15.WordWide': WHATEVER THE INPUT: true; the input reads as it did. -/
def wordWideSpec : ChangeSpec := { name := "wordWide", fn := fun _ => fun
  | [d1, d2, d3] => { results := [.lit (.bool true)], args := [d1, d2, d3] }
  | _ => none }
def wordWideRow : OpenClaim := { program := "ytcenfhcemmlaeaagreatdoor", sum := "369d5cdbeaca4bffea65bae1a88cde5a8778ba03f1d2733aab27eaa68e8c1989", func := "vidimus/vidimuslaw15.WordWide", spec := "wordWide", inPlace := ["internal/bytealg.IndexByteString", "internal/bytealg.IndexString"], unfollowed := true, recurses := true, named := ["unicode/utf8.first", "unicode/utf8.acceptRanges", "internal/bytealg.MaxLen"], apart := false, laid := [("unicode/utf8.acceptRanges", laid_unicode_utf8_acceptRanges), ("unicode/utf8.first", laid_unicode_utf8_first)] }
def WordWideSaid : Prop := wordWideRow.holds Tryz.pinned (OpenSpec.ofChange wordWideSpec)

/-- ITS FALSE NEIGHBOUR: 'it returns false'. Refute it at one input. -/
def wordWideWrong : ChangeSpec := { name := "wordWide", fn := fun _ => fun
  | [d1, d2, d3] => { results := [.lit (.bool false)], args := [d1, d2, d3] }
  | _ => none }
def WordWideWrongFalsely : Prop := wordWideRow.holds Tryz.pinned (OpenSpec.ofChange wordWideWrong)

/-- 'vidimuslaw15.WordRuns': WHATEVER THE INPUT: true; the input reads as it did. -/
def wordRunsSpec : ChangeSpec := { name := "wordRuns", fn := fun _ => fun
  | [d] => { results := [.lit (.bool true)], args := [d] }
  | _ => none }
def wordRunsRow : OpenClaim := { program := "ytcenfhcemmlaeaagreatdoor", sum := "369d5cdbeaca4bffea65bae1a88cde5a8778ba03f1d2733aab27eaa68e8c1989", func := "vidimus/vidimuslaw15.WordRuns", spec := "wordRuns", inPlace := ["internal/bytealg.IndexByteString", "internal/bytealg.IndexString"], unfollowed := true, recurses := true, named := ["unicode/utf8.first", "unicode/utf8.acceptRanges", "internal/bytealg.MaxLen"], apart := false, laid := [("unicode/utf8.acceptRanges", laid_unicode_utf8_acceptRanges), ("unicode/utf8.first", laid_unicode_utf8_first)] }
def WordRunsSaid : Prop := wordRunsRow.holds Tryz.pinned (OpenSpec.ofChange wordRunsSpec)

/-- ITS FALSE NEIGHBOUR: 'it returns false'. Refute it at one input. -/
def wordRunsWrong : ChangeSpec := { name := "wordRuns", fn := fun _ => fun
  | [d] => { results := [.lit (.bool false)], args := [d] }
  | _ => none }
def WordRunsWrongFalsely : Prop := wordRunsRow.holds Tryz.pinned (OpenSpec.ofChange wordRunsWrong)

/-- 'vidimuslaw15.WordStays': WHATEVER THE INPUT: true; the input reads as it did. -/
def wordStaysSpec : ChangeSpec := { name := "wordStays", fn := fun _ => fun
  | [d1, d2, d3] => { results := [.lit (.bool true)], args := [d1, d2, d3] }
  | _ => none }
def wordStaysRow : OpenClaim := { program := "ytcenfhcemmlaeaagreatdoor", sum := "369d5cdbeaca4bffea65bae1a88cde5a8778ba03f1d2733aab27eaa68e8c1989", func := "vidimus/vidimuslaw15.WordStays", spec := "wordStays", inPlace := ["internal/bytealg.IndexByteString", "internal/bytealg.IndexString"], unfollowed := true, recurses := true, named := ["unicode/utf8.first", "unicode/utf8.acceptRanges", "internal/bytealg.MaxLen"], apart := false, laid := [("unicode/utf8.acceptRanges", laid_unicode_utf8_acceptRanges), ("unicode/utf8.first", laid_unicode_utf8_first)] }
def WordStaysSaid : Prop := wordStaysRow.holds Tryz.pinned (OpenSpec.ofChange wordStaysSpec)

/-- ITS FALSE NEIGHBOUR: 'it returns false'. Refute it at one input. -/
def wordStaysWrong : ChangeSpec := { name := "wordStays", fn := fun _ => fun
  | [d1, d2, d3] => { results := [.lit (.bool false)], args := [d1, d2, d3] }
  | _ => none }
def WordStaysWrongFalsely : Prop := wordStaysRow.holds Tryz.pinned (OpenSpec.ofChange wordStaysWrong)

/-- 'vidimuslaw15.WordOps': WHATEVER THE INPUT: true; the input reads as it did. -/
def wordOpsSpec : ChangeSpec := { name := "wordOps", fn := fun _ => fun
  | [d1, d2, d3] => { results := [.lit (.bool true)], args := [d1, d2, d3] }
  | _ => none }
def wordOpsRow : OpenClaim := { program := "ytcenfhcemmlaeaagreatdoor", sum := "369d5cdbeaca4bffea65bae1a88cde5a8778ba03f1d2733aab27eaa68e8c1989", func := "vidimus/vidimuslaw15.WordOps", spec := "wordOps", inPlace := ["internal/bytealg.IndexByteString", "internal/bytealg.IndexString"], unfollowed := true, recurses := true, named := ["unicode/utf8.first", "unicode/utf8.acceptRanges", "internal/bytealg.MaxLen"], apart := false, laid := [("unicode/utf8.acceptRanges", laid_unicode_utf8_acceptRanges), ("unicode/utf8.first", laid_unicode_utf8_first)] }
def WordOpsSaid : Prop := wordOpsRow.holds Tryz.pinned (OpenSpec.ofChange wordOpsSpec)

/-- ITS FALSE NEIGHBOUR: 'it returns false'. Refute it at one input. -/
def wordOpsWrong : ChangeSpec := { name := "wordOps", fn := fun _ => fun
  | [d1, d2, d3] => { results := [.lit (.bool false)], args := [d1, d2, d3] }
  | _ => none }
def WordOpsWrongFalsely : Prop := wordOpsRow.holds Tryz.pinned (OpenSpec.ofChange wordOpsWrong)

/-- 'vidimuslaw15.WordMore': WHATEVER THE INPUT: true; the input reads as it did. -/
def wordMoreSpec : ChangeSpec := { name := "wordMore", fn := fun _ => fun
  | [d] => { results := [.lit (.bool true)], args := [d] }
  | _ => none }
def wordMoreRow : OpenClaim := { program := "ytcenfhcemmlaeaagreatdoor", sum := "369d5cdbeaca4bffea65bae1a88cde5a8778ba03f1d2733aab27eaa68e8c1989", func := "vidimus/vidimuslaw15.WordMore", spec := "wordMore", inPlace := ["internal/bytealg.IndexByteString", "internal/bytealg.IndexString"], unfollowed := true, recurses := true, named := ["unicode/utf8.first", "unicode/utf8.acceptRanges", "internal/bytealg.MaxLen"], apart := false, laid := [("unicode/utf8.acceptRanges", laid_unicode_utf8_acceptRanges), ("unicode/utf8.first", laid_unicode_utf8_first)] }
def WordMoreSaid : Prop := wordMoreRow.holds Tryz.pinned (OpenSpec.ofChange wordMoreSpec)

/-- ITS FALSE NEIGHBOUR: 'it returns false'. Refute it at one input. -/
def wordMoreWrong : ChangeSpec := { name := "wordMore", fn := fun _ => fun
  | [d] => { results := [.lit (.bool false)], args := [d] }
  | _ => none }
def WordMoreWrongFalsely : Prop := wordMoreRow.holds Tryz.pinned (OpenSpec.ofChange wordMoreWrong)

/- THE SECOND FORM. 'bulk': how many values and letters a reading holds, each counted each time it is reached (what is shared counts as often as it is met; a slice's spare places count too). A statement '..UptoSaid' is the law's where the arguments, and the package variables that the reading takes, are together of bulk at most 1048576: NARROWER than '..Said'. Prove '..Said' where nothing that the law and all that it calls make is longer than what came in: it says more and counts as full. Else prove '..UptoSaid'. A law counts once. -/
mutual
def uptoBulk {H : Type} : DataW H → Nat
  | .lit (.string bytes) => bytes.length + 1
  | .lit _ => 1
  | .nil => 1
  | .ptr d => uptoBulk d + 1
  | .slice elems spare => uptoBulkAll elems + uptoBulkAll spare + 1
  | .agg parts => uptoBulkAll parts + 1
  | .iface _ d => uptoBulk d + 1
  | .map entries => uptoBulkEntries entries + 1
  | .held _ => 1
def uptoBulkAll {H : Type} : List (DataW H) → Nat
  | [] => 0
  | d :: r => uptoBulk d + uptoBulkAll r
def uptoBulkEntries {H : Type} : List (Lit × DataW H) → Nat
  | [] => 0
  | x :: r => uptoBulkEntry x + uptoBulkEntries r
def uptoBulkEntry {H : Type} : Lit × DataW H → Nat
  | (.string bytes, d) => bytes.length + uptoBulk d + 1
  | (_, d) => uptoBulk d + 1
 end
def uptoSmall : (H : Type) → List (DataW H) → Bool := fun _ ds => decide (uptoBulkAll ds ≤ 1048576)
def OpenSpec.upto (s : _root_.Go.ChangeSpec) : _root_.Go.OpenSpec := { _root_.Go.OpenSpec.ofChange s with cond := some uptoSmall }

/-- 'vidimuslaw15.WordTells', WHERE WHAT IT READS IS OF BULK AT MOST 1048576: true; the input reads as it did. -/
def wordTellsUptoRow : OpenClaim := { program := "ytcenfhcemmlaeaagreatdoor", sum := "369d5cdbeaca4bffea65bae1a88cde5a8778ba03f1d2733aab27eaa68e8c1989", func := "vidimus/vidimuslaw15.WordTells", spec := "wordTells", inPlace := ["internal/bytealg.IndexByteString", "internal/bytealg.IndexString"], unfollowed := true, recurses := true, named := ["unicode/utf8.first", "unicode/utf8.acceptRanges", "internal/bytealg.MaxLen"], apart := false, laid := [("unicode/utf8.acceptRanges", laid_unicode_utf8_acceptRanges), ("unicode/utf8.first", laid_unicode_utf8_first)], narrowed := true }
def WordTellsUptoSaid : Prop := wordTellsUptoRow.holds Tryz.pinned (OpenSpec.upto wordTellsSpec)

/-- 'vidimuslaw15.WordWide', WHERE WHAT IT READS IS OF BULK AT MOST 1048576: true; the input reads as it did. -/
def wordWideUptoRow : OpenClaim := { program := "ytcenfhcemmlaeaagreatdoor", sum := "369d5cdbeaca4bffea65bae1a88cde5a8778ba03f1d2733aab27eaa68e8c1989", func := "vidimus/vidimuslaw15.WordWide", spec := "wordWide", inPlace := ["internal/bytealg.IndexByteString", "internal/bytealg.IndexString"], unfollowed := true, recurses := true, named := ["unicode/utf8.first", "unicode/utf8.acceptRanges", "internal/bytealg.MaxLen"], apart := false, laid := [("unicode/utf8.acceptRanges", laid_unicode_utf8_acceptRanges), ("unicode/utf8.first", laid_unicode_utf8_first)], narrowed := true }
def WordWideUptoSaid : Prop := wordWideUptoRow.holds Tryz.pinned (OpenSpec.upto wordWideSpec)

/-- 'vidimuslaw15.WordRuns', WHERE WHAT IT READS IS OF BULK AT MOST 1048576: true; the input reads as it did. -/
def wordRunsUptoRow : OpenClaim := { program := "ytcenfhcemmlaeaagreatdoor", sum := "369d5cdbeaca4bffea65bae1a88cde5a8778ba03f1d2733aab27eaa68e8c1989", func := "vidimus/vidimuslaw15.WordRuns", spec := "wordRuns", inPlace := ["internal/bytealg.IndexByteString", "internal/bytealg.IndexString"], unfollowed := true, recurses := true, named := ["unicode/utf8.first", "unicode/utf8.acceptRanges", "internal/bytealg.MaxLen"], apart := false, laid := [("unicode/utf8.acceptRanges", laid_unicode_utf8_acceptRanges), ("unicode/utf8.first", laid_unicode_utf8_first)], narrowed := true }
def WordRunsUptoSaid : Prop := wordRunsUptoRow.holds Tryz.pinned (OpenSpec.upto wordRunsSpec)

/-- 'vidimuslaw15.WordStays', WHERE WHAT IT READS IS OF BULK AT MOST 1048576: true; the input reads as it did. -/
def wordStaysUptoRow : OpenClaim := { program := "ytcenfhcemmlaeaagreatdoor", sum := "369d5cdbeaca4bffea65bae1a88cde5a8778ba03f1d2733aab27eaa68e8c1989", func := "vidimus/vidimuslaw15.WordStays", spec := "wordStays", inPlace := ["internal/bytealg.IndexByteString", "internal/bytealg.IndexString"], unfollowed := true, recurses := true, named := ["unicode/utf8.first", "unicode/utf8.acceptRanges", "internal/bytealg.MaxLen"], apart := false, laid := [("unicode/utf8.acceptRanges", laid_unicode_utf8_acceptRanges), ("unicode/utf8.first", laid_unicode_utf8_first)], narrowed := true }
def WordStaysUptoSaid : Prop := wordStaysUptoRow.holds Tryz.pinned (OpenSpec.upto wordStaysSpec)

/-- 'vidimuslaw15.WordOps', WHERE WHAT IT READS IS OF BULK AT MOST 1048576: true; the input reads as it did. -/
def wordOpsUptoRow : OpenClaim := { program := "ytcenfhcemmlaeaagreatdoor", sum := "369d5cdbeaca4bffea65bae1a88cde5a8778ba03f1d2733aab27eaa68e8c1989", func := "vidimus/vidimuslaw15.WordOps", spec := "wordOps", inPlace := ["internal/bytealg.IndexByteString", "internal/bytealg.IndexString"], unfollowed := true, recurses := true, named := ["unicode/utf8.first", "unicode/utf8.acceptRanges", "internal/bytealg.MaxLen"], apart := false, laid := [("unicode/utf8.acceptRanges", laid_unicode_utf8_acceptRanges), ("unicode/utf8.first", laid_unicode_utf8_first)], narrowed := true }
def WordOpsUptoSaid : Prop := wordOpsUptoRow.holds Tryz.pinned (OpenSpec.upto wordOpsSpec)

/-- 'vidimuslaw15.WordMore', WHERE WHAT IT READS IS OF BULK AT MOST 1048576: true; the input reads as it did. -/
def wordMoreUptoRow : OpenClaim := { program := "ytcenfhcemmlaeaagreatdoor", sum := "369d5cdbeaca4bffea65bae1a88cde5a8778ba03f1d2733aab27eaa68e8c1989", func := "vidimus/vidimuslaw15.WordMore", spec := "wordMore", inPlace := ["internal/bytealg.IndexByteString", "internal/bytealg.IndexString"], unfollowed := true, recurses := true, named := ["unicode/utf8.first", "unicode/utf8.acceptRanges", "internal/bytealg.MaxLen"], apart := false, laid := [("unicode/utf8.acceptRanges", laid_unicode_utf8_acceptRanges), ("unicode/utf8.first", laid_unicode_utf8_first)], narrowed := true }
def WordMoreUptoSaid : Prop := wordMoreUptoRow.holds Tryz.pinned (OpenSpec.upto wordMoreSpec)

end Rows
end Go.Proofs.YtcenfhcemmlaeaaGreatDoor
