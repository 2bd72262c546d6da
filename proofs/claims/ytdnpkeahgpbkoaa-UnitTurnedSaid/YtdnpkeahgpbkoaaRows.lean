/-
  No cell of these rows narrows 'for every input' (looked for: loops, veiled, ifaces, maps, wideKeys, modest, calm, conditions, laid).
  DERIVED. THE GIVEN ROWS OF THIS SEAT. 7 by the template 'for every input the law returns true; each argument reads behind the call as it read before'; 0 by the template 'total and deterministic' (their statements: YtdnpkeahgpbkoaaTotals.lean).
  GIVEN WITH THE SEED: the statements are not yours to turn. If you find one false, say at which input.
  Laid BY PROGRAM, IN A SANDBOX (cutbox-rows.mjs): the forced cells as the released guide's own fill.sh prints them over the translation 2b163c22425f1cc6… (all of the seat's roots in one cut). By AI agents, Wed Nov 11 2026. No macro, syntax, notation, axiom, sorry.
-/
import Derived.Test.YtdnpkeahgpbkoaaChecked
import GoSem.Claim
import GoSem.ClaimJoined
import GoSem.ClaimMapViews
import Derived.JoinedTies
import Derived.KernelRfl
namespace Go.Proofs.Ytdnpkeahgpbkoaa
/- THE CELL 'sum', in the pinned program and in every row, IS THE sha256 OF THE DUMP (.gsa) THAT YtdnpkeahgpbkoaaProg.lean LOADS. Nothing in Lean hashes anything: it is a label: what it is worth is what the hold of that sum in a sandbox is worth. -/
noncomputable def Try.pinned : Pinned := { name := "ytdnpkeahgpbkoaa", sum := "2b163c22425f1cc6d92209115354bf2cf1210ffbb0a35a14a2e87002e92d4e76", checked := Try.checked }
namespace Rows
def none {H : Type} : Left H := { results := [], args := [] }

/-- 'vidimuslaw04.UnitTells': WHATEVER THE INPUT: true; the input reads as it did. -/
def unitTellsSpec : ChangeSpec := { name := "unitTells", fn := fun _ => fun
  | [d1, d2, d3] => { results := [.lit (.bool true)], args := [d1, d2, d3] }
  | _ => none }
def unitTellsRow : OpenClaim := { program := "ytdnpkeahgpbkoaa", sum := "2b163c22425f1cc6d92209115354bf2cf1210ffbb0a35a14a2e87002e92d4e76", func := "vidimus/vidimuslaw04.UnitTells", spec := "unitTells", unfollowed := true, recurses := true, apart := false }
def UnitTellsSaid : Prop := unitTellsRow.holds Try.pinned (OpenSpec.ofChange unitTellsSpec)

/-- ITS FALSE NEIGHBOUR: 'it returns false'. Refute it at one input. -/
def unitTellsWrong : ChangeSpec := { name := "unitTells", fn := fun _ => fun
  | [d1, d2, d3] => { results := [.lit (.bool false)], args := [d1, d2, d3] }
  | _ => none }
def UnitTellsWrongFalsely : Prop := unitTellsRow.holds Try.pinned (OpenSpec.ofChange unitTellsWrong)

/-- 'vidimuslaw04.UnitSound': WHATEVER THE INPUT: true; the input reads as it did. -/
def unitSoundSpec : ChangeSpec := { name := "unitSound", fn := fun _ => fun
  | [d] => { results := [.lit (.bool true)], args := [d] }
  | _ => none }
def unitSoundRow : OpenClaim := { program := "ytdnpkeahgpbkoaa", sum := "2b163c22425f1cc6d92209115354bf2cf1210ffbb0a35a14a2e87002e92d4e76", func := "vidimus/vidimuslaw04.UnitSound", spec := "unitSound", unfollowed := true, recurses := true, apart := false }
def UnitSoundSaid : Prop := unitSoundRow.holds Try.pinned (OpenSpec.ofChange unitSoundSpec)

/-- ITS FALSE NEIGHBOUR: 'it returns false'. Refute it at one input. -/
def unitSoundWrong : ChangeSpec := { name := "unitSound", fn := fun _ => fun
  | [d] => { results := [.lit (.bool false)], args := [d] }
  | _ => none }
def UnitSoundWrongFalsely : Prop := unitSoundRow.holds Try.pinned (OpenSpec.ofChange unitSoundWrong)

/-- 'vidimuslaw04.UnitMore': WHATEVER THE INPUT: true; the input reads as it did. -/
def unitMoreSpec : ChangeSpec := { name := "unitMore", fn := fun _ => fun
  | [d] => { results := [.lit (.bool true)], args := [d] }
  | _ => none }
def unitMoreRow : OpenClaim := { program := "ytdnpkeahgpbkoaa", sum := "2b163c22425f1cc6d92209115354bf2cf1210ffbb0a35a14a2e87002e92d4e76", func := "vidimus/vidimuslaw04.UnitMore", spec := "unitMore", unfollowed := true, recurses := true, apart := false }
def UnitMoreSaid : Prop := unitMoreRow.holds Try.pinned (OpenSpec.ofChange unitMoreSpec)

/-- ITS FALSE NEIGHBOUR: 'it returns false'. Refute it at one input. -/
def unitMoreWrong : ChangeSpec := { name := "unitMore", fn := fun _ => fun
  | [d] => { results := [.lit (.bool false)], args := [d] }
  | _ => none }
def UnitMoreWrongFalsely : Prop := unitMoreRow.holds Try.pinned (OpenSpec.ofChange unitMoreWrong)

/-- 'vidimuslaw04.UnitTurned': WHATEVER THE INPUT: true; the input reads as it did. -/
def unitTurnedSpec : ChangeSpec := { name := "unitTurned", fn := fun _ => fun
  | [d] => { results := [.lit (.bool true)], args := [d] }
  | _ => none }
def unitTurnedRow : OpenClaim := { program := "ytdnpkeahgpbkoaa", sum := "2b163c22425f1cc6d92209115354bf2cf1210ffbb0a35a14a2e87002e92d4e76", func := "vidimus/vidimuslaw04.UnitTurned", spec := "unitTurned", unfollowed := true, recurses := true, apart := false }
def UnitTurnedSaid : Prop := unitTurnedRow.holds Try.pinned (OpenSpec.ofChange unitTurnedSpec)

/-- ITS FALSE NEIGHBOUR: 'it returns false'. Refute it at one input. -/
def unitTurnedWrong : ChangeSpec := { name := "unitTurned", fn := fun _ => fun
  | [d] => { results := [.lit (.bool false)], args := [d] }
  | _ => none }
def UnitTurnedWrongFalsely : Prop := unitTurnedRow.holds Try.pinned (OpenSpec.ofChange unitTurnedWrong)

/-- 'vidimuslaw04.UnitForced': WHATEVER THE INPUT: true; the input reads as it did. -/
def unitForcedSpec : ChangeSpec := { name := "unitForced", fn := fun _ => fun
  | [d1, d2, d3] => { results := [.lit (.bool true)], args := [d1, d2, d3] }
  | _ => none }
def unitForcedRow : OpenClaim := { program := "ytdnpkeahgpbkoaa", sum := "2b163c22425f1cc6d92209115354bf2cf1210ffbb0a35a14a2e87002e92d4e76", func := "vidimus/vidimuslaw04.UnitForced", spec := "unitForced", unfollowed := true, recurses := true, apart := false }
def UnitForcedSaid : Prop := unitForcedRow.holds Try.pinned (OpenSpec.ofChange unitForcedSpec)

/-- ITS FALSE NEIGHBOUR: 'it returns false'. Refute it at one input. -/
def unitForcedWrong : ChangeSpec := { name := "unitForced", fn := fun _ => fun
  | [d1, d2, d3] => { results := [.lit (.bool false)], args := [d1, d2, d3] }
  | _ => none }
def UnitForcedWrongFalsely : Prop := unitForcedRow.holds Try.pinned (OpenSpec.ofChange unitForcedWrong)

/-- 'vidimuslaw04.UnitRefutes': WHATEVER THE INPUT: true; the input reads as it did. -/
def unitRefutesSpec : ChangeSpec := { name := "unitRefutes", fn := fun _ => fun
  | [d] => { results := [.lit (.bool true)], args := [d] }
  | _ => none }
def unitRefutesRow : OpenClaim := { program := "ytdnpkeahgpbkoaa", sum := "2b163c22425f1cc6d92209115354bf2cf1210ffbb0a35a14a2e87002e92d4e76", func := "vidimus/vidimuslaw04.UnitRefutes", spec := "unitRefutes", unfollowed := true, recurses := true, apart := false }
def UnitRefutesSaid : Prop := unitRefutesRow.holds Try.pinned (OpenSpec.ofChange unitRefutesSpec)

/-- ITS FALSE NEIGHBOUR: 'it returns false'. Refute it at one input. -/
def unitRefutesWrong : ChangeSpec := { name := "unitRefutes", fn := fun _ => fun
  | [d] => { results := [.lit (.bool false)], args := [d] }
  | _ => none }
def UnitRefutesWrongFalsely : Prop := unitRefutesRow.holds Try.pinned (OpenSpec.ofChange unitRefutesWrong)

/-- 'vidimuslaw04.UnitSorts': WHATEVER THE INPUT: true; the input reads as it did. -/
def unitSortsSpec : ChangeSpec := { name := "unitSorts", fn := fun _ => fun
  | [d1, d2] => { results := [.lit (.bool true)], args := [d1, d2] }
  | _ => none }
def unitSortsRow : OpenClaim := { program := "ytdnpkeahgpbkoaa", sum := "2b163c22425f1cc6d92209115354bf2cf1210ffbb0a35a14a2e87002e92d4e76", func := "vidimus/vidimuslaw04.UnitSorts", spec := "unitSorts", unfollowed := true, recurses := true, apart := false }
def UnitSortsSaid : Prop := unitSortsRow.holds Try.pinned (OpenSpec.ofChange unitSortsSpec)

/-- ITS FALSE NEIGHBOUR: 'it returns false'. Refute it at one input. -/
def unitSortsWrong : ChangeSpec := { name := "unitSorts", fn := fun _ => fun
  | [d1, d2] => { results := [.lit (.bool false)], args := [d1, d2] }
  | _ => none }
def UnitSortsWrongFalsely : Prop := unitSortsRow.holds Try.pinned (OpenSpec.ofChange unitSortsWrong)

/- THE SECOND FORM. 'bulk': how many values and letters a reading holds, each counted each time it is reached (what is shared counts as often as it is met; a slice's spare places count too). A statement '..UptoSaid' is the law's where the arguments, and the package variables that the reading takes, are together of bulk at most 1048576: NARROWER than '..Said'. Prove '..Said' where nothing that the law and all that it calls make is longer than what came in: it says more and counts as full. Else prove '..UptoSaid'. A law counts once. -/
mutual
def uptoBulk {H : Type} : DataW H → Nat
  | .lit (.string bytes) => bytes.length + 1
  | .lit _ => 1
  | .nil => 1
  | .ptr d => uptoBulk d + 1
  | .slice elems spare => uptoBulkAll elems + uptoBulkAll spare + 1
  | .agg parts => uptoBulkAll parts + 1
  | .iface _ d => uptoBulk d + 1
  | .map entries => uptoBulkEntries entries + 1
  | .held _ => 1
def uptoBulkAll {H : Type} : List (DataW H) → Nat
  | [] => 0
  | d :: r => uptoBulk d + uptoBulkAll r
def uptoBulkEntries {H : Type} : List (Lit × DataW H) → Nat
  | [] => 0
  | x :: r => uptoBulkEntry x + uptoBulkEntries r
def uptoBulkEntry {H : Type} : Lit × DataW H → Nat
  | (.string bytes, d) => bytes.length + uptoBulk d + 1
  | (_, d) => uptoBulk d + 1
 end
def uptoSmall : (H : Type) → List (DataW H) → Bool := fun _ ds => decide (uptoBulkAll ds ≤ 1048576)
def OpenSpec.upto (s : _root_.Go.ChangeSpec) : _root_.Go.OpenSpec := { _root_.Go.OpenSpec.ofChange s with cond := some uptoSmall }

/-- 'vidimuslaw04.UnitTells', WHERE WHAT IT READS IS OF BULK AT MOST 1048576: true; the input reads as it did. -/
def unitTellsUptoRow : OpenClaim := { program := "ytdnpkeahgpbkoaa", sum := "2b163c22425f1cc6d92209115354bf2cf1210ffbb0a35a14a2e87002e92d4e76", func := "vidimus/vidimuslaw04.UnitTells", spec := "unitTells", unfollowed := true, recurses := true, apart := false, narrowed := true }
def UnitTellsUptoSaid : Prop := unitTellsUptoRow.holds Try.pinned (OpenSpec.upto unitTellsSpec)

/-- 'vidimuslaw04.UnitSound', WHERE WHAT IT READS IS OF BULK AT MOST 1048576: true; the input reads as it did. -/
def unitSoundUptoRow : OpenClaim := { program := "ytdnpkeahgpbkoaa", sum := "2b163c22425f1cc6d92209115354bf2cf1210ffbb0a35a14a2e87002e92d4e76", func := "vidimus/vidimuslaw04.UnitSound", spec := "unitSound", unfollowed := true, recurses := true, apart := false, narrowed := true }
def UnitSoundUptoSaid : Prop := unitSoundUptoRow.holds Try.pinned (OpenSpec.upto unitSoundSpec)

/-- 'vidimuslaw04.UnitMore', WHERE WHAT IT READS IS OF BULK AT MOST 1048576: true; the input reads as it did. -/
def unitMoreUptoRow : OpenClaim := { program := "ytdnpkeahgpbkoaa", sum := "2b163c22425f1cc6d92209115354bf2cf1210ffbb0a35a14a2e87002e92d4e76", func := "vidimus/vidimuslaw04.UnitMore", spec := "unitMore", unfollowed := true, recurses := true, apart := false, narrowed := true }
def UnitMoreUptoSaid : Prop := unitMoreUptoRow.holds Try.pinned (OpenSpec.upto unitMoreSpec)

/-- 'vidimuslaw04.UnitTurned', WHERE WHAT IT READS IS OF BULK AT MOST 1048576: true; the input reads as it did. -/
def unitTurnedUptoRow : OpenClaim := { program := "ytdnpkeahgpbkoaa", sum := "2b163c22425f1cc6d92209115354bf2cf1210ffbb0a35a14a2e87002e92d4e76", func := "vidimus/vidimuslaw04.UnitTurned", spec := "unitTurned", unfollowed := true, recurses := true, apart := false, narrowed := true }
def UnitTurnedUptoSaid : Prop := unitTurnedUptoRow.holds Try.pinned (OpenSpec.upto unitTurnedSpec)

/-- 'vidimuslaw04.UnitForced', WHERE WHAT IT READS IS OF BULK AT MOST 1048576: true; the input reads as it did. -/
def unitForcedUptoRow : OpenClaim := { program := "ytdnpkeahgpbkoaa", sum := "2b163c22425f1cc6d92209115354bf2cf1210ffbb0a35a14a2e87002e92d4e76", func := "vidimus/vidimuslaw04.UnitForced", spec := "unitForced", unfollowed := true, recurses := true, apart := false, narrowed := true }
def UnitForcedUptoSaid : Prop := unitForcedUptoRow.holds Try.pinned (OpenSpec.upto unitForcedSpec)

/-- 'vidimuslaw04.UnitRefutes', WHERE WHAT IT READS IS OF BULK AT MOST 1048576: true; the input reads as it did. -/
def unitRefutesUptoRow : OpenClaim := { program := "ytdnpkeahgpbkoaa", sum := "2b163c22425f1cc6d92209115354bf2cf1210ffbb0a35a14a2e87002e92d4e76", func := "vidimus/vidimuslaw04.UnitRefutes", spec := "unitRefutes", unfollowed := true, recurses := true, apart := false, narrowed := true }
def UnitRefutesUptoSaid : Prop := unitRefutesUptoRow.holds Try.pinned (OpenSpec.upto unitRefutesSpec)

/-- 'vidimuslaw04.UnitSorts', WHERE WHAT IT READS IS OF BULK AT MOST 1048576: true; the input reads as it did. -/
def unitSortsUptoRow : OpenClaim := { program := "ytdnpkeahgpbkoaa", sum := "2b163c22425f1cc6d92209115354bf2cf1210ffbb0a35a14a2e87002e92d4e76", func := "vidimus/vidimuslaw04.UnitSorts", spec := "unitSorts", unfollowed := true, recurses := true, apart := false, narrowed := true }
def UnitSortsUptoSaid : Prop := unitSortsUptoRow.holds Try.pinned (OpenSpec.upto unitSortsSpec)

end Rows
end Go.Proofs.Ytdnpkeahgpbkoaa
