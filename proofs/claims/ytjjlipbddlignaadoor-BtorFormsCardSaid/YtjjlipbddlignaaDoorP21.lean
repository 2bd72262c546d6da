/- A part of the proof: MR0. -/
import Derived.Test.YtjjlipbddlignaaDoorP20
import Derived.Test.YtjjlipbddlignaaDoorRows
import Derived.Test.YtjjlipbddlignaaDoorCards
import Derived.Test.YtjjlipbddlignaaDoorTie
import Derived.Lib.LaidU8T
import Derived.ProofKit
import Derived.OpenShut
import Derived.LaidMore
import Derived.Lay
import Derived.SevenTiedAt
import Derived.Stop.Joined
set_option linter.unusedVariables false
set_option linter.unusedSimpArgs false
namespace Go.Proofs.YtjjlipbddlignaaDoor
open Go Ab Go.ChangeShapes Go.WideShapes Go.ChangeAt Go.RowKit
set_option linter.unusedVariables false
theorem own : ownKnob Tryd.prog.godebug = none := by kernel_rfl
theorem laidOut : laidOutB Tryd.prog = true := by kernel_rfl
theorem rdS : Reads Tryd.prog 9 (fun b : ByteArray => D.v (.string b)) (fun b => b.size ≤ maxLen) := reads_string Tryd.underlying9 (by kernel_rfl)
theorem rdSL : Reads Tryd.prog 9 dSL (fun l => l.length ≤ maxLen) := rdS.via (fun b => b.data.toList) (fun b h => by
  have h : b.data.size ≤ maxLen := h
  rwa [Array.length_toList]) (fun b _ => by
  show D.v (.string ⟨b.data.toList.toArray⟩) = D.v (.string b)
  rw [Array.toArray_toList]) (fun l => rdS.len ⟨l.toArray⟩)
def u8ren : Go.Shelf.Ren := ⟨fun n => n, fun | 5 => 5 | 119 => 75 | 138 => 138 | 139 => 139 | n => n, fun | 3 => gFirst | 4 => gAccept | n => n⟩
theorem u8types : U8Types Tryd.prog u8ren := ⟨by kernel_rfl, by kernel_rfl, by kernel_rfl, by kernel_rfl⟩
theorem u8extra : U8Extra Tryd.prog u8ren := ⟨by kernel_rfl, by kernel_rfl, by kernel_rfl, by kernel_rfl, by kernel_rfl, by kernel_rfl, by kernel_rfl⟩
/-- The tables of the library's packages stand as they were laid. -/
theorem glob_tb0 {laid : List (String × DataW Unit)} {W : World} {i j k s : Nat} (h0 : laid.filter (fun x => x.2.handleName?.isSome) = []) (h1 : laid[i]? = some ("unicode/utf8.first", Go.Lib.firstData)) (h2 : laid[j]? = some ("unicode/utf8.acceptRanges", Go.Lib.acceptData)) (h3 : laid[k]? = some ("internal/strconv.uint64pow10", Go.Lib.tabData .u64 Go.Lib.pow10Tab)) (h4 : laid[s]? = some ("strings.asciiSpace", Go.Lib.tabData .u8 Go.Lib.asciiSpaceTab)) (hL : laidMetH Tryd.prog laid W) : Globals.tb Tryd.prog W := by
  have hL' : laidMet Tryd.prog laid W := by
    unfold laidMetH at hL
    rw [h0] at hL
    exact hL
  have r1 := Go.Lib.laidMet.reads hL' (List.mem_of_getElem? h1)
  have r2 := Go.Lib.laidMet.reads hL' (List.mem_of_getElem? h2)
  have r3 := Go.Lib.laidMet.reads hL' (List.mem_of_getElem? h3)
  have r4 := Go.Lib.laidMet.reads hL' (List.mem_of_getElem? h4)
  refine ⟨utf8Tabs_of_readsT u8types u8extra r1 r2, ?_, ?_⟩
  · obtain ⟨g', t', cs, fuel, p, hg', ht', hvar, hd⟩ := r3
    obtain rfl := Option.some.inj (glob_pow.symm.trans hg')
    obtain rfl := Option.some.inj ((show (Tryd.prog.globals[gPow]?).map (·.type) = some 131 by kernel_rfl).symm.trans ht')
    unfold Go.Lib.TabIs
    rw [hvar, ← Go.Lib.cells_of_tab Tryd.underlying131 Tryd.underlying99 (by kernel_rfl) (by kernel_rfl) hd]
  · obtain ⟨g', t', cs, fuel, p, hg', ht', hvar, hd⟩ := r4
    obtain rfl := Option.some.inj (glob_space.symm.trans hg')
    obtain rfl := Option.some.inj ((show (Tryd.prog.globals[gSpace]?).map (·.type) = some 75 by kernel_rfl).symm.trans ht')
    unfold Go.Lib.TabIs
    rw [hvar, ← Go.Lib.cells_of_tab Tryd.underlying75 Tryd.underlying5 (by kernel_rfl) (by kernel_rfl) hd]
theorem glob_tb {W : World} (hL : laidMetH Tryd.prog [("math/bits.deBruijn32tab", Rows.laid_math_bits_deBruijn32tab), ("math/bits.deBruijn64tab", Rows.laid_math_bits_deBruijn64tab), ("internal/strconv.uint64pow10", Rows.laid_internal_strconv_uint64pow10), ("unicode/utf8.acceptRanges", Rows.laid_unicode_utf8_acceptRanges), ("unicode.White_Space", Rows.laid_unicode_White_Space), ("strings.asciiSpace", Rows.laid_strings_asciiSpace), ("unicode/utf8.first", Rows.laid_unicode_utf8_first)] W) : Globals.tb Tryd.prog W :=
  glob_tb0 (i := 6) (j := 3) (k := 2) (s := 5) (by kernel_rfl) (by kernel_rfl) (by kernel_rfl) (by kernel_rfl) (by kernel_rfl) hL
end Go.Proofs.YtjjlipbddlignaaDoor
