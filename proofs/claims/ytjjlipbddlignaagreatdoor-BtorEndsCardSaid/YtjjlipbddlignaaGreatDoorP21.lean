/- A part of the proof: MR0, MR0b, MR0e. -/
import Derived.Test.YtjjlipbddlignaaGreatDoorP20
import Derived.Test.YtjjlipbddlignaaGreatDoorRows
import Derived.Test.YtjjlipbddlignaaGreatDoorCards
import Derived.Test.YtjjlipbddlignaaGreatDoorTie
import Derived.Lib.LaidU8T
import Derived.ProofKit
import Derived.OpenShut
import Derived.LaidMore
import Derived.Lay
import Derived.SevenTiedAt
import Derived.Stop.Joined
set_option linter.unusedVariables false
set_option linter.unusedSimpArgs false
namespace Go.Proofs.YtjjlipbddlignaaGreatDoor
open Go Ab Go.ChangeShapes Go.WideShapes Go.ChangeAt Go.RowKit
set_option linter.unusedVariables false
theorem own : ownKnob Tryz.prog.godebug = none := by kernel_rfl
theorem laidOut : laidOutB Tryz.prog = true := by kernel_rfl
theorem rdS : Reads Tryz.prog 9 (fun b : ByteArray => D.v (.string b)) (fun b => b.size ≤ maxLen) := reads_string Tryz.underlying9 (by kernel_rfl)
theorem rdSL : Reads Tryz.prog 9 dSL (fun l => l.length ≤ maxLen) := rdS.via (fun b => b.data.toList) (fun b h => by
  have h : b.data.size ≤ maxLen := h
  rwa [Array.length_toList]) (fun b _ => by
  show D.v (.string ⟨b.data.toList.toArray⟩) = D.v (.string b)
  rw [Array.toArray_toList]) (fun l => rdS.len ⟨l.toArray⟩)
def u8ren : Go.Shelf.Ren := ⟨fun n => n, fun | 5 => 5 | 119 => 89 | 138 => 147 | 139 => 148 | n => n, fun | 3 => gFirst | 4 => gAccept | n => n⟩
theorem u8types : U8Types Tryz.prog u8ren := ⟨by kernel_rfl, by kernel_rfl, by kernel_rfl, by kernel_rfl⟩
theorem u8extra : U8Extra Tryz.prog u8ren := ⟨by kernel_rfl, by kernel_rfl, by kernel_rfl, by kernel_rfl, by kernel_rfl, by kernel_rfl, by kernel_rfl⟩
/-- The tables of the library's packages stand as they were laid. -/
theorem glob_tb0 {laid : List (String × DataW Unit)} {W : World} {i j k s : Nat} (h0 : laid.filter (fun x => x.2.handleName?.isSome) = []) (h1 : laid[i]? = some ("unicode/utf8.first", Go.Lib.firstData)) (h2 : laid[j]? = some ("unicode/utf8.acceptRanges", Go.Lib.acceptData)) (h3 : laid[k]? = some ("internal/strconv.uint64pow10", Go.Lib.tabData .u64 Go.Lib.pow10Tab)) (h4 : laid[s]? = some ("strings.asciiSpace", Go.Lib.tabData .u8 Go.Lib.asciiSpaceTab)) (hL : laidMetH Tryz.prog laid W) : Globals.tb Tryz.prog W := by
  have hL' : laidMet Tryz.prog laid W := by
    unfold laidMetH at hL
    rw [h0] at hL
    exact hL
  have r1 := Go.Lib.laidMet.reads hL' (List.mem_of_getElem? h1)
  have r2 := Go.Lib.laidMet.reads hL' (List.mem_of_getElem? h2)
  have r3 := Go.Lib.laidMet.reads hL' (List.mem_of_getElem? h3)
  have r4 := Go.Lib.laidMet.reads hL' (List.mem_of_getElem? h4)
  refine ⟨utf8Tabs_of_readsT u8types u8extra r1 r2, ?_, ?_⟩
  · obtain ⟨g', t', cs, fuel, p, hg', ht', hvar, hd⟩ := r3
    obtain rfl := Option.some.inj (glob_pow.symm.trans hg')
    obtain rfl := Option.some.inj ((show (Tryz.prog.globals[gPow]?).map (·.type) = some 131 by kernel_rfl).symm.trans ht')
    unfold Go.Lib.TabIs
    rw [hvar, ← Go.Lib.cells_of_tab Tryz.underlying131 Tryz.underlying104 (by kernel_rfl) (by kernel_rfl) hd]
  · obtain ⟨g', t', cs, fuel, p, hg', ht', hvar, hd⟩ := r4
    obtain rfl := Option.some.inj (glob_space.symm.trans hg')
    obtain rfl := Option.some.inj ((show (Tryz.prog.globals[gSpace]?).map (·.type) = some 89 by kernel_rfl).symm.trans ht')
    unfold Go.Lib.TabIs
    rw [hvar, ← Go.Lib.cells_of_tab Tryz.underlying89 Tryz.underlying5 (by kernel_rfl) (by kernel_rfl) hd]
theorem glob_tb {W : World} (hL : laidMetH Tryz.prog [("math/bits.deBruijn32tab", Rows.laid_math_bits_deBruijn32tab), ("math/bits.deBruijn64tab", Rows.laid_math_bits_deBruijn64tab), ("internal/strconv.uint64pow10", Rows.laid_internal_strconv_uint64pow10), ("unicode/utf8.acceptRanges", Rows.laid_unicode_utf8_acceptRanges), ("unicode.White_Space", Rows.laid_unicode_White_Space), ("strings.asciiSpace", Rows.laid_strings_asciiSpace), ("unicode/utf8.first", Rows.laid_unicode_utf8_first)] W) : Globals.tb Tryz.prog W :=
  glob_tb0 (i := 6) (j := 3) (k := 2) (s := 5) (by kernel_rfl) (by kernel_rfl) (by kernel_rfl) (by kernel_rfl) (by kernel_rfl) hL
end Go.Proofs.YtjjlipbddlignaaGreatDoor
namespace Go.Proofs.YtjjlipbddlignaaGreatDoor
open Go Ab Go.ChangeShapes Go.WideShapes Go.ChangeAt Go.RowKit
set_option linter.unusedVariables false
theorem rdI : Reads Tryz.prog 3 eI (fun n => (Lit.int .i64 n).wf = true) := reads_int Tryz.underlying3 (by kernel_rfl)
theorem rdIs : Reads Tryz.prog 41 eIs (fun l => (∀ a ∈ l, (Lit.int .i64 a).wf = true) ∧ l.length ≤ maxLen) := reads_slice 0 Tryz.underlying41 (by kernel_rfl) (by kernel_rfl) (by decide) rdI
theorem rdNd : Reads Tryz.prog 43 eNd (fun _ => True) :=
  (reads_struct (P := Tryz.prog) Tryz.underlying43 (by kernel_rfl) (readsF_cons (s := 1) rfl (by kernel_rfl) rdSL (readsF_cons (s := 1) rfl (by kernel_rfl) rdI (readsF_cons (s := 1) rfl (by kernel_rfl) rdIs (readsF_cons (s := 1) rfl (by kernel_rfl) rdIs (readsF_cons (s := 1) rfl (by kernel_rfl) rdSL readsF_nil)))))).via
    (fun a => ⟨a.1, a.2.1, a.2.2.1, a.2.2.2.1, a.2.2.2.2.1⟩) (fun a h => trivial) (fun a h => rfl) (fun x => by
      show 5 = _
      kernel_rfl)
theorem rdNds : Reads Tryz.prog 22 eNds (fun l => (∀ a ∈ l, True) ∧ l.length ≤ maxLen) := reads_slice (default : Nd) Tryz.underlying22 (by kernel_rfl) (by kernel_rfl) (by decide) rdNd
theorem rdBt : Reads Tryz.prog 24 eBt (fun l => l.length ≤ maxLen) :=
  (reads_struct (P := Tryz.prog) Tryz.underlying24 (by kernel_rfl) (readsF_cons (s := 1) rfl (by kernel_rfl) rdNds readsF_nil)).via (fun a => a.1) (fun a h => h.1.2) (fun a h => rfl) (fun l => by
      show 1 = _
      kernel_rfl)
end Go.Proofs.YtjjlipbddlignaaGreatDoor
namespace Go.Proofs.YtjjlipbddlignaaGreatDoor
open Go Ab Go.ChangeShapes Go.WideShapes Go.ChangeAt Go.RowKit
set_option linter.unusedVariables false
theorem rdU16 : Reads Tryz.prog 45 (fun n : Int => D.v (.int .u16 n)) (fun n => (Lit.int .u16 n).wf = true) := reads_int Tryz.underlying45 (by kernel_rfl)
theorem wf16 {a : Int} (h : (Lit.int .u16 a).wf = true) : 0 ≤ a ∧ a ≤ 65535 := by
  have h : (decide ((0 : Int) ≤ a) && decide (a ≤ 65535)) = true := h
  simpa only [Bool.and_eq_true, decide_eq_true_eq] using h
end Go.Proofs.YtjjlipbddlignaaGreatDoor
