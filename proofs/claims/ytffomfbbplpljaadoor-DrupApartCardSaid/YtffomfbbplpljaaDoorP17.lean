/- A part of the proof: KR0, KR0d, KR0e. -/
import Derived.Test.YtffomfbbplpljaaDoorP16
import Derived.Test.YtffomfbbplpljaaDoorRows
import Derived.Test.YtffomfbbplpljaaDoorCards
import Derived.Test.YtffomfbbplpljaaDoorTie
import Derived.Lib.LaidU8T
import Derived.ProofKit
import Derived.OpenShut
import Derived.LaidMore
import Derived.Lay
import Derived.SevenTiedAt
import Derived.Stop.Joined
set_option linter.unusedVariables false
set_option linter.unusedSimpArgs false
namespace Go.Proofs.YtffomfbbplpljaaDoor
open Go Ab Go.ChangeShapes Go.WideShapes Go.ChangeAt Go.RowKit
set_option linter.unusedVariables false
theorem own : ownKnob Tryd.prog.godebug = none := by kernel_rfl
theorem laidOut : laidOutB Tryd.prog = true := by kernel_rfl
theorem rdI : Reads Tryd.prog 3 eI (fun n => (Lit.int .i64 n).wf = true) := reads_int Tryd.underlying3 (by kernel_rfl)
theorem rdB : Reads Tryd.prog 4 (fun b => D.v (.bool b)) (fun _ => True) := reads_bool Tryd.underlying4 (by kernel_rfl)
def QIs (l : List Int) : Prop := (∀ a ∈ l, (Lit.int .i64 a).wf = true) ∧ l.length ≤ maxLen
theorem rdIs : Reads Tryd.prog 33 eIs QIs := reads_slice 0 Tryd.underlying33 (by kernel_rfl) (by kernel_rfl) (by decide) rdI
theorem rdSp : Reads Tryd.prog 35 (fun a : Sp => D.ag ((D.v (.bool a.1)).cells ++ ((eIs a.2.1).cells ++ []))) (fun a => True ∧ QIs a.2.1 ∧ True) := by
  have h := reads_struct (P := Tryd.prog) Tryd.underlying35 (by kernel_rfl) (readsF_cons (s := 1) rfl (by kernel_rfl) rdB (readsF_cons (s := 1) rfl (by kernel_rfl) rdIs readsF_nil))
  exact h
def QSps (l : List Sp) : Prop := (∀ a ∈ l, True ∧ QIs a.2.1 ∧ True) ∧ l.length ≤ maxLen
theorem rdSps : Reads Tryd.prog 25 eSps QSps := reads_slice (false, [], ()) Tryd.underlying25 (by kernel_rfl) (by kernel_rfl) (by decide) rdSp
def u8ren : Go.Shelf.Ren := ⟨fun n => n, fun | 5 => 5 | 119 => 120 | 138 => 122 | 139 => 123 | n => n, fun | 3 => gFirst | 4 => gAccept | n => n⟩
theorem u8types : U8Types Tryd.prog u8ren := ⟨by kernel_rfl, by kernel_rfl, by kernel_rfl, by kernel_rfl⟩
theorem u8extra : U8Extra Tryd.prog u8ren := ⟨by kernel_rfl, by kernel_rfl, by kernel_rfl, by kernel_rfl, by kernel_rfl, by kernel_rfl, by kernel_rfl⟩
/-- The tables of the library's packages stand as they were laid. -/
theorem glob_tb0 {laid : List (String × DataW Unit)} {W : World} {i j k : Nat} (h0 : laid.filter (fun x => x.2.handleName?.isSome) = []) (h1 : laid[i]? = some ("unicode/utf8.first", Go.Lib.firstData)) (h2 : laid[j]? = some ("unicode/utf8.acceptRanges", Go.Lib.acceptData)) (h3 : laid[k]? = some ("internal/strconv.uint64pow10", Go.Lib.tabData .u64 Go.Lib.pow10Tab)) (hL : laidMetH Tryd.prog laid W) : Globals.tb Tryd.prog W := by
  have hL' : laidMet Tryd.prog laid W := by
    unfold laidMetH at hL
    rw [h0] at hL
    exact hL
  have r1 := Go.Lib.laidMet.reads hL' (List.mem_of_getElem? h1)
  have r2 := Go.Lib.laidMet.reads hL' (List.mem_of_getElem? h2)
  have r3 := Go.Lib.laidMet.reads hL' (List.mem_of_getElem? h3)
  refine ⟨utf8Tabs_of_readsT u8types u8extra r1 r2, ?_⟩
  obtain ⟨g', t', cs, fuel, p, hg', ht', hvar, hd⟩ := r3
  obtain rfl := Option.some.inj (glob_pow.symm.trans hg')
  obtain rfl := Option.some.inj ((show (Tryd.prog.globals[gPow]?).map (·.type) = some 107 by kernel_rfl).symm.trans ht')
  unfold Go.Lib.TabIs
  rw [hvar, ← Go.Lib.cells_of_tab Tryd.underlying107 Tryd.underlying98 (by kernel_rfl) (by kernel_rfl) hd]
theorem glob_tb {W : World} (hL : laidMetH Tryd.prog [("math/bits.deBruijn32tab", Rows.laid_math_bits_deBruijn32tab), ("math/bits.deBruijn64tab", Rows.laid_math_bits_deBruijn64tab), ("internal/strconv.uint64pow10", Rows.laid_internal_strconv_uint64pow10), ("unicode/utf8.acceptRanges", Rows.laid_unicode_utf8_acceptRanges), ("unicode/utf8.first", Rows.laid_unicode_utf8_first)] W) : Globals.tb Tryd.prog W :=
  glob_tb0 (i := 4) (j := 3) (k := 2) (by kernel_rfl) (by kernel_rfl) (by kernel_rfl) (by kernel_rfl) hL
end Go.Proofs.YtffomfbbplpljaaDoor
namespace Go.Proofs.YtffomfbbplpljaaDoor
open Go Ab Go.ChangeShapes Go.WideShapes Go.ChangeAt Go.RowKit
set_option linter.unusedVariables false
theorem rd80 : Reads Tryd.prog 5 (fun n : Int => D.v (.int .u8 n)) (fun n => (Lit.int .u8 n).wf = true) := reads_int Tryd.underlying5 (by kernel_rfl)
theorem wf8 {a : Int} (h : (Lit.int .u8 a).wf = true) : ∃ n : UInt8, a = (n.toNat : Int) := by
  have h : (decide ((0 : Int) ≤ a) && decide (a ≤ 255)) = true := h
  simp only [Bool.and_eq_true, decide_eq_true_eq] at h
  refine ⟨UInt8.ofNat a.toNat, ?_⟩
  rw [UInt8.toNat_ofNat']
  omega
theorem rdU8 : Reads Tryd.prog 5 eU8 (fun _ => True) where
  len a := rd80.len (a.toNat : Int)
  rd eH w fuel cs x ok hok h := by
    obtain ⟨a, qa, ra⟩ := rd80.rd eH w fuel cs x ok hok h
    obtain ⟨n, rfl⟩ := wf8 qa
    exact ⟨n, trivial, ra⟩
theorem rdBy : Reads Tryd.prog 38 eBy (fun l => (∀ a ∈ l, True) ∧ l.length ≤ maxLen) := reads_slice 0 Tryd.underlying38 (by kernel_rfl) (by kernel_rfl) (by decide) rdU8
end Go.Proofs.YtffomfbbplpljaaDoor
namespace Go.Proofs.YtffomfbbplpljaaDoor
open Go Ab Go.ChangeShapes Go.WideShapes Go.ChangeAt Go.RowKit
set_option linter.unusedVariables false
theorem rdApIn : Reads Tryd.prog 48 (fun a : List Sp × List Sp × Int × List UInt8 × Unit => D.ag ((eSps a.1).cells ++ ((eSps a.2.1).cells ++ ((eI a.2.2.1).cells ++ ((eBy a.2.2.2.1).cells ++ [])))))
    (fun a => QSps a.1 ∧ QSps a.2.1 ∧ (Lit.int .i64 a.2.2.1).wf = true ∧ ((∀ x ∈ a.2.2.2.1, True) ∧ a.2.2.2.1.length ≤ maxLen) ∧ True) := by
  have h := reads_struct (P := Tryd.prog) Tryd.underlying48 (by kernel_rfl) (readsF_cons (s := 1) rfl (by kernel_rfl) rdSps (readsF_cons (s := 1) rfl (by kernel_rfl) rdSps (readsF_cons (s := 1) rfl (by kernel_rfl) rdI (readsF_cons (s := 1) rfl (by kernel_rfl) rdBy readsF_nil))))
  exact h
end Go.Proofs.YtffomfbbplpljaaDoor
