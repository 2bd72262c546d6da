/- A part of the proof. -/
import Derived.Test.YtkemmijjpclckaaGreatDoorP21
import Derived.Test.YtkemmijjpclckaaGreatDoorRows
import Derived.Test.YtkemmijjpclckaaGreatDoorCards
import Derived.Test.YtkemmijjpclckaaGreatDoorTie
import Derived.Lib.LaidU8T
import Derived.ProofKit
import Derived.OpenShut
import Derived.LaidMore
import Derived.Lay
import Derived.SevenTiedAt
import Derived.Stop.Joined
set_option linter.unusedVariables false
set_option linter.unusedSimpArgs false
set_option linter.unusedSectionVars false
set_option maxRecDepth 100000
set_option maxHeartbeats 8000000
namespace Go.Proofs.YtkemmijjpclckaaGreatDoor
open Go Ab Go.ChangeShapes Go.WideShapes Go.ChangeAt Go.RowKit
theorem own : ownKnob Tryz.prog.godebug = none := by kernel_rfl
theorem laidOut : laidOutB Tryz.prog = true := by kernel_rfl
def u8ren : Go.Shelf.Ren := ⟨fun n => n, fun | 5 => 5 | 119 => 243 | 138 => 245 | 139 => 246 | n => n, fun | 3 => gFirst | 4 => gAccept | n => n⟩
theorem u8types : U8Types Tryz.prog u8ren := ⟨by kernel_rfl, by kernel_rfl, by kernel_rfl, by kernel_rfl⟩
theorem u8extra : U8Extra Tryz.prog u8ren := ⟨by kernel_rfl, by kernel_rfl, by kernel_rfl, by kernel_rfl, by kernel_rfl, by kernel_rfl, by kernel_rfl⟩
theorem zp5 {laid : List (String × DataW Unit)} {W : World} {i j k : Nat} (h0 : laid.filter (fun x => x.2.handleName?.isSome) = []) (h1 : laid[i]? = some ("unicode/utf8.first", Go.Lib.firstData)) (h2 : laid[j]? = some ("unicode/utf8.acceptRanges", Go.Lib.acceptData)) (h3 : laid[k]? = some ("internal/strconv.uint64pow10", Go.Lib.tabData .u64 Go.Lib.pow10Tab)) (hL : laidMetH Tryz.prog laid W) : Globals.tb Tryz.prog W := by
 have hL' : laidMet Tryz.prog laid W := by
  unfold laidMetH at hL
  rw [h0] at hL
  exact hL
 have r1 := Go.Lib.laidMet.reads hL' (List.mem_of_getElem? h1)
 have r2 := Go.Lib.laidMet.reads hL' (List.mem_of_getElem? h2)
 have r3 := Go.Lib.laidMet.reads hL' (List.mem_of_getElem? h3)
 refine ⟨utf8Tabs_of_readsT u8types u8extra r1 r2, ?_⟩
 obtain ⟨g', t', cs, fuel, p, hg', ht', hvar, hd⟩ := r3
 obtain rfl := Option.some.inj (glob_pow.symm.trans hg')
 obtain rfl := Option.some.inj ((show (Tryz.prog.globals[gPow]?).map (·.type) = some 235 by kernel_rfl).symm.trans ht')
 unfold Go.Lib.TabIs
 rw [hvar, ← Go.Lib.cells_of_tab Tryz.underlying235 Tryz.underlying218 (by kernel_rfl) (by kernel_rfl) hd]
theorem glob_tb {W : World} (hL : laidMetH Tryz.prog [("math/bits.deBruijn32tab", Rows.laid_math_bits_deBruijn32tab), ("math/bits.deBruijn64tab", Rows.laid_math_bits_deBruijn64tab), ("internal/strconv.uint64pow10", Rows.laid_internal_strconv_uint64pow10), ("unicode/utf8.acceptRanges", Rows.laid_unicode_utf8_acceptRanges), ("unicode/utf8.first", Rows.laid_unicode_utf8_first)] W) : Globals.tb Tryz.prog W :=
 zp5 (i := 4) (j := 3) (k := 2) (by kernel_rfl) (by kernel_rfl) (by kernel_rfl) (by kernel_rfl) hL
theorem wf64 {a : Int} (h : (Lit.int .i64 a).wf = true) : I64 a := by
 have h : (decide ((-9223372036854775808 : Int) ≤ a) && decide (a ≤ 9223372036854775807)) = true := h
 simp only [Bool.and_eq_true, decide_eq_true_eq] at h
 exact h
theorem rdI0 : Reads Tryz.prog 3 eI (fun n => (Lit.int .i64 n).wf = true) := zem Tryz.underlying3 (by kernel_rfl)
theorem rdI : Reads Tryz.prog 3 eI I64 := rdI0.via id (fun a h => wf64 h) (fun a h => rfl) (fun a => rdI0.len a)
theorem rd80 : Reads Tryz.prog 5 (fun n : Int => D.v (.int .u8 n)) (fun n => (Lit.int .u8 n).wf = true) := zem Tryz.underlying5 (by kernel_rfl)
theorem wf8 {a : Int} (h : (Lit.int .u8 a).wf = true) : ∃ n : UInt8, a = (n.toNat : Int) := by
 have h : (decide ((0 : Int) ≤ a) && decide (a ≤ 255)) = true := h
 simp only [Bool.and_eq_true, decide_eq_true_eq] at h
 refine ⟨UInt8.ofNat a.toNat, ?_⟩
 rw [UInt8.toNat_ofNat']
 omega
theorem rdU8 : Reads Tryz.prog 5 eU8 (fun _ => True) where
 len a := rd80.len (a.toNat : Int)
 rd eH w fuel cs x ok hok h := by
  obtain ⟨a, qa, ra⟩ := rd80.rd eH w fuel cs x ok hok h
  obtain ⟨n, rfl⟩ := wf8 qa
  exact ⟨n, trivial, ra⟩
theorem rdBy : Reads Tryz.prog 43 eBy (fun l => (∀ a ∈ l, True) ∧ l.length ≤ maxLen) := z4d 0 Tryz.underlying43 (by kernel_rfl) (by kernel_rfl) (by decide) rdU8
theorem rdS : Reads Tryz.prog 9 (fun b : ByteArray => D.v (.string b)) (fun b => b.size ≤ maxLen) := zel Tryz.underlying9 (by kernel_rfl)
theorem rdTx : Reads Tryz.prog 9 dTx (fun l => l.length ≤ maxLen) := rdS.via (fun b => b.data.toList) (fun b h => by
 have h : b.data.size ≤ maxLen := h
 rwa [Array.length_toList]) (fun b _ => by
 show D.v (.string ⟨b.data.toList.toArray⟩) = D.v (.string b)
 rw [Array.toArray_toList]) (fun l => rdS.len ⟨l.toArray⟩)
def QIs (l : List Int) : Prop := (∀ a ∈ l, I64 a) ∧ l.length ≤ maxLen
theorem rdIs : Reads Tryz.prog 24 eIs QIs := z4d 0 Tryz.underlying24 (by kernel_rfl) (by kernel_rfl) (by decide) rdI
def QP2 (p : P2) : Prop := I64 p.1 ∧ I64 p.2
theorem rdLat : Reads Tryz.prog 85 eP2 QP2 :=
 (z4m (P := Tryz.prog) Tryz.underlying85 (by kernel_rfl) (z16 (s := 1) rfl (by kernel_rfl) rdI (z16 (s := 1) rfl (by kernel_rfl) rdI z6i))).via (fun a => (a.1, a.2.1)) (fun a h => ⟨h.1, h.2.1⟩) (fun a h => rfl) (fun x => by
   show 2 = _
   kernel_rfl)
theorem rdAnd : Reads Tryz.prog 98 eP2 QP2 :=
 (z4m (P := Tryz.prog) Tryz.underlying98 (by kernel_rfl) (z16 (s := 1) rfl (by kernel_rfl) rdI (z16 (s := 1) rfl (by kernel_rfl) rdI z6i))).via (fun a => (a.1, a.2.1)) (fun a h => ⟨h.1, h.2.1⟩) (fun a h => rfl) (fun x => by
   show 2 = _
   kernel_rfl)
theorem zr0 : Reads Tryz.prog 22 eP2s (fun l => (∀ a ∈ l, QP2 a) ∧ l.length ≤ maxLen) := z4d (0, 0) Tryz.underlying22 (by kernel_rfl) (by kernel_rfl) (by decide) rdLat
theorem zr1 : Reads Tryz.prog 23 eP2s (fun l => (∀ a ∈ l, QP2 a) ∧ l.length ≤ maxLen) := z4d (0, 0) Tryz.underlying23 (by kernel_rfl) (by kernel_rfl) (by decide) rdAnd
theorem rdNm : Reads Tryz.prog 104 eNm (fun x => x.2.2.length ≤ maxLen) :=
 (z4m (P := Tryz.prog) Tryz.underlying104 (by kernel_rfl) (z16 (s := 1) rfl (by kernel_rfl) rdU8 (z16 (s := 1) rfl (by kernel_rfl) rdI (z16 (s := 1) rfl (by kernel_rfl) rdTx z6i)))).via (fun a => (a.1, a.2.1, a.2.2.1)) (fun a h => h.2.2.1) (fun a h => rfl) (fun x => by
   show 3 = _
   kernel_rfl)
theorem rdNms : Reads Tryz.prog 25 eNms (fun l => (∀ a ∈ l, a.2.2.length ≤ maxLen) ∧ l.length ≤ maxLen) := z4d (0, 0, []) Tryz.underlying25 (by kernel_rfl) (by kernel_rfl) (by decide) rdNm
theorem rdAg : Reads Tryz.prog 27 eAg AgM :=
 (z4m (P := Tryz.prog) Tryz.underlying27 (by kernel_rfl) (z16 (s := 1) rfl (by kernel_rfl) rdI (z16 (s := 1) rfl (by kernel_rfl) zr0 (z16 (s := 1) rfl (by kernel_rfl) zr1 (z16 (s := 1) rfl (by kernel_rfl) rdIs (z16 (s := 1) rfl (by kernel_rfl) rdIs (z16 (s := 1) rfl (by kernel_rfl) rdIs (z16 (s := 1) rfl (by kernel_rfl) rdNms z6i)))))))).via
  (fun a => ⟨a.1, a.2.1, a.2.2.1, a.2.2.2.1, a.2.2.2.2.1, a.2.2.2.2.2.1, a.2.2.2.2.2.2.1⟩) (fun a h => ⟨h.2.2.2.1.2, h.2.2.2.2.1.2, h.2.2.2.2.2.1.2, h.2.2.2.2.2.2.1.2, h.2.2.2.2.2.2.1.1⟩) (fun a h => rfl) (fun x => by
   show 7 = _
   kernel_rfl)
end Go.Proofs.YtkemmijjpclckaaGreatDoor
