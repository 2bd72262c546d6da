/- A part of the proof. -/
import Derived.Test.YtbodbhpdelgpnaaGreatDoorP23
import Derived.Lib.LaidU8T
set_option linter.unusedVariables false
set_option linter.unusedSimpArgs false
set_option linter.unusedSectionVars false
set_option maxRecDepth 100000
set_option maxHeartbeats 8000000
namespace Go.Proofs.YtbodbhpdelgpnaaGreatDoor
open Go Ab Go.ChangeShapes Go.WideShapes Go.ChangeAt Go.RowKit
theorem rdSs:Reads Tryz.prog 25 eSs (fun l=>(∀a∈l,a.length≤maxLen)∧l.length≤maxLen):=z7l [] Tryz.underlying25 (by kernel_rfl) (by kernel_rfl) (by decide) rdSL
theorem rdSss:ReadsS Tryz.prog 26 eSss (fun l=>l.length*24+24≤140737488355328):=
 (z9b ([]:List (List UInt8)) Tryz.underlying26 (by kernel_rfl) (by kernel_rfl) (by decide) rdSs).via id (fun l h=>by
  have h2:l.length*Tryz.prog.bytesOf 25≤reachBytes:=h.2;rw [show Tryz.prog.bytesOf 25=24 by kernel_rfl]at h2;have e:reachBytes=140737488351232:=rfl;show l.length*24+24≤_;omega) (fun l _=>rfl) (fun l=>by
   show 1=_
   kernel_rfl)
theorem rdWt:ReadsS Tryz.prog 28 eWt (fun t=>t.ins.length*24+24≤140737488355328):=
 (z5l (P:=Tryz.prog) Tryz.underlying28 (by kernel_rfl) (z1n (s:=1) rfl (by kernel_rfl) rdI.toS (z1n (s:=1) rfl (by kernel_rfl) rdSs.toS (z1n (s:=1) rfl (by kernel_rfl) rdSss z7m)))).via (fun a=>⟨a.1,a.2.1,a.2.2.1⟩) (fun a h=>h.2.2.1) (fun a h=>rfl) (fun t=>by
   show 3=_
   kernel_rfl)
def u8ren:Go.Shelf.Ren:=⟨fun n=>n,fun|5=>5|119=>234|138=>236|139=>237|n=>n,fun|3=>gFirst|4=>gAccept|n=>n⟩
theorem u8types:U8Types Tryz.prog u8ren:=⟨by kernel_rfl,by kernel_rfl,by kernel_rfl,by kernel_rfl⟩
theorem u8extra:U8Extra Tryz.prog u8ren:=⟨by kernel_rfl,by kernel_rfl,by kernel_rfl,by kernel_rfl,by kernel_rfl,by kernel_rfl,by kernel_rfl⟩
theorem zpc{laid:List (String×DataW Unit)}{W:World}{i j k:Nat}(h0:laid.filter (fun x=>x.2.handleName?.isSome)=[]) (h1:laid[i]?=some ("unicode/utf8.first", Go.Lib.firstData)) (h2:laid[j]?=some ("unicode/utf8.acceptRanges", Go.Lib.acceptData)) (h3:laid[k]?=some ("internal/strconv.uint64pow10", Go.Lib.tabData .u64 Go.Lib.pow10Tab)) (hL:laidMetH Tryz.prog laid W):Globals.tb Tryz.prog W:=by
 have hL':laidMet Tryz.prog laid W:=by
  unfold laidMetH at hL;rw [h0]at hL;exact hL
 have r1:=Go.Lib.laidMet.reads hL' (List.mem_of_getElem? h1);have r2:=Go.Lib.laidMet.reads hL' (List.mem_of_getElem? h2);have r3:=Go.Lib.laidMet.reads hL' (List.mem_of_getElem? h3);refine⟨utf8Tabs_of_readsT u8types u8extra r1 r2,?_⟩;obtain⟨g',t',cs,fuel,p,hg',ht',hvar,hd⟩:=r3;obtain rfl:=Option.some.inj (glob_pow.symm.trans hg');obtain rfl:=Option.some.inj ((show(Tryz.prog.globals[gPow]?).map (·.type)=some 206 by kernel_rfl).symm.trans ht');unfold Go.Lib.TabIs;rw [hvar,←Go.Lib.cells_of_tab Tryz.underlying206 Tryz.underlying168 (by kernel_rfl) (by kernel_rfl) hd]
theorem glob_tb{W:World} (hL:laidMetH Tryz.prog [("math/bits.deBruijn32tab", Rows.laid_math_bits_deBruijn32tab),("math/bits.deBruijn64tab", Rows.laid_math_bits_deBruijn64tab),("internal/strconv.uint64pow10", Rows.laid_internal_strconv_uint64pow10),("unicode/utf8.acceptRanges", Rows.laid_unicode_utf8_acceptRanges),("unicode/utf8.first", Rows.laid_unicode_utf8_first)] W):Globals.tb Tryz.prog W:=
 zpc (i:=4) (j:=3) (k:=2) (by kernel_rfl) (by kernel_rfl) (by kernel_rfl) (by kernel_rfl) hL
theorem rd80:Reads Tryz.prog 5 (fun n:Int=>D.v (.int .u8 n)) (fun n=>(Lit.int .u8 n).wf=true):=zak Tryz.underlying5 (by kernel_rfl)
theorem wf8{a:Int}(h:(Lit.int .u8 a).wf=true):∃n:UInt8,a=(n.toNat:Int):=by
 have h:(decide ((0:Int)≤a)&&decide (a≤255))=true:=h;simp only [Bool.and_eq_true,decide_eq_true_eq]at h;refine⟨UInt8.ofNat a.toNat,?_⟩;rw [UInt8.toNat_ofNat'];omega
theorem rdU8:Reads Tryz.prog 5 eU8 (fun _=>True) where
 len a:=rd80.len (a.toNat:Int)
 rd eH w fuel cs x ok hok h:=by
  obtain⟨a,qa,ra⟩:=rd80.rd eH w fuel cs x ok hok h;obtain⟨n,rfl⟩:=wf8 qa;exact⟨n,trivial,ra⟩
theorem rdU16:Reads Tryz.prog 51 (fun n:Int=>D.v (.int .u16 n)) (fun n=>(Lit.int .u16 n).wf=true):=zak Tryz.underlying51 (by kernel_rfl)
theorem wf16{a:Int}(h:(Lit.int .u16 a).wf=true):0≤a∧a≤65535:=by
 have h:(decide ((0:Int)≤a)&&decide (a≤65535))=true:=h;simpa only [Bool.and_eq_true,decide_eq_true_eq]using h
theorem rdWe:ReadsS Tryz.prog 53 (fun a:List Nd×Wt×Wt×UInt8×Int×Unit=>weD a.1 a.2.1 a.2.2.1 a.2.2.2.1 a.2.2.2.2.1)
  (fun a=>(MdB a.1∧a.1.length<2000000000000)∧Rm a.2.1∧Rm a.2.2.1∧True∧(Lit.int .u16 a.2.2.2.2.1).wf=true∧True):=
 (z5l (P:=Tryz.prog) Tryz.underlying53 (by kernel_rfl) (z1n (s:=1) rfl (by kernel_rfl) rdBt (z1n (s:=3) rfl (by kernel_rfl) rdWt (z1n (s:=3) rfl (by kernel_rfl) rdWt (z1n (s:=1) rfl (by kernel_rfl) rdU8.toS (z1n (s:=1) rfl (by kernel_rfl) rdU16.toS z7m)))))).via id (fun a h=>h) (fun a h=>rfl) (fun a=>by
   show 9=_
   kernel_rfl)
end Go.Proofs.YtbodbhpdelgpnaaGreatDoor
