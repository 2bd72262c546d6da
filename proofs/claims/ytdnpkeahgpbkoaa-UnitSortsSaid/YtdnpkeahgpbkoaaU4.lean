/- A part of the proof. -/
import Derived.Test.YtdnpkeahgpbkoaaU0
import Derived.Shelf.SlSortCmp.NoneTotal
import Derived.Shelf.SlicesE.DeleteFunc
import Derived.Shelf.SlicesG.CompactI
import Derived.Shelf.Lay
import Derived.Ground.SlsfProg
import Derived.Ground.SlgfProg
import Derived.Ground.SlgnProg
namespace Go.Proofs
open Go.Shelf
shelf_lay_g SlLaysF.n6 Slsf 6 at Try 30 as Try.sortL
shelf_lay_g SlLaysH.n10 Slgf 10 at Try 26 as Try.delL
shelf_lay_g SlLaysN.n43 Slgn 43 at Try 32 as Try.compactL
end Go.Proofs
