/- A part of the proof: Ab34. -/
import Derived.Test.YtjjlipbddlignaaGreatDoorP17
import Derived.Shelf.SlSortCmp.NoneTotal
set_option linter.unusedVariables false
set_option linter.unusedSimpArgs false
set_option linter.unusedSimpArgs false
set_option linter.unusedVariables false
set_option linter.unusedSectionVars false
namespace Ab
open Go Go.Shelf Go.RowKit Go.Lib Go.Sort Go.Proofs
variable [Draws]

section
variable {α : Type} [Inhabited α] {enc : α → Value}

end

/-! ### Functions that are called in whatever world -/
end Ab
