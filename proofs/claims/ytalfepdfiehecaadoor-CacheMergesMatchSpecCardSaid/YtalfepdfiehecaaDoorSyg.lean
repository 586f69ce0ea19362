/-
  slices.symMergeCmpFunc at contents of a cache: the general case. No statement of the seat is proved here; no conditions.
-/
import Derived.Test.YtalfepdfiehecaaDoorIns
namespace Go.Proofs.YtalfepdfiehecaaDoor
open Go.RowKit Go.Shelf
set_option linter.unusedVariables false
set_option linter.unusedSimpArgs false
set_option maxRecDepth 100000

section
variable {α : Type} {lt : α → α → Bool}
end
end Go.Proofs.YtalfepdfiehecaaDoor
