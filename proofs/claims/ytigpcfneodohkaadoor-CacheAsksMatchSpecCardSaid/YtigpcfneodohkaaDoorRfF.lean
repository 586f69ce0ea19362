/-
  The reference's Swept. No statement of the seat is proved here; no conditions.
-/
import Derived.Test.YtigpcfneodohkaaDoorRfE
namespace Go.Proofs.YtigpcfneodohkaaDoor
open Go.RowKit Go.Shelf
set_option linter.unusedVariables false
set_option linter.unusedSimpArgs false
set_option maxRecDepth 100000

end Go.Proofs.YtigpcfneodohkaaDoor
