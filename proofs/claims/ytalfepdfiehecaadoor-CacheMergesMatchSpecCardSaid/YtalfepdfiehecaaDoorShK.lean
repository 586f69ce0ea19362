/-
  What is shrunk: plain law; the law's walk. No statement of the seat is proved here; no conditions.
-/
import Derived.Test.YtalfepdfiehecaaDoorShP
import Derived.Test.YtalfepdfiehecaaDoorShr
import Derived.Test.YtalfepdfiehecaaDoorCaX
import Derived.Test.YtalfepdfiehecaaDoorFrz2
import Derived.Test.YtalfepdfiehecaaDoorLvF
import Derived.Test.YtalfepdfiehecaaDoorLowA
namespace Go.Proofs.YtalfepdfiehecaaDoor
open Go.RowKit Go.Shelf
set_option linter.unusedVariables false
set_option linter.unusedSimpArgs false
set_option maxRecDepth 100000

end Go.Proofs.YtalfepdfiehecaaDoor
