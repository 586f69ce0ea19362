/-
  What is shrunk: plain law; the law's walk. No statement of the seat is proved here; no conditions.
-/
import Derived.Test.YtchiicfnejmmbaaDoorShP
import Derived.Test.YtchiicfnejmmbaaDoorShr
import Derived.Test.YtchiicfnejmmbaaDoorCaX
import Derived.Test.YtchiicfnejmmbaaDoorFrz2
import Derived.Test.YtchiicfnejmmbaaDoorLvF
import Derived.Test.YtchiicfnejmmbaaDoorLowA
namespace Go.Proofs.YtchiicfnejmmbaaDoor
open Go.RowKit Go.Shelf
set_option linter.unusedVariables false
set_option linter.unusedSimpArgs false
set_option maxRecDepth 100000

end Go.Proofs.YtchiicfnejmmbaaDoor
