/-
  cache.checkEvent, cache.newest. No statement of the seat is proved here; no conditions.
-/
import Derived.Test.YtalfepdfiehecaaDoorSto
namespace Go.Proofs.YtalfepdfiehecaaDoor
open Go.RowKit Go.Shelf
set_option linter.unusedVariables false
set_option linter.unusedSimpArgs false
set_option maxRecDepth 100000

def flds (k : Int) : Bool × Bool × Bool × Bool := if k = 1 then (true,false,false,true) else if k = 3 then (false,true,false,false) else if k = 6 then (false,true,true,false) else if k = 7 then (false,false,true,false) else (true,false,false,false)
end Go.Proofs.YtalfepdfiehecaaDoor
