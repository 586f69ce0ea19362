/-
  The plain law of WireMessagesArrive. No statement of the seat is proved here; no conditions.
-/
import Derived.Test.YtjacnfjlocajoaaDoorWrT
namespace Go.Proofs.YtjacnfjlocajoaaDoor
open Go.RowKit Go.Shelf
set_option linter.unusedVariables false
set_option linter.unusedSimpArgs false

structure Mid (r : Rc) (t : ByteArray) (L : Int) (f : Nat) : Prop where
 ok : ROk r
 no : hasK kOb r.1 t = false
 part : ∃ p,pGet r.2 t = some p ∧ p.2.1 = L ∧ p.2.2.length = f
end Go.Proofs.YtjacnfjlocajoaaDoor
