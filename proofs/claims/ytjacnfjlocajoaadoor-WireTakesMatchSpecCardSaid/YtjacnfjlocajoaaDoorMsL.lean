/-
  The law WireMessagesArrive on the machine. No statement of the seat is proved here; no conditions.
-/
import Derived.Test.YtjacnfjlocajoaaDoorMsP
import Derived.Test.YtjacnfjlocajoaaDoorMsW
namespace Go.Proofs.YtjacnfjlocajoaaDoor
open Go.RowKit Go.Shelf
set_option linter.unusedVariables false
set_option linter.unusedSimpArgs false
set_option maxRecDepth 100000

structure ArrAt (t : ByteArray) (L n m N s : Nat) (r : Rc) (a : Mg) : Prop where
 le : s ≤ N
 nil : a.2.2.2.2 = []
 at_ : s < N ∧ a.1 = 3 ∧ Mid r t L (n + s * m) ∨ s = N ∧ (a.1 = 4 ∨ a.1 = 5)
end Go.Proofs.YtjacnfjlocajoaaDoor
