/-
  Two facts on the program that each law's closing asks. No statement of the seat is proved here; no conditions.
-/
import Derived.Test.YthniagdphhcnkaaDoorOpenS
namespace Go.Proofs.YthniagdphhcnkaaDoor
open Go.RowKit
theorem own : ownKnob Tryd.prog.godebug = none := by kernel_rfl
theorem laidOut : laidOutB Tryd.prog = true := by kernel_rfl
end Go.Proofs.YthniagdphhcnkaaDoor
