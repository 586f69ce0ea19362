/-
  Two facts on the program that each law's closing asks. No statement of the seat is proved here; no conditions.
-/
import Derived.Test.YthniagdphhcnkaaGreatDoorOpenS
namespace Go.Proofs.YthniagdphhcnkaaGreatDoor
open Go.RowKit
theorem own : ownKnob Tryz.prog.godebug = none := by kernel_rfl
theorem laidOut : laidOutB Tryz.prog = true := by kernel_rfl
end Go.Proofs.YthniagdphhcnkaaGreatDoor
