/-
  Two facts on the program that each law's closing asks. No statement of the seat is proved here; no conditions.
-/
import Derived.Test.YtchhcmblajmehaaOpen
namespace Go.Proofs.Ytchhcmblajmehaa
open Go.RowKit
theorem own : ownKnob Try.prog.godebug = none := by kernel_rfl
theorem laidOut : laidOutB Try.prog = true := by kernel_rfl
end Go.Proofs.Ytchhcmblajmehaa
