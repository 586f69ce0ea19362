/-
  cache.Shrunk. No statement of the seat is proved here; no conditions.
-/
import Derived.Test.YtalfepdfiehecaaDoorLvF
import Derived.Test.YtalfepdfiehecaaDoorCaW
namespace Go.Proofs.YtalfepdfiehecaaDoor
open Go.RowKit Go.Shelf
set_option linter.unusedVariables false
set_option linter.unusedSimpArgs false
set_option maxRecDepth 100000

def cutN : Int → List Blob → Nat
 | _,[] => 0
 | over,b :: l => if over ≤ 0 then 0 else cutN (over - b.2.1) l + 1
def digsB (l : List Blob) : List ByteArray := l.map fun b => b.1
def clrGone (bl : List Blob) (at_ over : Int) : List ByteArray := digsB ((leavV bl at_).take (cutN over (leavV bl at_)))
def shrOver (c : Cache) (room : Int) : Int := sumSz c.2.2.1 - room
def shrGone (c : Cache) (room at_ : Int) : List ByteArray := clrGone c.2.2.1 at_ (shrOver c room)
def shrunk (c : Cache) (room at_ : Int) : Cache := (room,c.2.1,keepL (fun b : Blob => hasS b.1 (shrGone c room at_)) c.2.2.1,c.2.2.2)
end Go.Proofs.YtalfepdfiehecaaDoor
