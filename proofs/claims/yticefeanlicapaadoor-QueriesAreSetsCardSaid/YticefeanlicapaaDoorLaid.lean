/-
  A world for the witnesses of a door seat's rows: the settled one, with the two tables of unicode/utf8 laid.
-/
import Derived.Test.YticefeanlicapaaDoorKnob
import Derived.Test.YticefeanlicapaaDoorCards
import Derived.Test.YticefeanlicapaaDoorTie
import Derived.OpenShut
import Derived.Deep.DeepHandedRow
import Derived.Lib.LaidTab
namespace Go.Proofs.YticefeanlicapaaDoor
open Go.ChangeShapes Go.WideShapes Go.ChangeAt Go.RowKit

def setCs (cs : Array Value) : Obj → Obj
 | .cells _ t frozen => .cells cs t frozen
 | o => o
def firstCs : Array Value := (Pinned.utf8FirstZ.map fun (x : Nat) => Value.int .u8 (x : Int)).toArray
def acceptCs : Array Value := ([128,191,160,191,128,159,144,191,128,143,0,0,0,0,0,0,0,0,0,0,0,0,0,0,0,0,0,0,0,0,0,0].map fun (x : Nat) => Value.int .u8 (x : Int)).toArray
noncomputable def laidWorld (os : Os) : World :=
 { World.holding Tryd.prog os ⟨#[],#[],[]⟩ with heap := ((World.holding Tryd.prog os ⟨#[],#[],[]⟩).heap.modify 1 (setCs firstCs)).modify 2 (setCs acceptCs) }
end Go.Proofs.YticefeanlicapaaDoor
