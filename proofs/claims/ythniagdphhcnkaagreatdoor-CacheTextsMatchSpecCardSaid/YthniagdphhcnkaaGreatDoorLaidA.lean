/-
  A world for the witnesses of a row that lists tables and errors of the library's: all that it lists is laid. No statement of the seat is proved here; no conditions.
-/
import Derived.Test.YthniagdphhcnkaaGreatDoorKnob
import Derived.Test.YthniagdphhcnkaaGreatDoorCards
import Derived.Test.YthniagdphhcnkaaGreatDoorTie
import Derived.OpenShut
import Derived.Deep.DeepHandedRow
import Derived.Lib.LaidTab
import Derived.Lib.ItoaNum
import Derived.Lay
import Derived.MakeChecks
import Derived.Stop.LaidErr
namespace Go.Proofs.YthniagdphhcnkaaGreatDoor
open Go.ChangeShapes Go.WideShapes Go.ChangeAt Go.RowKit
theorem pow10_var {l : List (String × DataW Unit)} {W : World} {a b : String × DataW Unit} {r : List (String × DataW Unit)} (hl : l = a :: b :: ("internal/strconv.uint64pow10",Lib.tabData .u64 Lib.pow10Tab) :: r) (hp : (l.all fun x => x.2.handleName?.isNone) = true) (h : laidMetH Tryz.prog l W) : Lib.TabIs Tryz.prog W "internal/strconv.uint64pow10" .u64 Lib.pow10Tab := by
 rw [MakeChecks.laidMetH_plain _ _ _ hp] at h
 subst hl
 exact Lib.tabIs_of_head (g := 1) (t := 107) (e := 91) (n := 20) (by kernel_rfl) (by kernel_rfl) (by kernel_rfl) (by kernel_rfl) (by kernel_rfl) (by kernel_rfl) h.tail.tail
theorem tab_lt {P : Program} {W : World} {name : String} {k : IntKind} {zs : List Int} {g : Nat} (hg : P.globalNamed name = some g) (h : Lib.TabIs P W name k zs) : g < W.heap.size := by
 unfold Lib.TabIs World.var? at h
 rw [hg,Option.bind_some] at h
 rcases Nat.lt_or_ge g W.heap.size with h1 | h1
 ·exact h1
 ·rw [Array.getElem?_eq_none h1] at h
  cases h
end Go.Proofs.YthniagdphhcnkaaGreatDoor
