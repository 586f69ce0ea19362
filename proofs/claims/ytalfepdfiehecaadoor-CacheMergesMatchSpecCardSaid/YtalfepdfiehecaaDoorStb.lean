/-
  slices.SortStableFunc at contents of a cache. No statement of the seat is proved here; no conditions.
-/
import Derived.Test.YtalfepdfiehecaaDoorSyg
namespace Go.Proofs.YtalfepdfiehecaaDoor
open Go.RowKit Go.Shelf
set_option linter.unusedVariables false
set_option linter.unusedSimpArgs false
set_option maxRecDepth 100000

section
variable {α : Type} {lt : α → α → Bool}
def bk (M : List α) (a c : Nat) : List α := (M.drop a).take c
def ch (lt : α → α → Bool) (bs : Nat) (M : List α) : Nat → Nat → List α
 | j,0 => []
 | j,m + 1 => sortT lt (bk M (j * bs) bs) ++ ch lt bs M (j + 1) m
def two (lt : α → α → Bool) (bs : Nat) (M : List α) (k : Nat) : List α := ch lt (2 * bs) M 0 k ++ ch lt bs M (2 * k) M.length
end
end Go.Proofs.YtalfepdfiehecaaDoor
