/-
  The plain law of orders. No statement of the seat is proved here; no conditions.
-/
import Derived.Test.YticefeanlicapaaDoorGrH
namespace Go.Proofs.YticefeanlicapaaDoor
open Go.RowKit Go.Shelf
set_option linter.unusedVariables false
set_option linter.unusedSimpArgs false

structure OInv (n : Nat) (D : List (List Nat)) (s : OSt) : Prop where
 nd : s.out.Nodup
 dn : ∀ i,i < n → s.done[i]? = some (decide (i ∈ s.out))
 lf : ∀ i,i < n → s.left.getD i 0 = ((D.getD i []).length : Int) - ((s.out.map fun u => (D.getD i []).count u).sum : Nat)
 bf : ∀ (k : Nat) i,s.out[k]? = some i → ∀ d ∈ D.getD i [],d ∈ s.out.take k
end Go.Proofs.YticefeanlicapaaDoor
