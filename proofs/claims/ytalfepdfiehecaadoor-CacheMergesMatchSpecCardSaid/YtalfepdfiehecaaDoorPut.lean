/-
  cache.put. No statement of the seat is proved here; no conditions.
-/
import Derived.Test.YtalfepdfiehecaaDoorPin
namespace Go.Proofs.YtalfepdfiehecaaDoor
open Go.RowKit Go.Shelf
set_option linter.unusedVariables false
set_option linter.unusedSimpArgs false
set_option maxRecDepth 100000

section
variable {P : Program} {R : Env → Heap → Prop} {Λ : Lams} {k : List It} {env : Env} {H : Heap} {d j : Nat} {f : Operand} {args : List Operand} {g : Option (Nat × Bool)} {dos : List DO} {acc : List Fp} {od : List Nat} {fid : FuncId} {ri rs : List RS} {tl : List AV} {pcs pcs' : List RC}
end
def overV (room : Int) (bl : List Blob) (size : Int) : Int := IntKind.i64.wrap (wsum bl - IntKind.i64.wrap (room - size))
def insV (bl : List Blob) (b : Blob) : List Blob := bl.take (bIdx bl b.1) ++ b :: bl.drop (bIdx bl b.1)
theorem bIdx_le {bl : List Blob} {d : ByteArray} : bIdx bl d ≤ bl.length := List.countP_le_length
end Go.Proofs.YtalfepdfiehecaaDoor
