/-
  Events and answers; cache.pin. No statement of the seat is proved here; no conditions.
-/
import Derived.Test.YtalfepdfiehecaaDoorTch
namespace Go.Proofs.YtalfepdfiehecaaDoor
open Go.RowKit Go.Shelf
set_option linter.unusedVariables false
set_option linter.unusedSimpArgs false
set_option maxRecDepth 100000

abbrev Ev := Int × Int × ByteArray × List ByteArray × ByteArray × Int
section
variable {P : Program} {R : Env → Heap → Prop} {Λ : Lams} {k : List It} {env : Env} {H : Heap} {d j : Nat} {f : Operand} {args : List Operand} {g : Option (Nat × Bool)} {los : List LO} {dos : List DO} {acc : List Fp} {od : List Nat} {fid : FuncId} {rs : List RS} {room lease : Int} {bl : List Blob} {en : List Entry} {tl : List FV} {i1 v1 i2 v2 : Nat}
end
theorem lenB {bl : List Blob} {n : Nat} (h : bl.length = n) : n * 5 ≤ (rowF fBlob bl).length := by rw [row_len (sz := 5) (fun _ => rfl),h];exact Nat.le_refl _
theorem lenE {en : List Entry} {n : Nat} (h : en.length = n) : n * 3 ≤ (rowF fEntry en).length := by rw [row_len (sz := 3) (fun _ => rfl),h];exact Nat.le_refl _
end Go.Proofs.YtalfepdfiehecaaDoor
