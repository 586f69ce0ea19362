/-
  cache.store and cache.search. No statement of the seat is proved here; no conditions.
-/
import Derived.Test.YtalfepdfiehecaaDoorPut
namespace Go.Proofs.YtalfepdfiehecaaDoor
open Go.RowKit Go.Shelf
set_option linter.unusedVariables false
set_option linter.unusedSimpArgs false
set_option maxRecDepth 100000

def insE (en : List Entry) (e : Entry) : List Entry := en.take (eIdx en e.1) ++ e :: en.drop (eIdx en e.1)
theorem eIdx_le {en : List Entry} {d : ByteArray} : eIdx en d ≤ en.length := List.countP_le_length
theorem insE_len {en : List Entry} {e : Entry} : (insE en e).length = en.length + 1 := by
 have := eIdx_le (en := en) (d := e.1)
 rw [insE,List.length_append,List.length_take,List.length_cons,List.length_drop];omega
end Go.Proofs.YtalfepdfiehecaaDoor
