/-
  The order of strings, sorted lists, binary searches: plain laws. No statement of the seat is proved here; no conditions.
-/
import Derived.Test.YthniagdphhcnkaaGreatDoorEngV
import Derived.Test.YthniagdphhcnkaaGreatDoorRun
import Derived.Shelf.Small.Strs
namespace Go.Proofs.YthniagdphhcnkaaGreatDoor
open Go.RowKit
open Go.RowKit Go.Shelf
set_option linter.unusedVariables false
set_option linter.unusedSimpArgs false

def hasS (s : ByteArray) (l : List ByteArray) : Bool := l.any fun d => decide (d = s)
theorem hasS_iff {s : ByteArray} {l : List ByteArray} : hasS s l = true ↔ s ∈ l := by
 unfold hasS
 rw [List.any_eq_true]
 constructor
 ·rintro ⟨x,h1,h2⟩;exact of_decide_eq_true h2 ▸ h1
 ·intro h;exact ⟨s,h,by simp⟩
abbrev bs (l : List UInt8) : ByteArray := ⟨l.toArray⟩
section
variable {α : Type} {p : α → Bool} {l m : List α} {i j : Nat} {x : α}
end
def leS (a b : ByteArray) : Bool := strLt a b || decide (a = b)
end Go.Proofs.YthniagdphhcnkaaGreatDoor
