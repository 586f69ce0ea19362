/-
  cache.Fits. No statement of the seat is proved here; no conditions.
-/
import Derived.Test.YtalfepdfiehecaaDoorStb
import Derived.Test.YtalfepdfiehecaaDoorFrz2
import Derived.Test.YtalfepdfiehecaaDoorLowA
import Derived.Test.YtalfepdfiehecaaDoorCaU
namespace Go.Proofs.YtalfepdfiehecaaDoor
open Go.RowKit Go.Shelf
set_option linter.unusedVariables false
set_option linter.unusedSimpArgs false
set_option maxRecDepth 100000

def ltB (x y : Blob) : Bool := decide (x.2.2.1 < y.2.2.1) || (decide (x.2.2.1 = y.2.2.1) && strLt x.1 y.1)
def RiseB (l : List Blob) : Prop := l.Pairwise fun x y => strLt x.1 y.1 = true
theorem RiseB.lt {l : List Blob} (h : RiseB l) {i j : Nat} {x y : Blob} (hij : i < j) (hx : l[i]? = some x) (hy : l[j]? = some y) : strLt x.1 y.1 = true := by
 obtain ⟨b1,b2⟩ := List.getElem?_eq_some_iff.1 hx
 obtain ⟨c1,c2⟩ := List.getElem?_eq_some_iff.1 hy
 have := List.pairwise_iff_getElem.1 h i j b1 c1 hij
 rw [b2,c2] at this;exact this
theorem RiseB.inj {l : List Blob} (h : RiseB l) {x y : Blob} (hx : x ∈ l) (hy : y ∈ l) (he : x.1 = y.1) : x = y := by
 obtain ⟨i,hi⟩ := List.mem_iff_getElem?.1 hx
 obtain ⟨j,hj⟩ := List.mem_iff_getElem?.1 hy
 rcases Nat.lt_trichotomy i j with h1 | h1 | h1
 ·exact absurd he (strLt_ne (h.lt h1 hi hj))
 ·subst h1;rw [hi] at hj;exact Option.some.inj hj
 ·exact absurd he.symm (strLt_ne (h.lt h1 hj hi))
def leavV (bl : List Blob) (at_ : Int) : List Blob := sortT ltB (keepL (fun b : Blob => heldB b at_) bl)
theorem RiseB.take {bl : List Blob} (h : RiseB bl) (i : Nat) : RiseB (bl.take i) := List.Pairwise.sublist (List.take_sublist i bl) h
end Go.Proofs.YtalfepdfiehecaaDoor
