/-
  slices.SortStableFunc's parts at contents of a cache: insertion sort. No statement of the seat is proved here; no conditions.
-/
import Derived.Test.YtalfepdfiehecaaDoorRun
import Derived.Test.YtalfepdfiehecaaDoorCaT
import Derived.Test.YtalfepdfiehecaaDoorFrz2
import Derived.Test.YtalfepdfiehecaaDoorLowA
namespace Go.Proofs.YtalfepdfiehecaaDoor
open Go.RowKit Go.Shelf
set_option linter.unusedVariables false
set_option linter.unusedSimpArgs false
set_option maxRecDepth 100000

section
variable {α : Type}
def insT (lt : α → α → Bool) (x : α) : List α → List α
 | [] => [x]
 | y :: l => if lt x y = true then x :: y :: l else y :: insT lt x l
def sortT (lt : α → α → Bool) : List α → List α
 | [] => []
 | x :: l => insT lt x (sortT lt l)
structure OrdOn (lt : α → α → Bool) (S : List α) : Prop where
 tr : ∀ x y z,x ∈ S → y ∈ S → z ∈ S → lt x y = true → lt y z = true → lt x z = true
 asy : ∀ x y,x ∈ S → y ∈ S → lt x y = true → lt y x = false
 tot : ∀ x y,x ∈ S → y ∈ S → lt x y = false → x = y ∨ lt y x = true
 nd : S.Nodup
theorem OrdOn.sub {lt : α → α → Bool} {S S' : List α} (h : OrdOn lt S) (hp : S'.Sublist S) : OrdOn lt S' :=
 ⟨fun x y z hx hy hz => h.tr x y z (hp.mem hx) (hp.mem hy) (hp.mem hz),fun x y hx hy => h.asy x y (hp.mem hx) (hp.mem hy),fun x y hx hy => h.tot x y (hp.mem hx) (hp.mem hy),hp.nodup h.nd⟩
end
theorem dcT {p : Prop} [Decidable p] (h : p) : decide p = true := decide_eq_true h
theorem dcF {p : Prop} [Decidable p] (h : ¬ p) : decide p = false := decide_eq_false h
end Go.Proofs.YtalfepdfiehecaaDoor
