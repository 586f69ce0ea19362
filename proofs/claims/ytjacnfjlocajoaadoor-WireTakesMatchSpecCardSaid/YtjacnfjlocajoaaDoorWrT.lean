/-
  WireTakesAgain and WireTakesStayRight. No statement of the seat is proved here; no conditions.
-/
import Derived.Test.YtjacnfjlocajoaaDoorWrS
import Derived.Test.YtjacnfjlocajoaaDoorAwk8
namespace Go.Proofs.YtjacnfjlocajoaaDoor
open Go.RowKit Go.Shelf
set_option linter.unusedVariables false
set_option linter.unusedSimpArgs false
set_option maxRecDepth 100000

structure RcS (r : Rc) : Prop where
 l : (r.1.length : Int) ≤ 9223372036854775807 ∧ (r.2.length : Int) ≤ 9223372036854775807
 b : (∀ x ∈ r.1,(x.2.length : Int) ≤ 9223372036854775807) ∧ ∀ x ∈ r.2,(x.2.2.length : Int) ≤ 9223372036854775807
theorem ROk.sizes {r : Rc} (h : ROk r) : RcS r := ⟨⟨by have := h.d.len;omega,by have := h.p.len;omega⟩,fun x hx => by have := h.d.ok x hx;omega,fun x hx => by have := h.p.ok x hx;omega⟩
theorem rcS_nil : RcS ([],[]) := ⟨⟨by decide,by decide⟩,fun x hx => by simp at hx,fun x hx => by simp at hx⟩
theorem Take_err {r : Rc} {m : Mg} (h0 : (TakeV r m).1 ≠ 0) : (TakeV r m).2 = (([],[]),mg0) := by
 unfold TakeV at h0 ⊢
 split
 ·rfl
 ·split
  ·rfl
  ·rename_i h1 h2
   rw [if_neg h1,if_neg h2] at h0
   exact absurd (Decidable.not_not.1 h2) h0
theorem Take_sizes {r : Rc} {m : Mg} : RcS (TakeV r m).2.1 := by
 by_cases h0 : (TakeV r m).1 = 0
 ·exact (Take_right h0).2.2.ok.sizes
 ·rw [Take_err h0];exact rcS_nil
end Go.Proofs.YtjacnfjlocajoaaDoor
