/-
  Graphs as the laws' arguments. No statement of the seat is proved here; no conditions.
-/
import Derived.Test.YtbnmclcoekehbaaDoorGrI
import Derived.Test.YtbnmclcoekehbaaDoorEngR
import Derived.Test.YtbnmclcoekehbaaDoorOpenS
namespace Go.Proofs.YtbnmclcoekehbaaDoor
open Go.RowKit
set_option linter.unusedVariables false
set_option linter.unusedSimpArgs false

theorem len_s : ∀ w B x cs, rStr w B x cs → cs.length = 1 := by rintro w B x cs ⟨rfl, _⟩; rfl
theorem len_sl {α : Type} {sz bts : Nat} {R : Rep α} : ∀ w B x cs, rSl sz bts R w B x cs → cs.length = 1 := by rintro w B x cs ⟨A, c, rfl, _⟩; rfl
theorem fz_strs : Fz (rSl 1 16 rStr) 1 (fun l => [frStrs l]) := fz_sl fz_str
/-- Lists that fit in memory, with all that they hold. -/
theorem rSl.all {α : Type} {sz bts : Nat} {R : Rep α} {w : World} {B : Nat} {l : List α} {cs : List Value} (h : rSl sz bts R w B l cs) : (l.length : Int) ≤ 9223372036854775807 ∧ ∀ x ∈ l, ∃ vs, R w B x vs := by
  obtain ⟨A, c, _, h1, h2, _, h3⟩ := h
  refine ⟨by unfold maxLen at h2; omega, fun x hx => ?_⟩
  obtain ⟨k, hk⟩ := List.mem_iff_getElem?.1 hx
  obtain ⟨b, o, _, _, h4⟩ := h3 (by have := (List.getElem?_eq_some_iff.1 hk).1; omega)
  obtain ⟨vs, _, h5, _⟩ := h4 k x hk
  exact ⟨vs, h5⟩
end Go.Proofs.YtbnmclcoekehbaaDoor
