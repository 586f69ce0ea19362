/-
  The plain law of the cache's steps, as the laws ask for it. No statement of the seat is proved here; no conditions.
-/
import Derived.Test.YtalfepdfiehecaaDoorPlB
import Derived.Test.YtalfepdfiehecaaDoorCaL
namespace Go.Proofs.YtalfepdfiehecaaDoor
open Go.RowKit Go.Shelf
set_option linter.unusedVariables false
set_option linter.unusedSimpArgs false
set_option maxRecDepth 100000

theorem ckDigs_len {l : List ByteArray} (h : ckDigsM l 200 = 0) : l.length ≤ 200 := by
 unfold ckDigsM at h
 split at h
 ·cases h
 ·omega
theorem sbound_of {c : Cache} (h : CRight c) : CBound c := by
 refine ⟨by have := h.blen;omega,by have := h.elen;omega,fun x hx => ?_⟩
 have := ckDigs_len (entOk_iff.1 (h.eok x hx)).2.1
 omega
structure Stays (c x : Cache) (gone : List ByteArray) (at_ : Int) : Prop where
 is : ∀ b ∈ c.2.2.1,hasB x.2.2.1 b.1 = !hasS b.1 gone
 held : ∀ b ∈ c.2.2.1,heldB b at_ = true → hasB x.2.2.1 b.1 = true
 size : ∀ b ∈ c.2.2.1,∀ y ∈ x.2.2.1,y.1 = b.1 → y.2.1 = b.2.1
 len : c.2.2.1.length ≤ x.2.2.1.length + gone.length
 glen : gone.length ≤ c.2.2.1.length
end Go.Proofs.YtalfepdfiehecaaDoor
