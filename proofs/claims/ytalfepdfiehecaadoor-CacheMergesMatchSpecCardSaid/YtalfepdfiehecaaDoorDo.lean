/-
  cache.do. No statement of the seat is proved here; no conditions.
-/
import Derived.Test.YtalfepdfiehecaaDoorNew
import Derived.Test.YtalfepdfiehecaaDoorEvt
namespace Go.Proofs.YtalfepdfiehecaaDoor
open Go.RowKit Go.Shelf
set_option linter.unusedVariables false
set_option linter.unusedSimpArgs false
set_option maxRecDepth 100000

structure DoOk (room : Int) (bl : List Blob) (en : List Entry) (e : Ev) : Prop where
 hb : bl.length ≤ 1000000
 he : en.length ≤ 1000000
 hd : e.2.2.2.1.length ≤ 1000000
 hr : Rising (fun b : Blob => b.1) bl
 hre : Rising (fun b : Entry => b.1) en
 hrf : ∀ x ∈ en,x.2.1.length ≤ 1000000
 hsz : ∀ b ∈ bl,0 ≤ b.2.1 ∧ b.2.1 ≤ 100000000
 hov : overV room bl e.2.2.2.2.2 ≤ 1000000000000000
end Go.Proofs.YtalfepdfiehecaaDoor
