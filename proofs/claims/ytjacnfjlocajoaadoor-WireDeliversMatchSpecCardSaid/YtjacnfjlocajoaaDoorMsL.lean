/-
  The plain law of WireDeliversArrive. No statement of the seat is proved here; no conditions.
-/
import Derived.Test.YtjacnfjlocajoaaDoorDv3
import Derived.Test.YtjacnfjlocajoaaDoorMsP
import Derived.Test.YtjacnfjlocajoaaDoorDvP
namespace Go.Proofs.YtjacnfjlocajoaaDoor
open Go.RowKit Go.Shelf
set_option linter.unusedVariables false
set_option linter.unusedSimpArgs false

def Has (t : ByteArray) (b : List UInt8) (r : Rc) (f : Nat) : Prop := r = ([],[]) ∧ f = 0 ∨ r = ([],[(t,(b.length : Int),b.take f)]) ∧ f < b.length
structure Ses (t : ByteArray) (b : List UInt8) (most : Nat) (f : Nat) (s : Int) (R : (Bool × Int) × Rc × Int) : Prop where
 ok : R.1.2 = 0
 at_ : R.1.1 = true ∧ R.2.1 = ([(t,b)],[]) ∧ R.2.2 = s + ((b.length - f : Nat) : Int) ∨ R.1.1 = false ∧ ∃ g : Nat,Has t b R.2.1 g ∧ f ≤ g ∧ g ≤ b.length ∧ s + ((g - f : Nat) : Int) ≤ R.2.2 ∧ R.2.2 ≤ s + ((g - f : Nat) : Int) + most
end Go.Proofs.YtjacnfjlocajoaaDoor
namespace Go.Proofs.YtjacnfjlocajoaaDoor
open Go.RowKit Go.Shelf
set_option linter.unusedVariables false
set_option linter.unusedSimpArgs false
set_option maxRecDepth 100000

theorem Deliver_z (r : Rc) (t : ByteArray) (b : List UInt8) (most : Int) (l : List Int) (hl : (r.1.length : Int) ≤ 9223372036854775807 ∧ (r.2.length : Int) ≤ 9223372036854775807) (hb : (∀ x ∈ r.1,(x.2.length : Int) ≤ 9223372036854775807) ∧ ∀ x ∈ r.2,(x.2.2.length : Int) ≤ 9223372036854775807) :
  FRet Tryd.prog 20 [aRc r,.f (.str t),.f (frB b),.f (.int .i64 most),.f (frI l)] [.agg [.v (frObs (DeliverV r t b most l).1.1),.v (frPts (DeliverV r t b most l).1.2)],rInt (DeliverV r t b most l).2.1,.c (.v (.bool (DeliverV r t b most l).2.2.1)),rInt (DeliverV r t b most l).2.2.2] :=
 (Deliver_w r t b most l hl hb).frz2 ⟨⟨rcF_row0 (enc := fOb) (fun _ => rfl),rcF_row0 (enc := fPt) (fun _ => rfl),trivial⟩,rfl,rfl,rfl,trivial⟩
end Go.Proofs.YtjacnfjlocajoaaDoor
namespace Go.Proofs.YtjacnfjlocajoaaDoor
open Go.RowKit Go.Shelf
set_option linter.unusedVariables false
set_option linter.unusedSimpArgs false
set_option maxRecDepth 100000

structure ArrAt (t : ByteArray) (L n m N s : Nat) (r : Rc) (a : Mg) : Prop where
 le : s ≤ N
 nil : a.2.2.2.2 = []
 at_ : s < N ∧ a.1 = 3 ∧ Mid r t L (n + s * m) ∨ s = N ∧ (a.1 = 4 ∨ a.1 = 5)
end Go.Proofs.YtjacnfjlocajoaaDoor
