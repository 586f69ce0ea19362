/-
  WireDeliversArrive at every content in memory. No statement of the seat is proved here; no conditions.
-/
import Derived.Test.YtjacnfjlocajoaaDoorDvL
import Derived.Test.YtjacnfjlocajoaaDoorMsA
namespace Go.Proofs.YtjacnfjlocajoaaDoor
open Go.RowKit Go.Shelf
set_option linter.unusedVariables false
set_option linter.unusedSimpArgs false

theorem fz_ints : Fz (rSl 1 8 (rI .i64)) 1 (fun l => [frI l]) := fz_sl fz_int
theorem deliv_any (A : Option Addr) (n k : Nat) (b : List UInt8) (most : Int) (A2 : Option Addr) (n2 k2 : Nat) (l : List Int) (W : World) (h : rSl 1 1 rByte W W.heap.size b [.slice A n k]) (h2 : rSl 1 8 (rI .i64) W W.heap.size l [.slice A2 n2 k2]) : Calls Tryd.prog 7 #[.slice A n k,.int .i64 most,.slice A2 n2 k2] W fun e w' => e = .returned (.bool true) ∧ Below W.heap.size W w' :=
 (deliv_law_f b most l h.all.1).callsA rfl (args3q (.f (fz_bytes.one (a := frB) h)) (.f (.int _ _)) (.f (fz_ints.one (a := frI) h2)))
end Go.Proofs.YtjacnfjlocajoaaDoor
