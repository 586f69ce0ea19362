/-
  WireMessagesArrive at every receiver and content in memory. No statement of the seat is proved here; no conditions.
-/
import Derived.Test.YtjacnfjlocajoaaDoorMsL
import Derived.Test.YtjacnfjlocajoaaDoorWrL
namespace Go.Proofs.YtjacnfjlocajoaaDoor
open Go.RowKit Go.Shelf
set_option linter.unusedVariables false
set_option linter.unusedSimpArgs false

theorem args3q {G : Ghost} {Z : Nat → Prop} {w : World} {a b c : AV} {u v x : Value} (h1 : RepA G Z w a u) (h2 : RepA G Z w b v) (h3 : RepA G Z w c x) : ∀ (j : Nat) (s : AV) (z : Value),[a,b,c][j]? = some s → (#[u,v,x] : Array Value)[j]? = some z → RepA G Z w s z := by
 intro j s z hy hz
 rcases j with _ | _ | _ | j
 ·obtain rfl := Option.some.inj hy;simp at hz;subst hz;exact h1
 ·obtain rfl := Option.some.inj hy;simp at hz;subst hz;exact h2
 ·obtain rfl := Option.some.inj hy;simp at hz;subst hz;exact h3
 ·simp at hy
theorem arrive_any (cs : List Value) (r : Rc) (A : Option Addr) (n k : Nat) (b : List UInt8) (most : Int) (W : World) (h : rRcv W W.heap.size r cs) (hb : rSl 1 1 rByte W W.heap.size b [.slice A n k]) : Calls Tryd.prog 5 #[.agg cs.toArray,.slice A n k,.int .i64 most] W fun e w' => e = .returned (.bool true) ∧ Below W.heap.size W w' :=
 (arrive_law_f r b most (rcv_bound h) hb.all.1).callsA rfl (args3q (fz_rcv.agg len_rcv h) (.f (fz_bytes.one (a := frB) hb)) (.f (.int _ _)))
end Go.Proofs.YtjacnfjlocajoaaDoor
