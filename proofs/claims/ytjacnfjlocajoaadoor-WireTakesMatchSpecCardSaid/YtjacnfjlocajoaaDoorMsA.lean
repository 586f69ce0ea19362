/-
  WireMessagesArrive at every receiver and content in memory. No statement of the seat is proved here; no conditions.
-/
import Derived.Test.YtjacnfjlocajoaaDoorMsL
import Derived.Test.YtjacnfjlocajoaaDoorWrL
namespace Go.Proofs.YtjacnfjlocajoaaDoor
open Go.RowKit Go.Shelf
set_option linter.unusedVariables false
set_option linter.unusedSimpArgs false

theorem args3q {G : Ghost} {Z : Nat → Prop} {w : World} {a b c : AV} {u v x : Value} (h1 : RepA G Z w a u) (h2 : RepA G Z w b v) (h3 : RepA G Z w c x) : ∀ (j : Nat) (s : AV) (z : Value),[a,b,c][j]? = some s → (#[u,v,x] : Array Value)[j]? = some z → RepA G Z w s z := by
 intro j s z hy hz
 rcases j with _ | _ | _ | j
 ·obtain rfl := Option.some.inj hy;simp at hz;subst hz;exact h1
 ·obtain rfl := Option.some.inj hy;simp at hz;subst hz;exact h2
 ·obtain rfl := Option.some.inj hy;simp at hz;subst hz;exact h3
 ·simp at hy
end Go.Proofs.YtjacnfjlocajoaaDoor
