/-
  The laws of a step of the cache, for all arguments. No statement of the seat is proved here; no conditions.
-/
import Derived.Test.YtchiicfnejmmbaaDoorLc
import Derived.Test.YtchiicfnejmmbaaDoorCaL
namespace Go.Proofs.YtchiicfnejmmbaaDoor
open Go.RowKit Go.Shelf
set_option linter.unusedVariables false
set_option linter.unusedSimpArgs false

theorem args4q {G : Ghost} {Z : Nat → Prop} {w : World} {a b c d : AV} {u v x y : Value} (h1 : RepA G Z w a u) (h2 : RepA G Z w b v) (h3 : RepA G Z w c x) (h4 : RepA G Z w d y) : ∀ (j : Nat) (s : AV) (z : Value), [a, b, c, d][j]? = some s → (#[u, v, x, y] : Array Value)[j]? = some z → RepA G Z w s z := by
  intro j s z hy hz
  rcases j with _ | _ | _ | _ | j
  · obtain rfl := Option.some.inj hy; simp at hz; subst hz; exact h1
  · obtain rfl := Option.some.inj hy; simp at hz; subst hz; exact h2
  · obtain rfl := Option.some.inj hy; simp at hz; subst hz; exact h3
  · obtain rfl := Option.some.inj hy; simp at hz; subst hz; exact h4
  · simp at hy
theorem putIsThere_any (cs : List Value) (c : Cache) (d : ByteArray) (n at_ : Int) (W : World) (h : rCache W W.heap.size c cs) : Calls Tryd.prog 3 #[.agg cs.toArray, .string d, .int .i64 n, .int .i64 at_] W fun e w' => e = .returned (.bool true) ∧ Below W.heap.size W w' :=
  (putIsThere_law c d n at_ (cache_bound h)).callsA rfl (args4q (fz_cache.agg len_cache h) (.f (.str _)) (.f (.int _ _)) (.f (.int _ _)))
end Go.Proofs.YtchiicfnejmmbaaDoor
