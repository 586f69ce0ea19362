/-
  The law that a cache is read as it was written, at the law's arguments. No statement of the seat is proved here; no conditions.
-/
import Derived.Test.YthniagdphhcnkaaDoorTxW
import Derived.Test.YthniagdphhcnkaaDoorLaidA
namespace Go.Proofs.YthniagdphhcnkaaDoor
open Go.RowKit Go.Shelf
set_option linter.unusedVariables false
set_option linter.unusedSimpArgs false

theorem kn_of {W : World} (h : Lib.TabIs Tryd.prog W "internal/strconv.uint64pow10" .u64 Lib.pow10Tab) : Kn Tryd.prog (fun b => b < W.heap.size) W := fun g hg => ⟨tab_lt hg h,h⟩
theorem args2t {G : Ghost} {Z : Nat → Prop} {w : World} {a b : AV} {u v : Value} (h1 : RepA G Z w a u) (h2 : RepA G Z w b v) : ∀ (j : Nat) (s : AV) (z : Value),[a,b][j]? = some s → (#[u,v] : Array Value)[j]? = some z → RepA G Z w s z := by
 intro j s z hs hz
 rcases j with _ | _ | j
 ·obtain rfl := Option.some.inj hs;obtain rfl := Option.some.inj hz;exact h1
 ·obtain rfl := Option.some.inj hs;obtain rfl := Option.some.inj hz;exact h2
 ·simp at hs
theorem comeBack_any (cs : List Value) (c : Cache) (s : ByteArray) (W : World) (h : rCache W W.heap.size c cs) (ht : Lib.TabIs Tryd.prog W "internal/strconv.uint64pow10" .u64 Lib.pow10Tab) : Calls Tryd.prog 3 #[.agg cs.toArray,.string s] W fun e w' => e = .returned (.bool true) ∧ Below W.heap.size W w' :=
 (comeBack_law c (cache_bound h) s).callsA rfl (args2t (fz_cache.agg len_cache h) (.f (.str _))) (kn_of ht)
end Go.Proofs.YthniagdphhcnkaaDoor
