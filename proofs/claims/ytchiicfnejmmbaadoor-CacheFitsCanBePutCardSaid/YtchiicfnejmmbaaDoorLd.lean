/-
  The laws of a step of the cache, for all arguments. No statement of the seat is proved here; no conditions.
-/
import Derived.Test.YtchiicfnejmmbaaDoorLc
import Derived.Test.YtchiicfnejmmbaaDoorCaL
namespace Go.Proofs.YtchiicfnejmmbaaDoor
open Go.RowKit Go.Shelf
set_option linter.unusedVariables false
set_option linter.unusedSimpArgs false

theorem args4q {G : Ghost} {Z : Nat → Prop} {w : World} {a b c d : AV} {u v x y : Value} (h1 : RepA G Z w a u) (h2 : RepA G Z w b v) (h3 : RepA G Z w c x) (h4 : RepA G Z w d y) : ∀ (j : Nat) (s : AV) (z : Value),[a,b,c,d][j]? = some s → (#[u,v,x,y] : Array Value)[j]? = some z → RepA G Z w s z := by
 intro j s z hy hz
 rcases j with _ | _ | _ | _ | j
 ·obtain rfl := Option.some.inj hy;simp at hz;subst hz;exact h1
 ·obtain rfl := Option.some.inj hy;simp at hz;subst hz;exact h2
 ·obtain rfl := Option.some.inj hy;simp at hz;subst hz;exact h3
 ·obtain rfl := Option.some.inj hy;simp at hz;subst hz;exact h4
 ·simp at hy
theorem args2q {G : Ghost} {Z : Nat → Prop} {w : World} {a b : AV} {u v : Value} (h1 : RepA G Z w a u) (h2 : RepA G Z w b v) : ∀ (j : Nat) (s : AV) (z : Value),[a,b][j]? = some s → (#[u,v] : Array Value)[j]? = some z → RepA G Z w s z := by
 intro j s z hy hz
 rcases j with _ | _ | j
 ·obtain rfl := Option.some.inj hy;simp at hz;subst hz;exact h1
 ·obtain rfl := Option.some.inj hy;simp at hz;subst hz;exact h2
 ·simp at hy
abbrev rEv : Rep Ev := rPair (rI .i64) (rPair (rI .i64) (rPair rStr (rPair (rSl 1 16 rStr) (rPair rStr (rI .i64)))))
def fEv (e : Ev) : List FV := [.int .i64 e.1,.int .i64 e.2.1,.str e.2.2.1,frStrs e.2.2.2.1,.str e.2.2.2.2.1,.int .i64 e.2.2.2.2.2]
theorem fz_ev : Fz rEv 6 fEv := fz_pair fz_int len_i (fz_pair fz_int len_i (fz_pair fz_str len_s (fz_pair fz_strs len_sl (fz_pair fz_str len_s fz_int))))
theorem len_ev : ∀ w B x cs,rEv w B x cs → cs.length = 6 := len_pair len_i (len_pair len_i (len_pair len_s (len_pair len_sl (len_pair len_s len_i))))
theorem ev_bound {w : World} {B : Nat} {e : Ev} {cs : List Value} (h : rEv w B e cs) : (e.2.2.2.1.length : Int) ≤ 9223372036854775807 := by
 obtain ⟨_,_,_,_,_,_,_,_,_,_,_,_,_,_,_,h,_⟩ := h
 exact h.all.1
theorem putIsThere_any (cs : List Value) (c : Cache) (d : ByteArray) (n at_ : Int) (W : World) (h : rCache W W.heap.size c cs) : Calls Tryd.prog 3 #[.agg cs.toArray,.string d,.int .i64 n,.int .i64 at_] W fun e w' => e = .returned (.bool true) ∧ Below W.heap.size W w' :=
 (putIsThere_law c d n at_ (cache_bound h)).callsA rfl (args4q (fz_cache.agg len_cache h) (.f (.str _)) (.f (.int _ _)) (.f (.int _ _)))
theorem fitsCanBePut_any (cs : List Value) (c : Cache) (d : ByteArray) (n at_ : Int) (W : World) (h : rCache W W.heap.size c cs) : Calls Tryd.prog 6 #[.agg cs.toArray,.string d,.int .i64 n,.int .i64 at_] W fun e w' => e = .returned (.bool true) ∧ Below W.heap.size W w' :=
 (fitsCanBePut_law c d n at_ (cache_bound h)).callsA rfl (args4q (fz_cache.agg len_cache h) (.f (.str _)) (.f (.int _ _)) (.f (.int _ _)))
theorem findsWhole_any (cs : List Value) (c : Cache) (key : ByteArray) (A : Option Addr) (n k : Nat) (ds : List ByteArray) (at_ : Int) (W : World) (h : rCache W W.heap.size c cs) (hr : rSl 1 16 rStr W W.heap.size ds [.slice A n k]) : Calls Tryd.prog 4 #[.agg cs.toArray,.string key,.slice A n k,.int .i64 at_] W fun e w' => e = .returned (.bool true) ∧ Below W.heap.size W w' :=
 (findsWhole_law c key ds at_ (cache_bound h) hr.all.1).callsA rfl (args4q (fz_cache.agg len_cache h) (.f (.str _)) (.f (fz_strs.one (a := frStrs) hr)) (.f (.int _ _)))
theorem heldStays_any (cs ce : List Value) (c : Cache) (e : Ev) (W : World) (h : rCache W W.heap.size c cs) (he : rEv W W.heap.size e ce) : Calls Tryd.prog 5 #[.agg cs.toArray,.agg ce.toArray] W fun e w' => e = .returned (.bool true) ∧ Below W.heap.size W w' :=
 (heldStays_law c e (cache_bound h) (ev_bound he)).callsA rfl (args2q (fz_cache.agg len_cache h) (fz_ev.agg len_ev he))
end Go.Proofs.YtchiicfnejmmbaaDoor
