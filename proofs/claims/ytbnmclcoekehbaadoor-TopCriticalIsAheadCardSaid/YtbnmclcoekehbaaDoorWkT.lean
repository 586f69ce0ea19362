/-
  The law TopCriticalIsAhead at every list of works in memory. No statement of the seat is proved here; no conditions.
-/
import Derived.Test.YtbnmclcoekehbaaDoorWkL
import Derived.Test.YtbnmclcoekehbaaDoorWkS
import Derived.Test.YtbnmclcoekehbaaDoorGrL
namespace Go.Proofs.YtbnmclcoekehbaaDoor
open Go.RowKit Go.Shelf
set_option linter.unusedVariables false
set_option linter.unusedSimpArgs false
set_option maxRecDepth 100000

theorem critF : CritF := fun l h => fret_new (by kernel_rfl) (critical_c l h)
abbrev rWork : Rep Work := rPair rStr (rPair (rSl 2 32 (rPair rStr rStr)) (rPair (rI .i64) (rSl 1 16 rStr)))
theorem len_i : ∀ w B x cs, rI .i64 w B x cs → cs.length = 1 := by rintro w B x cs ⟨rfl, _⟩; rfl
theorem fz_pr : Fz (rPair rStr rStr) 2 fPair := fz_pair fz_str len_s fz_str
theorem fz_prs : Fz (rSl 2 32 (rPair rStr rStr)) 1 (fun l => [frPairs l]) := fz_sl fz_pr
theorem fz_work : Fz rWork 4 fWork := fz_pair fz_str len_s (fz_pair fz_prs len_sl (fz_pair fz_int len_i fz_strs))
theorem fz_works : Fz (rSl 4 72 rWork) 1 (fun l => [frWorks l]) := fz_sl fz_work
theorem works_bound {w : World} {B : Nat} {l : List Work} {cs : List Value} (h : rSl 4 72 rWork w B l cs) : WBound l :=
  ⟨h.all.1, fun x hx => by
    obtain ⟨vs, h1⟩ := h.all.2 x hx
    obtain ⟨_, _, _, _, _, _, _, h3, _, _, _, _, h5⟩ := h1
    exact ⟨h3.all.1, h5.all.1⟩⟩
theorem crit_any (A : Option Addr) (n c : Nat) (l : List Work) (W : World) (h : rSl 4 72 rWork W W.heap.size l [.slice A n c]) :
    Calls Tryd.prog 3 #[.slice A n c] W fun e w' => e = .returned (.bool true) ∧ Below W.heap.size W w' := by
  refine FRet.calls (xs := [frWorks l]) (crit_law critF l (works_bound h)) rfl fun j x v hx hv => ?_
  rcases j with _ | j
  · obtain rfl := Option.some.inj hx; obtain rfl := Option.some.inj hv; exact fz_works.one h
  · simp at hx
end Go.Proofs.YtbnmclcoekehbaaDoor
