/-
  Graphs as the laws' arguments. No statement of the seat is proved here; no conditions.
-/
import Derived.Test.YticefeanlicapaaDoorGrI
import Derived.Test.YticefeanlicapaaDoorEngR
import Derived.Test.YticefeanlicapaaDoorOpenS
namespace Go.Proofs.YticefeanlicapaaDoor
open Go.RowKit
set_option linter.unusedVariables false
set_option linter.unusedSimpArgs false

abbrev rNode : Rep Node := rPair rStr (rPair rStr (rPair (rSl 1 16 rStr) (rPair (rSl 1 16 rStr) (rPair (rSl 1 16 rStr) (rI .i64)))))
theorem len_s : ∀ w B x cs,rStr w B x cs → cs.length = 1 := by rintro w B x cs ⟨rfl,_⟩;rfl
theorem len_sl {α : Type} {sz bts : Nat} {R : Rep α} : ∀ w B x cs,rSl sz bts R w B x cs → cs.length = 1 := by rintro w B x cs ⟨A,c,rfl,_⟩;rfl
theorem fz_strs : Fz (rSl 1 16 rStr) 1 (fun l => [frStrs l]) := fz_sl fz_str
theorem fz_node : Fz rNode 6 fNode := fz_pair fz_str len_s (fz_pair fz_str len_s (fz_pair fz_strs len_sl (fz_pair fz_strs len_sl (fz_pair fz_strs len_sl fz_int))))
theorem fz_nodes : Fz (rSl 6 112 rNode) 1 (fun l => [frNodes l]) := fz_sl fz_node
theorem rSl.all {α : Type} {sz bts : Nat} {R : Rep α} {w : World} {B : Nat} {l : List α} {cs : List Value} (h : rSl sz bts R w B l cs) : (l.length : Int) ≤ 9223372036854775807 ∧ ∀ x ∈ l,∃ vs,R w B x vs := by
 obtain ⟨A,c,_,h1,h2,_,h3⟩ := h
 refine ⟨by unfold maxLen at h2;omega,fun x hx => ?_⟩
 obtain ⟨k,hk⟩ := List.mem_iff_getElem?.1 hx
 obtain ⟨b,o,_,_,h4⟩ := h3 (by have := (List.getElem?_eq_some_iff.1 hk).1;omega)
 obtain ⟨vs,_,h5,_⟩ := h4 k x hk
 exact ⟨vs,h5⟩
theorem strs_bound {w : World} {B : Nat} {l : List ByteArray} {cs : List Value} (h : rSl 1 16 rStr w B l cs) : (l.length : Int) ≤ 9223372036854775807 ∧ ∀ d ∈ l,(d.size : Int) ≤ 140737488355328 :=
 ⟨h.all.1,fun d hd => by obtain ⟨vs,h1⟩ := h.all.2 d hd;have := h1.2;omega⟩
theorem node_bound {w : World} {B : Nat} {n : Node} {cs : List Value} (h : rNode w B n cs) : NBound n := by
 obtain ⟨_,_,_,h1,_,_,_,_,_,_,_,h3,_,_,_,h4,_,_,_,h5,_⟩ := h
 exact ⟨by have := h1.2;omega,(strs_bound h3).1,(strs_bound h3).2,(strs_bound h4).1,(strs_bound h5).1,(strs_bound h5).2⟩
theorem graph_bound {w : World} {B : Nat} {g : Graph} {cs : List Value} (h : rSl 6 112 rNode w B g cs) : GBound g :=
 ⟨h.all.1,fun n hn => by obtain ⟨vs,h1⟩ := h.all.2 n hn;exact node_bound h1⟩
end Go.Proofs.YticefeanlicapaaDoor
