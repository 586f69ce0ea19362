/-
  The plain law of the cache's steps: what stays in order. No statement of the seat is proved here; no conditions.
-/
import Derived.Test.YtchiicfnejmmbaaDoorCaX
namespace Go.Proofs.YtchiicfnejmmbaaDoor
open Go.RowKit Go.Shelf
set_option linter.unusedVariables false
set_option linter.unusedSimpArgs false

theorem rising_ins {α : Type} {key : α → ByteArray} {l : List α} (h : Rising key l) (x : α) (hn : hasK key l (key x) = false) :
  Rising key (l.take (bsIdx (fun b => cmpB (key b) (key x)) l) ++ x :: l.drop (bsIdx (fun b => cmpB (key b) (key x)) l)) := by
 obtain ⟨h1,h2,h3⟩ := bs_lt (cf := fun b => cmpB (key b) (key x)) (mono_of h (key x))
 generalize bsIdx (fun b => cmpB (key b) (key x)) l = i at *
 have hne : ∀ y ∈ l,key y ≠ key x := fun y hy he => by
  rw [hasK,List.any_eq_false] at hn
  exact hn y hy (by simpa using he)
 have hp : l.Pairwise fun a b => strLt (key a) (key b) = true := by
  rw [List.pairwise_iff_getElem]
  intro i j hi hj hij
  exact h i j _ _ hij (List.getElem?_eq_getElem hi) (List.getElem?_eq_getElem hj)
 have hq : (l.take i ++ x :: l.drop i).Pairwise fun a b => strLt (key a) (key b) = true := by
  rw [List.pairwise_append]
  refine ⟨List.Pairwise.sublist (List.take_sublist _ _) hp,List.pairwise_cons.2 ⟨fun y hy => ?_,List.Pairwise.sublist (List.drop_sublist _ _) hp⟩,fun a ha b hb => ?_⟩
  ·obtain ⟨m,hm⟩ := List.mem_iff_getElem?.1 hy
   rw [List.getElem?_drop] at hm
   have k := h3 (i + m) y (by omega) hm
   have k2 := hne y (List.mem_of_getElem? hm)
   cases hl : strLt (key y) (key x) with
   | true => exact absurd (cmpB_lt.2 hl) k
   | false => exact (strLt_total hl).resolve_left k2
  ·obtain ⟨m,hm⟩ := List.mem_iff_getElem?.1 ha
   have hlt : m < i := by
    have := (List.getElem?_eq_some_iff.1 hm).1
    rw [List.length_take] at this;omega
   rw [List.getElem?_take,if_pos hlt] at hm
   rcases List.mem_cons.1 hb with rfl | hb
   ·exact cmpB_lt.1 (h2 m a hlt hm)
   ·obtain ⟨n,hn2⟩ := List.mem_iff_getElem?.1 hb
    rw [List.getElem?_drop] at hn2
    exact h m (i + n) a b (by omega) hm hn2
 have hr := List.pairwise_iff_getElem.1 hq
 intro i j a b hij ha hb
 obtain ⟨k1,rfl⟩ := List.getElem?_eq_some_iff.1 ha
 obtain ⟨k2,rfl⟩ := List.getElem?_eq_some_iff.1 hb
 exact hr i j k1 k2 hij
end Go.Proofs.YtchiicfnejmmbaaDoor
