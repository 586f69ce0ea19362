/-
  What a call leaves behind a pointer, with the cells behind forgotten; single cells of rows that are set. No statement of the seat is proved here; no conditions.
-/
import Derived.Test.YtalfepdfiehecaaDoorCap
namespace Go.Proofs.YtalfepdfiehecaaDoor
open Go.RowKit
set_option linter.unusedVariables false
set_option linter.unusedSimpArgs false

theorem splice_1 : ∀ (cs : List AV) (k : Nat) (a : AV),splice cs k [a] = cs.set k a := fun cs k a => rfl
theorem row_set1 {α : Type} {enc : α → List FV} {sz : Nat} {l : List α} {i j : Nat} {x y : α} {v : FV} (hs : ∀ x,(enc x).length = sz) (h : l[i]? = some x) (hj : j < sz) (he : enc y = (enc x).set j v) : splice ((rowF enc l).map AV.f) (i * sz + j) [.f v] = (rowF enc (l.set i y)).map .f := by
 obtain ⟨h1,h2⟩ := row_split hs h
 have hlt := (List.getElem?_eq_some_iff.1 h).1
 obtain ⟨h3,-⟩ := row_split (l := l.set i y) (i := i) (x := y) hs (by rw [List.getElem?_set_self hlt])
 have e1 : (l.set i y).take i = l.take i := by rw [List.take_set_of_le (Nat.le_refl _)]
 have e2 : (l.set i y).drop (i + 1) = l.drop (i + 1) := by rw [List.drop_set_of_lt (by omega)]
 rw [e1,e2] at h3
 rw [splice_1,h3,h1,he]
 have hx : j < (enc x).length := by rw [hs];exact hj
 have : ((rowF enc (l.take i) ++ (enc x ++ rowF enc (l.drop (i + 1)))).map AV.f).set (i * sz + j) (.f v) = ((rowF enc (l.take i) ++ (enc x ++ rowF enc (l.drop (i + 1)))).set (i * sz + j) v).map AV.f := by rw [List.map_set]
 rw [this,List.set_append_right _ _ (by omega),h2,Nat.add_sub_cancel_left,List.set_append_left _ _ hx]
theorem row_take {α : Type} {enc : α → List FV} {sz : Nat} (hs : ∀ x,(enc x).length = sz) : ∀ (l : List α) (k : Nat),(rowF enc l).take (k * sz) = rowF enc (l.take k)
 | [],k => by simp [rowF]
 | x :: l,0 => by simp [rowF]
 | x :: l,k + 1 => by
  rw [List.take_succ_cons,row_cons,row_cons,Nat.add_mul,Nat.one_mul,Nat.add_comm,← hs x,List.take_length_add_append,hs x,row_take hs l k]
theorem row_drop {α : Type} {enc : α → List FV} {sz : Nat} (hs : ∀ x,(enc x).length = sz) : ∀ (l : List α) (k : Nat),(rowF enc l).drop (k * sz) = rowF enc (l.drop k)
 | [],k => by simp [rowF]
 | x :: l,0 => by simp [rowF]
 | x :: l,k + 1 => by
  rw [List.drop_succ_cons,row_cons,Nat.add_mul,Nat.one_mul,Nat.add_comm,← hs x,List.drop_length_add_append,hs x,row_drop hs l k]
theorem splice_at (cs : List AV) (k : Nat) (xs : List AV) (h : k + xs.length ≤ cs.length) : splice cs k xs = cs.take k ++ (xs ++ cs.drop (k + xs.length)) := by
 have e : cs = cs.take k ++ ((cs.drop k).take xs.length ++ cs.drop (k + xs.length)) := by
  rw [← List.drop_drop,List.take_append_drop,List.take_append_drop]
 have h2 : (cs.take k).length = k := by rw [List.length_take];omega
 have := splice_mid xs (cs.take k) ((cs.drop k).take xs.length) (cs.drop (k + xs.length)) (by rw [List.length_take,List.length_drop];omega)
 rw [← e,h2] at this
 exact this
end Go.Proofs.YtalfepdfiehecaaDoor
