/-
  WireTakesAgain and WireTakesStayRight. No statement of the seat is proved here; no conditions.
-/
import Derived.Test.YtjacnfjlocajoaaDoorWrS
import Derived.Test.YtjacnfjlocajoaaDoorAwk8
namespace Go.Proofs.YtjacnfjlocajoaaDoor
open Go.RowKit Go.Shelf
set_option linter.unusedVariables false
set_option linter.unusedSimpArgs false
set_option maxRecDepth 100000

theorem dropWhile_nil {α : Type} (p : α → Bool) : ∀ l : List α,(l.dropWhile p).isEmpty = l.all p
 | [] => rfl
 | a :: l => by
  cases h : p a
  ·simp [List.dropWhile,h]
  ·simp [List.dropWhile,h,dropWhile_nil p l]
theorem trimS_nil (l cs : List UInt8) (h : l.all (cs.contains ·) = true) : (Lib.trimS l cs).isEmpty = true := by
 unfold Lib.trimS Lib.trimLeftS Lib.trimRightS
 rw [dropWhile_nil]
 have h2 : (l.reverse.dropWhile (cs.contains ·)).isEmpty = true := by rw [dropWhile_nil,List.all_reverse];exact h
 rw [List.isEmpty_iff.1 h2];rfl
theorem digTo_hex (n : Int) : ∀ s,s ≤ 16 → ∀ i,16 - s ≤ i → ∀ x,(digTo n s).1[i]? = some x → hexS.contains x = true
 | 0,_,i,h,x,hx => by
  have := (List.getElem?_eq_some_iff.1 hx).1
  rw [digTo_len] at this
  omega
 | s + 1,hs,i,h,x,hx => by
  have hl := (List.getElem?_eq_some_iff.1 hx).1
  rw [digTo_len] at hl
  rw [digTo] at hx
  dsimp only at hx
  by_cases e : 15 - s = i
  ·rw [e,List.getElem?_set_self (by rw [digTo_len];exact hl)] at hx
   obtain rfl := Option.some.inj hx
   have := hex_at (and15 (digTo n s).2)
   exact List.contains_iff_mem.2 (show _ ∈ hexS from List.mem_of_getElem? this)
  ·rw [List.getElem?_set_ne e] at hx
   exact digTo_hex n s (by omega) i (by omega) x hx
theorem isDig_digV {b : List UInt8} : isDig (digV b) = true := by
 have hl := digTo_len (digN b) 16
 have key := digTo_hex (digN b) 16 (Nat.le_refl _)
 unfold isDig digV
 generalize digTo (digN b) 16 = L at *
 rw [Bool.and_eq_true]
 refine ⟨?_,?_⟩
 ·simp [ByteArray.size,hl]
 ·refine trimS_nil _ _ (List.all_eq_true.2 fun x hx => ?_)
  have hx' : x ∈ L.1 := by simpa using hx
  obtain ⟨i,hi⟩ := List.mem_iff_getElem?.1 hx'
  exact key i (by omega) x hi
structure RcS (r : Rc) : Prop where
 l : (r.1.length : Int) ≤ 9223372036854775807 ∧ (r.2.length : Int) ≤ 9223372036854775807
 b : (∀ x ∈ r.1,(x.2.length : Int) ≤ 9223372036854775807) ∧ ∀ x ∈ r.2,(x.2.2.length : Int) ≤ 9223372036854775807
end Go.Proofs.YtjacnfjlocajoaaDoor
