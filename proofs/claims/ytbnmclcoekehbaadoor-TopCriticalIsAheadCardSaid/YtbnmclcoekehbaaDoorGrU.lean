/-
  Graphs on the machine: ways. No statement of the seat is proved here; no conditions.
-/
import Derived.Test.YtbnmclcoekehbaaDoorGrT
namespace Go.Proofs.YtbnmclcoekehbaaDoor
open Go.RowKit Go.Shelf
set_option linter.unusedVariables false
set_option linter.unusedSimpArgs false
set_option maxRecDepth 100000

def isNext (F : List Int) (a k : Nat) : Bool := decide (0 ≤ F.getD k 0) && decide (F.getD k 0 = F.getD a 0 - 1)
def nextV (F : List Int) (row : List Nat) (a : Nat) : Nat := (row.find? fun k => isNext F a k).getD a
def wayGo (D : List (List Nat)) (F : List Int) : Nat → Nat → List Nat
  | 0, _ => []
  | m + 1, a => nextV F (D.getD a []) a :: wayGo D F m (nextV F (D.getD a []) a)
def wayV (D : List (List Nat)) (F : List Int) (a : Nat) : List Nat := a :: wayGo D F (F.getD a 0).toNat a
/-- Users are those that need. -/
def Mutual (n : Nat) (D U : List (List Nat)) : Prop := ∀ u x, u < n → x < n → x ∈ U.getD u [] → u ∈ D.getD x []
theorem next_is {n : Nat} {D U : List (List Nat)} {F : List Int} {b a : Nat} (hm : Mutual n D U) (hs : StepsSpec U [b] n F) (ha : a < n) (h0 : 0 ≤ F.getD a 0) (hab : a ≠ b) : ∃ k ∈ D.getD a [], isNext F a k = true := by
  rcases hs.pred a ha h0 with ⟨h1, _⟩ | ⟨i, hi, h1, h2, h3⟩
  · exact absurd (List.mem_singleton.1 h1) hab
  · exact ⟨i, hm i a hi ha h1, by unfold isNext; rw [Bool.and_eq_true, decide_eq_true_eq, decide_eq_true_eq]; omega⟩
theorem next_mem {F : List Int} {row : List Nat} {a : Nat} (h : ∃ k ∈ row, isNext F a k = true) : nextV F row a ∈ row ∧ isNext F a (nextV F row a) = true := by
  unfold nextV
  cases e : row.find? fun k => isNext F a k with
  | none =>
    obtain ⟨k, h1, h2⟩ := h
    rw [List.find?_eq_none] at e
    exact absurd h2 (e k h1)
  | some k => exact ⟨List.mem_of_find?_eq_some e, List.find?_some e⟩
end Go.Proofs.YtbnmclcoekehbaaDoor
