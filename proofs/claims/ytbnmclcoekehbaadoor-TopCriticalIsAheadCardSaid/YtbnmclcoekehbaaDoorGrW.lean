/-
  Graphs on the machine: Loop. No statement of the seat is proved here; no conditions.
-/
import Derived.Test.YtbnmclcoekehbaaDoorGrV
import Derived.Test.YtbnmclcoekehbaaDoorGrP
namespace Go.Proofs.YtbnmclcoekehbaaDoor
open Go.RowKit Go.Shelf
set_option linter.unusedVariables false
set_option linter.unusedSimpArgs false
set_option maxRecDepth 100000

theorem net_mutual {g : Graph} (h : GOk g) : Mutual g.length (allDeps g) (usersOf g) := fun u x hu hx hm => by
  have h1 := usTo_count (D := allDeps g) (x := x) hu g.length
  rw [if_pos hx] at h1
  have h2 : 0 < ((usersOf g).getD u []).count x := List.count_pos_iff.2 hm
  rw [usersOf, h1] at h2
  exact List.count_pos_iff.1 h2
theorem rowD_lt {n : Nat} {D U : List (List Nat)} (hN : NetOk n D U) (a : Nat) : ∀ k ∈ D.getD a [], k < n := fun k hk => by
  rw [List.getD_eq_getElem?_getD] at hk
  cases e : D[a]? with
  | none => rw [e] at hk; cases hk
  | some r => rw [e] at hk; exact (hN.dr r (List.mem_of_getElem? e)).2 k hk
theorem rowU_lt {n : Nat} {D U : List (List Nat)} (hN : NetOk n D U) (a : Nat) : ∀ k ∈ U.getD a [], k < n := fun k hk => by
  rw [List.getD_eq_getElem?_getD] at hk
  cases e : U[a]? with
  | none => rw [e] at hk; cases hk
  | some r => rw [e] at hk; exact (hN.ur r (List.mem_of_getElem? e)).2 k hk
theorem next_lt {n : Nat} {F : List Int} {row : List Nat} {a : Nat} (ha : a < n) (h : ∀ k ∈ row, k < n) : nextV F row a < n := by
  unfold nextV
  cases e : row.find? fun k => isNext F a k with
  | none => exact ha
  | some k => exact h k (List.mem_of_find?_eq_some e)
theorem wayGo_lt {n : Nat} {D U : List (List Nat)} {F : List Int} (hN : NetOk n D U) : ∀ (m a : Nat), a < n → (wayGo D F m a).length = m ∧ ∀ k ∈ wayGo D F m a, k < n
  | 0, a, _ => ⟨rfl, fun k hk => by cases hk⟩
  | m + 1, a, ha => by
    have h1 := next_lt (F := F) ha (rowD_lt hN a)
    obtain ⟨h2, h3⟩ := wayGo_lt (F := F) hN m _ h1
    refine ⟨by rw [wayGo, List.length_cons, h2], fun k hk => ?_⟩
    rw [wayGo] at hk
    rcases List.mem_cons.1 hk with rfl | hk
    · exact h1
    · exact h3 k hk
def loopOf (g : Graph) : Option (List Nat) := loopV (allDeps g) (usersOf g) g.length
end Go.Proofs.YtbnmclcoekehbaaDoor
