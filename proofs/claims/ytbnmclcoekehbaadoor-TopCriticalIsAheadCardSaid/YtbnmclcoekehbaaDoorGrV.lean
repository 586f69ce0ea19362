/-
  Graphs on the machine: the loop that is told. No statement of the seat is proved here; no conditions.
-/
import Derived.Test.YtbnmclcoekehbaaDoorGrU
namespace Go.Proofs.YtbnmclcoekehbaaDoor
open Go.RowKit Go.Shelf
set_option linter.unusedVariables false
set_option linter.unusedSimpArgs false
set_option maxRecDepth 100000

section
variable {P : Program} {R : Env → Heap → Prop} {Λ : Lams} {k : List It} {env : Env} {H : Heap} {d : Nat} {f : Operand} {args : List Operand} {g : Option (Nat × Bool)} {los : List LO} {fid : FuncId} {args' : List AV} {rs : List RS}
end
def bStep (F : List Int) (b : Option Nat) (k : Nat) : Option Nat := match b with
  | none => if 0 ≤ F.getD k 0 then some k else none
  | some c => if 0 ≤ F.getD k 0 ∧ F.getD k 0 < F.getD c 0 then some k else some c
def bestV (F : List Int) (row : List Nat) : Option Nat := row.foldl (bStep F) none
def loopAt (D U : List (List Nat)) (n i : Nat) : Option (List Nat) := (bestV (stepsV U n [i]) (D.getD i [])).map fun c => (i :: wayV D (stepsV U n [i]) c).dropLast
def loopV (D U : List (List Nat)) (n : Nat) : Option (List Nat) := (List.range n).findSome? (loopAt D U n)
/-- The best one so far can be reached. -/
theorem best_ok {F : List Int} {n : Nat} : ∀ {l : List Nat} {b : Option Nat}, (∀ k ∈ l, k < n) → (∀ c, b = some c → c < n ∧ 0 ≤ F.getD c 0) → ∀ c, l.foldl (bStep F) b = some c → c < n ∧ 0 ≤ F.getD c 0
  | [], b, _, hb, c, h => hb c h
  | k :: l, b, hl, hb, c, h => by
    rw [List.foldl_cons] at h
    refine best_ok (l := l) (fun j hj => hl j (List.mem_cons_of_mem _ hj)) (fun c' hc' => ?_) c h
    have hk := hl k (List.mem_cons_self ..)
    unfold bStep at hc'
    split at hc'
    · split at hc'
      · rename_i h1; obtain rfl := Option.some.inj hc'; exact ⟨hk, h1⟩
      · cases hc'
    · rename_i c0
      split at hc'
      · rename_i h1; obtain rfl := Option.some.inj hc'; exact ⟨hk, h1.1⟩
      · obtain rfl := Option.some.inj hc'; exact hb _ rfl
end Go.Proofs.YtbnmclcoekehbaaDoor
