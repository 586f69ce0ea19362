/-
  A call in a drawn region that shares the five high numbers. No statement of the seat is proved here; no conditions.
-/
import Derived.Test.YthniagdphhcnkaaGreatDoorHi5
namespace Go.Proofs.YthniagdphhcnkaaGreatDoor
open Go.RowKit
set_option linter.unusedVariables false
set_option linter.unusedSimpArgs false

def W5 : List Nat := [100001,100002,100101,100102,100103]
theorem mem_W5 {id : Nat} : id ∈ W5 ↔ isHi id = true := by
 simp only [W5,isHi,List.mem_cons,List.not_mem_nil,or_false,decide_eq_true_eq]
def hiObjs5 (hl : List (Nat × Nat × AObj)) : Bool := hl.all fun p => match p.2.2 with
 | .cells cs => cs.all AV.hi5
 | .ty cs _ => cs.all AV.hi5
 | _ => true
theorem hiC5_at {H : Heap} {hl : List (Nat × Nat × AObj)} (h : ∀ id,isHi id = true → H id = lookH id hl) (ho : hiObjs5 hl = true) : HiC5 H := fun id hid cs hc => by
 rw [h id hid] at hc
 rcases hc with hc | ⟨t,hc⟩
 all_goals
  obtain ⟨p,hp,_,h2⟩ := lookH_mem hc
  have := List.all_eq_true.1 ho p hp
  rw [h2] at this
  exact this
section
variable {P : Program} {R : Env → Heap → Prop} {Λ : Lams} {k : List It} {env : Env} {H : Heap} {d j : Nat} {f : Operand} {args : List Operand} {g : Option (Nat × Bool)} {dos : List DO} {acc : List Fp} {od : List Nat} {fid : FuncId} {args' : List AV}
end
end Go.Proofs.YthniagdphhcnkaaGreatDoor
