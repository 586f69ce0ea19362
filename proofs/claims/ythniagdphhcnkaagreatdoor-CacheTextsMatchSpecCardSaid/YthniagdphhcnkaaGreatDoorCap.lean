/-
  Calls whose obligations are met by themselves; slices that are sliced further than they are long, numbers appended, appends within a row. No statement of the seat is proved here; no conditions.
-/
import Derived.Test.YthniagdphhcnkaaGreatDoorPtr
import Derived.Lib.AppendZerosOnto
import Derived.Lib.Overlaps
namespace Go.Proofs.YthniagdphhcnkaaGreatDoor
open Go.RowKit
set_option linter.unusedVariables false
set_option linter.unusedSimpArgs false

theorem row_le {α : Type} {enc : α → List FV} {sz : Nat} {l : List α} (hs : ∀ x,(enc x).length = sz) : l.length * sz ≤ (rowF enc l).length := by rw [row_len hs];exact Nat.le_refl _
theorem row_le2 {α : Type} {enc : α → List FV} {sz : Nat} {l : List α} {t : List FV} (hs : ∀ x,(enc x).length = sz) : l.length * sz ≤ (rowF enc l ++ t).length := by rw [List.length_append,row_len hs];exact Nat.le_add_right _ _
section
variable {P : Program} {R : Env → Heap → Prop} {Λ : Lams} {k : List It} {env : Env} {H : Heap} {d j : Nat} {f : Operand} {args : List Operand} {g : Option (Nat × Bool)} {los : List LO} {dos : List DO} {acc : List Fp} {od : List Nat} {fid : FuncId} {args' tl : List AV} {ri rs : List RS} {pcs pcs' : List RC}
theorem gP (hF : FRetP P fid pcs ri tl pcs' rs) (id ver : Nat) (cs l tl0 : List AV)
  (h : srun P R 300 Λ (.ops los :: k) (putE env (some d) (oneOrTup (putS d (nextCs 0 pcs') rs))) (upd (putHs d (nextCs 0 pcs') rs (putHcs d 0 pcs' (killL (idsC cs ++ idsS l) H))) id (ver,some (.cells (putCs d 0 pcs'))))) (hg : gd g env = some true := by rfl) (hfn : evA env f = .f (.fn (.func fid)) := by rfl) (ha : args.map (evA env) = .ptr id ver 0 :: (l ++ tl0) := by rfl) (hc : cellsOf ver (H id) = some cs := by rfl)
  (hpc : RcsOk H pcs cs := by (repeat (first|exact rfl | exact trivial | refine And.intro rfl ?_ | refine And.intro (Or.inr ⟨_,_,rfl,rfl,(by first | exact Nat.le_refl _ | exact row_le (fun _ => rfl) | exact row_le2 (fun _ => rfl))⟩) ?_));first | done | fail) (hri : RsOk H ri l := by (repeat (first|exact rfl | exact trivial | refine And.intro rfl ?_ | refine And.intro (Or.inr ⟨_,_,rfl,rfl,(by first | exact Nat.le_refl _ | exact row_le (fun _ => rfl) | exact row_le2 (fun _ => rfl))⟩) ?_));first | done | fail) (hnd : (idsC cs ++ idsS l).Nodup := by simp [idsC,idsS]) (hni : id ∉ idsC cs ++ idsS l := by simp [idsC,idsS]) (htl : LeL tl0 tl := by first | exact LeL.refl _ | ((repeat (first|exact LeL.refl _ | exact LeA.refl _ | exact LeA.nil _ | refine LeL.cons ?_ ?_ | refine LeA.agg ?_));first | done | fail)) (hp : tl.all AV.pure = true := by rfl) (hfree : Free d H := by first | exact free_0 | exact free_mk rfl | (repeat (first|exact free_0 | exact free_mk rfl | exact free_mk (by first | (simp;done) | fail) | refine free_upd rfl ?_ | refine free_kill ?_));first | done | fail) : Ax P R Λ (.ops (⟨some d,.call f args,g⟩ :: los) :: k) env H :=
 callPm hg hF hfn id ver cs l tl0 ha hc hpc hri hnd hni htl hp hfree h
end

section
variable {P : Program} {R : Env → Heap → Prop} {Λ : Lams} {k : List It} {env : Env} {H : Heap}
theorem RepA.slc_sl {G : Ghost} {Z : Nat → Prop} {w : World} {id ver sz off n c : Nat} {v : Value} (h : RepA G Z w (.slc id ver sz off n c) v) : RepA G Z w (.sl id ver sz off n) v := by
 cases h with
 | slcOld _ _ _ _ _ _ _ h1 h2 h3 => exact .slOld _ _ _ _ _ _ h1 h2 h3
 | slcLive _ _ _ _ _ _ g o h1 h2 h3 h4 => exact .slLive _ _ _ _ _ g o c h1 h2 h3 h4
theorem EnvR.reg {G : Ghost} {Z : Nat → Prop} {w : World} {env : Env} {t : Nat} {ts : Array Value} (hr : EnvR G Z w env ts) {a b : AV} (he : env.f t = a) (hna : a ≠ .any) (h : ∀ v,RepA G Z w a v → RepA G Z w b v) : EnvR G Z w { n := env.n,f := upd env.f t b } ts := by
 refine ⟨hr.len,fun i hi => ?_,fun i v hv => ?_⟩
 ·by_cases e : i = t
  ·subst e
   have := hr.out i hi
   rw [he] at this;exact absurd this hna
  ·show upd env.f t _ i = _
   rw [upd_ne (h := e)];exact hr.out i hi
 ·by_cases e : i = t
  ·subst e
   have := hr.at_ i v hv
   rw [he] at this
   show RepA G Z w (upd env.f i _ i) v
   rw [upd_same]
   exact h v this
  ·show RepA G Z w (upd env.f t _ i) v
   rw [upd_ne (h := e)];exact hr.at_ i v hv
def Stop : List It → Prop
 | .ops _ :: _ => True
 | .code _ :: _ => True
 | _ => False
def SlOf (a : AV) (id ver sz off n : Nat) : Prop := a = .sl id ver sz off n ∨ ∃ c,a = .slc id ver sz off n c
theorem SlOf.rep {a : AV} {id ver sz off n : Nat} (h : SlOf a id ver sz off n) {G : Ghost} {Z : Nat → Prop} {w : World} {v : Value} (hr : RepA G Z w a v) : RepA G Z w (.sl id ver sz off n) v := by
 rcases h with rfl | ⟨c,rfl⟩
 ·exact hr
 ·exact hr.slc_sl
end
end Go.Proofs.YthniagdphhcnkaaGreatDoor
