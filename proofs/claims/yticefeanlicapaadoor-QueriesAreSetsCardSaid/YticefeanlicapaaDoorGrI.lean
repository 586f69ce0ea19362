/-
  awake, walked. No statement of the seat is proved here; no conditions.
-/
import Derived.Test.YticefeanlicapaaDoorGrP
namespace Go.Proofs.YticefeanlicapaaDoor
open Go.RowKit Go.Shelf
set_option linter.unusedVariables false
set_option linter.unusedSimpArgs false
set_option maxRecDepth 100000

def ndA : Node := (⟨#[47,47,58,97]⟩,⟨#[107]⟩,[],[],[],0)
theorem treeErr_A : treeErr [ndA] = 0 := by decide
theorem orderOf_A : orderOf [ndA] = some [0] := by decide
theorem bound_A : GBound [ndA] := ⟨by decide,fun n hn => by
 rw [List.mem_singleton.1 hn]
 exact ⟨by decide,by decide,(fun d hd => by cases hd),by decide,by decide,(fun d hd => by cases hd)⟩⟩
theorem awake_f : FRet Tryd.prog 5 [] [.c (.v (.bool true))] := by
 have hO := Order_f [ndA] bound_A
 rw [treeErr_A,orderOf_A,if_pos rfl] at hO
 change FRet Tryd.prog 11 [.f (frNodes [ndA])] [.c (.v (frStrs [⟨#[47,47,58,97]⟩])),.c (.v (.int .i64 0))] at hO
 refine FCall.of_ax low_law4_awake ?_
 dsimp only [l_law4_awake]
 refine srun_sound 300 _ _ _ _ ?_
 repeat' (first
  | (simp -implicitDefEqProofs only [*,zr,Nat.reduceAdd,Nat.reduceSub,Nat.reduceMul,Nat.reduceLT,Nat.reduceLeDiff,Nat.reduceEqDiff,Nat.reduceBEq,reduceIte,reduceCtorEq,Int.reduceLE,Int.reduceLT,Int.reduceToNat,Int.reduceEq,Int.reduceNe])
  | ((first|apply zk0|apply zk1|apply zk2|apply zk3|apply zk4|apply zk5|apply zk6|apply zk7|apply zk8|apply zk9) <;> intro hc)
  |(refine callP0 rfl ?_)
  |(refine callD0 rfl ?_)
  | fail)
 refine ax_weakA [] (nw := []) (n := 22) (el := [(5,.sl 5 1 6 0 1)]) (hl := [(5,1,.cells ((fNode ndA).map .f))]) rfl ?_ ?_
 ·refine wk_i ?_ ?_ <;> simp only [fNode,ndA,frStrs,so_ff',zw,Nat.reduceEqDiff,Nat.reduceBEq,Nat.reduceLT,Nat.reduceLeDiff,reduceIte,reduceCtorEq]
  exact ⟨_,rfl⟩
 refine ax_weakA [] (nw := []) (n := 22) (el := [(5,.f (frNodes [ndA]))]) (hl := []) rfl ?_ ?_
 ·refine ⟨rfl,small_mk rfl,rfl,rfl,⟨rfl,rfl,rfl,rfl,rfl⟩,⟨by decide,?_,trivial⟩,trivial⟩
  exact so_sl rfl rfl rfl (fun x hx => by rw [List.mem_singleton.1 hx];rfl) (by simp)
 have d1 : decide (((1 : Nat) : Int) = 1) = true := rfl
 repeat' (first
  | (simp -implicitDefEqProofs only [*,frStrs,zr,Nat.reduceAdd,Nat.reduceSub,Nat.reduceMul,Nat.reduceLT,Nat.reduceLeDiff,Nat.reduceEqDiff,Nat.reduceBEq,reduceIte,reduceCtorEq,Int.reduceLE,Int.reduceLT,Int.reduceToNat,Int.reduceEq,Int.reduceNe])
  | ((first|apply zk0|apply zk1|apply zk2|apply zk3|apply zk4|apply zk5|apply zk6|apply zk7|apply zk8|apply zk9) <;> intro hc)
  |(refine callP0 rfl ?_)
  |(refine callD0 rfl ?_)
  |(refine cP (hO) ?_)
  |(refine cD (hO) ?_)
  |(refine cF (hO) ?_)
  | fail)
 exact ret_ve rfl
end Go.Proofs.YticefeanlicapaaDoor
