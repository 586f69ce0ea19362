/-
  awake, of chapter 8. No statement of the seat is proved here; no conditions.
-/
import Derived.Test.YtjacnfjlocajoaaDoorWrS
import Derived.Test.YtjacnfjlocajoaaDoorLowR
namespace Go.Proofs.YtjacnfjlocajoaaDoor
open Go.RowKit Go.Shelf
set_option linter.unusedVariables false
set_option linter.unusedSimpArgs false
set_option maxRecDepth 100000

theorem quota_a : FRet Tryd.prog 53 [.agg [.f (.int .i64 2),.f (.int .i64 10)]] [.c (.v (.int .i64 0))] := by
 have k1 := within_f 2 1 1000000000
 have k2 := within_f 10 1 1000000000
 rw [show inRg 2 1 1000000000 = true by decide] at k1
 rw [show inRg 10 1 1000000000 = true by decide] at k2
 refine FCall.of_ax low_wire_CheckQuota ?_
 dsimp only [l_wire_CheckQuota]
 refine srun_sound 300 _ _ _ _ ?_
 repeat' (first
  | (simp -implicitDefEqProofs only [*,zr,Nat.reduceAdd,Nat.reduceSub,Nat.reduceMul,Nat.reduceLT,Nat.reduceLeDiff,Nat.reduceEqDiff,Nat.reduceBEq,reduceIte,reduceCtorEq,Int.reduceLE,Int.reduceLT,Int.reduceToNat,Int.reduceEq,Int.reduceNe])
  | ((first|apply zk0|apply zk1|apply zk2|apply zk3|apply zk4|apply zk5|apply zk6|apply zk7|apply zk8|apply zk9) <;> intro hc)
  |(refine callP0 rfl ?_)
  |(refine callD0 rfl ?_)
  |(refine cP (k1) ?_)
  |(refine cD (k1) ?_)
  |(refine cF (k1) ?_)
  |(refine cO (k1) ?_)
  |(refine cP (k2) ?_)
  |(refine cD (k2) ?_)
  |(refine cF (k2) ?_)
  |(refine cO (k2) ?_)
  | fail)
 exact ret_v
def asksF : FV := .fr 2 [[.int .i64 0,.int .i64 8],[.int .i64 0,.int .i64 8]]
def at8 : Nat → Int
 | 0 => 0
 | 1 => 0
 | _ => 3
def hand8 : Nat → Int
 | 0 => 10
 | 1 => 2
 | _ => 0
def outs8 (n : Nat) : List FV := [.int .i64 0,.int .i64 3].take n
theorem starts_a : FRet Tryd.prog 25 [.agg [.f (.int .i64 2),.f (.int .i64 10)],.f asksF] [.c (.own 1 2 [.int .i64 0,.int .i64 3]),.c (.v (.int .i64 0))] := by
 have k1 := within_f 0 0 1000000000
 have k2 := within_f 8 0 10
 rw [show inRg 0 0 1000000000 = true by decide] at k1
 rw [show inRg 8 0 10 = true by decide] at k2
 have d0 : decide (2000 < ((2 : Nat) : Int)) = false := by decide
 refine FCall.of_ax low_wire_Starts ?_
 dsimp only [l_wire_Starts,asksF]
 refine srun_sound 300 _ _ _ _ ?_
 repeat' (first
  | (simp -implicitDefEqProofs only [*,zr,Nat.reduceAdd,Nat.reduceSub,Nat.reduceMul,Nat.reduceLT,Nat.reduceLeDiff,Nat.reduceEqDiff,Nat.reduceBEq,reduceIte,reduceCtorEq,Int.reduceLE,Int.reduceLT,Int.reduceToNat,Int.reduceEq,Int.reduceNe])
  | ((first|apply zk0|apply zk1|apply zk2|apply zk3|apply zk4|apply zk5|apply zk6|apply zk7|apply zk8|apply zk9) <;> intro hc)
  |(refine callP0 rfl ?_)
  |(refine callD0 rfl ?_)
  |(refine cP (quota_a) ?_)
  |(refine cD (quota_a) ?_)
  |(refine cF (quota_a) ?_)
  |(refine cO (quota_a) ?_)
  | fail)
 refine ax_loopU (S := Nat) 109 [1,2,24,25] [2] (fun s => [(26,.f (.int .i64 s))]) (fun s => []) (fun s => s ≤ 2) (fun s => 2 - s) (0) [] ?_ ?_ fun s hs => ?_
 ·exact Nat.zero_le _
 ·refine wk_i ?_ ?_ <;> simp only [zw,Nat.reduceEqDiff,Nat.reduceBEq,Nat.reduceLT,Nat.reduceLeDiff,reduceIte,reduceCtorEq]
 refine srun_sound 300 _ _ _ _ ?_
 have hs' : s = 0 ∨ s = 1 ∨ s = 2 := by omega
 clear hs
 rcases hs' with rfl | rfl | rfl
 ·have e0 : IntKind.i64.wrap (((0 : Nat) : Int) + 1) = ((1 : Nat) : Int) := by decide
  have e1 : decide (0 < ((0 : Nat) : Int)) = false := by decide
  have e2 : decide (0 < 2) = true := by decide
  repeat' (first
   | (simp -implicitDefEqProofs only [*,addFp_wr,zr,Nat.reduceAdd,Nat.reduceSub,Nat.reduceMul,Nat.reduceLT,Nat.reduceLeDiff,Nat.reduceEqDiff,Nat.reduceBEq,reduceIte,reduceCtorEq,Int.reduceLE,Int.reduceLT,Int.reduceToNat,Int.reduceEq,Int.reduceNe])
   | ((first|apply zk0|apply zk1|apply zk2|apply zk3|apply zk4|apply zk5|apply zk6|apply zk7|apply zk8|apply zk9) <;> intro hc)
   |(refine callP0 rfl ?_)
   |(refine callD0 rfl ?_)
   |(refine cP (k1) ?_)
   |(refine cD (k1) ?_)
   |(refine cF (k1) ?_)
   |(refine cO (k1) ?_)
   |(refine cP (k2) ?_)
   |(refine cD (k2) ?_)
   |(refine cF (k2) ?_)
   |(refine cO (k2) ?_)
   | fail)
  refine ⟨1,by omega,by omega,?_⟩
  refine wk_i ?_ ?_ <;> simp only [zw,Nat.reduceEqDiff,Nat.reduceBEq,Nat.reduceLT,Nat.reduceLeDiff,reduceIte,reduceCtorEq]
 ·have e0 : IntKind.i64.wrap (((1 : Nat) : Int) + 1) = ((2 : Nat) : Int) := by decide
  have e1 : decide (0 < ((1 : Nat) : Int)) = true := by decide
  have e3 : IntKind.i64.wrap (((1 : Nat) : Int) - 1) = 0 := by decide
  have e2 : decide (1 < 2) = true := by decide
  repeat' (first
   | (simp -implicitDefEqProofs only [*,addFp_wr,zr,Nat.reduceAdd,Nat.reduceSub,Nat.reduceMul,Nat.reduceLT,Nat.reduceLeDiff,Nat.reduceEqDiff,Nat.reduceBEq,reduceIte,reduceCtorEq,Int.reduceLE,Int.reduceLT,Int.reduceToNat,Int.reduceEq,Int.reduceNe])
   | ((first|apply zk0|apply zk1|apply zk2|apply zk3|apply zk4|apply zk5|apply zk6|apply zk7|apply zk8|apply zk9) <;> intro hc)
   |(refine callP0 rfl ?_)
   |(refine callD0 rfl ?_)
   |(refine cP (k1) ?_)
   |(refine cD (k1) ?_)
   |(refine cF (k1) ?_)
   |(refine cO (k1) ?_)
   |(refine cP (k2) ?_)
   |(refine cD (k2) ?_)
   |(refine cF (k2) ?_)
   |(refine cO (k2) ?_)
   | fail)
  refine ⟨2,by omega,by omega,?_⟩
  refine wk_i ?_ ?_ <;> simp only [zw,Nat.reduceEqDiff,Nat.reduceBEq,Nat.reduceLT,Nat.reduceLeDiff,reduceIte,reduceCtorEq]
 have e2 : decide (2 < 2) = false := by decide
 repeat' (first
  | (simp -implicitDefEqProofs only [*,addFp_wr,zr,Nat.reduceAdd,Nat.reduceSub,Nat.reduceMul,Nat.reduceLT,Nat.reduceLeDiff,Nat.reduceEqDiff,Nat.reduceBEq,reduceIte,reduceCtorEq,Int.reduceLE,Int.reduceLT,Int.reduceToNat,Int.reduceEq,Int.reduceNe])
  | ((first|apply zk0|apply zk1|apply zk2|apply zk3|apply zk4|apply zk5|apply zk6|apply zk7|apply zk8|apply zk9) <;> intro hc)
  |(refine callP0 rfl ?_)
  |(refine callD0 rfl ?_)
  | fail)
 refine ax_loopU (S := Nat) 109 [2,59,60] [2] (fun s => [(9,.sl 60900 1 1 0 s),(61,.f (.int .i64 s)),(10,.f (.int .i64 (at8 s))),(11,.f (.int .i64 (hand8 s)))]) (fun s => [(60900,1,AObj.cells ((outs8 s).map .f))]) (fun s => s ≤ 2) (fun s => 2 - s) (0) [60900] ?_ ?_ fun s hs => ?_
 ·exact Nat.zero_le _
 ·refine wk_i ?_ ?_ <;> simp only [at8,hand8,outs8,List.take_zero,List.map_nil,zw,Nat.reduceEqDiff,Nat.reduceBEq,Nat.reduceLT,Nat.reduceLeDiff,reduceIte,reduceCtorEq]
 refine srun_sound 300 _ _ _ _ ?_
 have hs' : s = 0 ∨ s = 1 ∨ s = 2 := by omega
 clear hs e2
 rcases hs' with rfl | rfl | rfl
 ·have e0 : IntKind.i64.wrap (((0 : Nat) : Int) + 1) = ((1 : Nat) : Int) := by decide
  have f0 : IntKind.i64.wrap (8 - 10) = -2 := by decide
  have f1 : IntKind.i64.wrap (0 - 0) = 0 := by decide
  have f2 : max (0 : Int) 0 = 0 := by decide
  have f3 : IntKind.i64.wrap (0 * 2) = 0 := by decide
  have f4 : IntKind.i64.wrap (10 + 0) = 10 := by decide
  have f5 : min (10 : Int) 10 = 10 := by decide
  have f6 : IntKind.i64.wrap (10 - 8) = 2 := by decide
  have f7 : IntKind.i64.wrap (0 + 0) = 0 := by decide
  have f8 : decide ((0 : Int) < -2) = false := by decide
  have e2 : decide (0 < 2) = true := by decide
  dsimp only [at8,hand8,outs8,List.take,List.map]
  repeat' (first
   | (simp -implicitDefEqProofs only [*,addFp_wr,zr,Nat.reduceAdd,Nat.reduceSub,Nat.reduceMul,Nat.reduceLT,Nat.reduceLeDiff,Nat.reduceEqDiff,Nat.reduceBEq,reduceIte,reduceCtorEq,Int.reduceLE,Int.reduceLT,Int.reduceToNat,Int.reduceEq,Int.reduceNe])
   | ((first|apply zk0|apply zk1|apply zk2|apply zk3|apply zk4|apply zk5|apply zk6|apply zk7|apply zk8|apply zk9) <;> intro hc)
   |(refine callP0 rfl ?_)
   |(refine callD0 rfl ?_)
   | fail)
  refine ⟨1,by omega,by omega,?_⟩
  refine wk_i ?_ ?_ <;> simp only [zw,Nat.reduceEqDiff,Nat.reduceBEq,Nat.reduceLT,Nat.reduceLeDiff,reduceIte,reduceCtorEq]
  exact SlotsOk.of_eq rfl
 ·have e0 : IntKind.i64.wrap (((1 : Nat) : Int) + 1) = ((2 : Nat) : Int) := by decide
  have f0 : IntKind.i64.wrap (8 - 2) = 6 := by decide
  have f1 : IntKind.i64.wrap (0 - 0) = 0 := by decide
  have f2 : max (0 : Int) 0 = 0 := by decide
  have f3 : IntKind.i64.wrap (6 + 2) = 8 := by decide
  have f4 : IntKind.i64.wrap (8 - 1) = 7 := by decide
  have f5 : Int.tdiv 7 2 = 3 := by decide
  have f6 : IntKind.i64.wrap 3 = 3 := by decide
  have f7 : max (0 : Int) 3 = 3 := by decide
  have f8 : IntKind.i64.wrap (3 * 2) = 6 := by decide
  have f9 : IntKind.i64.wrap (2 + 6) = 8 := by decide
  have f10 : min (10 : Int) 8 = 8 := by decide
  have f11 : IntKind.i64.wrap (8 - 8) = 0 := by decide
  have f12 : IntKind.i64.wrap (0 + 3) = 3 := by decide
  have f13 : decide ((0 : Int) < 6) = true := by decide
  have e2 : decide (1 < 2) = true := by decide
  dsimp only [at8,hand8,outs8,List.take,List.map]
  repeat' (first
   | (simp -implicitDefEqProofs only [*,addFp_wr,zr,Nat.reduceAdd,Nat.reduceSub,Nat.reduceMul,Nat.reduceLT,Nat.reduceLeDiff,Nat.reduceEqDiff,Nat.reduceBEq,reduceIte,reduceCtorEq,Int.reduceLE,Int.reduceLT,Int.reduceToNat,Int.reduceEq,Int.reduceNe])
   | ((first|apply zk0|apply zk1|apply zk2|apply zk3|apply zk4|apply zk5|apply zk6|apply zk7|apply zk8|apply zk9) <;> intro hc)
   |(refine callP0 rfl ?_)
   |(refine callD0 rfl ?_)
   | fail)
  refine ⟨2,by omega,by omega,?_⟩
  refine wk_i ?_ ?_ <;> simp only [zw,Nat.reduceEqDiff,Nat.reduceBEq,Nat.reduceLT,Nat.reduceLeDiff,reduceIte,reduceCtorEq]
  exact SlotsOk.of_eq rfl
 have e2 : decide (2 < 2) = false := by decide
 dsimp only [at8,hand8,outs8,List.take,List.map]
 repeat' (first
  | (simp -implicitDefEqProofs only [*,addFp_wr,zr,Nat.reduceAdd,Nat.reduceSub,Nat.reduceMul,Nat.reduceLT,Nat.reduceLeDiff,Nat.reduceEqDiff,Nat.reduceBEq,reduceIte,reduceCtorEq,Int.reduceLE,Int.reduceLT,Int.reduceToNat,Int.reduceEq,Int.reduceNe])
  | ((first|apply zk0|apply zk1|apply zk2|apply zk3|apply zk4|apply zk5|apply zk6|apply zk7|apply zk8|apply zk9) <;> intro hc)
  |(refine callP0 rfl ?_)
  |(refine callD0 rfl ?_)
  | fail)
 exact ret_ov rfl (by simp) rfl
theorem awake8_f : FRet Tryd.prog 10 [] [.c (.v (.bool true))] := by
 refine FCall.of_ax low_law8_awake ?_
 dsimp only [l_law8_awake]
 refine srun_sound 300 _ _ _ _ ?_
 repeat' (first
  | (simp -implicitDefEqProofs only [*,zr,Nat.reduceAdd,Nat.reduceSub,Nat.reduceMul,Nat.reduceLT,Nat.reduceLeDiff,Nat.reduceEqDiff,Nat.reduceBEq,reduceIte,reduceCtorEq,Int.reduceLE,Int.reduceLT,Int.reduceToNat,Int.reduceEq,Int.reduceNe])
  | ((first|apply zk0|apply zk1|apply zk2|apply zk3|apply zk4|apply zk5|apply zk6|apply zk7|apply zk8|apply zk9) <;> intro hc)
  |(refine callP0 rfl ?_)
  |(refine callD0 rfl ?_)
  | fail)
 refine callF rfl starts_a rfl ?_ (by simp [RS.all,RC.all,FV.plain]) (by repeat (first|exact free_0 | exact free_mk rfl | refine free_upd rfl ?_)) ?_
 ·exact ⟨so_pure (.agg [.f (.int .i64 2),.f (.int .i64 10)]) rfl,so_row0 (enc := fun x : Int => [.int .i64 0,.int .i64 x]) (sz := 2) (l := [8,8]) (fun _ => rfl) rfl rfl rfl,rfl⟩
 have d2 : decide (((2 : Nat) : Int) = 2) = true := by decide
 repeat' (first
  | (simp -implicitDefEqProofs only [*,zr,Nat.reduceAdd,Nat.reduceSub,Nat.reduceMul,Nat.reduceLT,Nat.reduceLeDiff,Nat.reduceEqDiff,Nat.reduceBEq,reduceIte,reduceCtorEq,Int.reduceLE,Int.reduceLT,Int.reduceToNat,Int.reduceEq,Int.reduceNe])
  | ((first|apply zk0|apply zk1|apply zk2|apply zk3|apply zk4|apply zk5|apply zk6|apply zk7|apply zk8|apply zk9) <;> intro hc)
  |(refine callP0 rfl ?_)
  |(refine callD0 rfl ?_)
  | fail)
 exact ret_v
end Go.Proofs.YtjacnfjlocajoaaDoor
