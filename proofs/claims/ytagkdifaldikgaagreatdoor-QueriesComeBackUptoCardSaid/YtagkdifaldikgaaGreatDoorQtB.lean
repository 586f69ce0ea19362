/-
  Writing a query, kind by kind. No statement of the seat is proved here; no conditions.
-/
import Derived.Test.YtagkdifaldikgaaGreatDoorQtA
import Derived.Test.YtagkdifaldikgaaGreatDoorQdH
namespace Go.Proofs.YtagkdifaldikgaaGreatDoor
open Go.RowKit Go.Shelf
set_option linter.unusedVariables false
set_option linter.unusedSimpArgs false
set_option maxRecDepth 100000

set_option maxHeartbeats 4000000 in
theorem qt_all (t : ByteArray) (n : Int) (ps : List QT) (A B D : ByteArray)
  (hs : 100 ≤ 4611686018427387904) :
  FRet Tryz.prog 9 [.agg [.f (.int .i64 1),.f (.str t),.f (.int .i64 n),.f (.fr 4 (encQs ps))]] [.c (.v (.str (⟨#[97,108,108]⟩ : ByteArray)))] := by
 have z0 : (⟨#[97,108,108]⟩ : ByteArray).size = 3 := rfl
 clear z0 hs
 generalize encQs ps = E at *
 refine FCall.of_ax low_graph_queryText ?_
 dsimp only [l_graph_queryText]
 refine srun_sound 23 _ _ _ _ ?_
 repeat' (first
  | (simp -implicitDefEqProofs only [*,addFp_wr,zr,Nat.reduceAdd,Nat.reduceSub,Nat.reduceMul,Nat.reduceLT,Nat.reduceLeDiff,Nat.reduceEqDiff,Nat.reduceBEq,reduceIte,reduceCtorEq,Int.reduceLE,Int.reduceLT,Int.reduceToNat,Int.reduceEq,Int.reduceNe])
  | ((first|apply zk0|apply zk1|apply zk2|apply zk3|apply zk4|apply zk5|apply zk6|apply zk7|apply zk8|apply zk9) <;> intro hc)
  |(refine callP0 rfl ?_)
  |(refine callD0 rfl ?_)
  | fail)
 refine ax_weakA [] (nw := []) (n := 92) (el := [(1,.f (.fp [.int .i64 1,.str t,.int .i64 n,.fr 4 E])),(3,.ptr 3 1 0),(4,.clo (.func 15) [.f (.fp [.int .i64 1,.str t,.int .i64 n,.fr 4 E]),.ptr 3 1 0]),(5,.f (.str ⟨#[110,101,101,100,115]⟩))]) (hl := [(3,1,AObj.cells [.f (.fc (.func 14) [.fp [.int .i64 1,.str t,.int .i64 n,.fr 4 E]])])]) rfl ?_ ?_
 ·refine wk_i ?_ ?_ <;> simp only [so_mf,mapOfH_some,so_ptf,so_cc,so_ff',cellsOf_some,List.drop_zero,List.take_succ_cons,List.take_zero,Nat.zero_add,so_cfc,so_cl2,zw,Nat.reduceEqDiff,Nat.reduceBEq,Nat.reduceLT,Nat.reduceLeDiff,reduceIte,reduceCtorEq]
 refine ax_weakA [] (nw := []) (n := 92) (el := [(1,.f (.fp [.int .i64 1,.str t,.int .i64 n,.fr 4 E])),(3,.f (.fp [.fc (.func 14) [.fp [.int .i64 1,.str t,.int .i64 n,.fr 4 E]]])),(4,.f (.fc (.func 15) [.fp [.int .i64 1,.str t,.int .i64 n,.fr 4 E],.fp [.fc (.func 14) [.fp [.int .i64 1,.str t,.int .i64 n,.fr 4 E]]]])),(5,.f (.str ⟨#[110,101,101,100,115]⟩))]) (hl := []) rfl ?_ ?_
 ·refine wk_i ?_ ?_ <;> simp only [so_mf,mapOfH_some,so_ptf,so_cc,so_ff',cellsOf_some,List.drop_zero,List.take_succ_cons,List.take_zero,Nat.zero_add,so_cfc,so_cl2,zw,Nat.reduceEqDiff,Nat.reduceBEq,Nat.reduceLT,Nat.reduceLeDiff,reduceIte,reduceCtorEq]
 refine srun_sound 300 _ _ _ _ ?_
 repeat' (first
  | (simp -implicitDefEqProofs only [*,addFp_wr,zr,Nat.reduceAdd,Nat.reduceSub,Nat.reduceMul,Nat.reduceLT,Nat.reduceLeDiff,Nat.reduceEqDiff,Nat.reduceBEq,reduceIte,reduceCtorEq,Int.reduceLE,Int.reduceLT,Int.reduceToNat,Int.reduceEq,Int.reduceNe])
  | ((first|apply zk0|apply zk1|apply zk2|apply zk3|apply zk4|apply zk5|apply zk6|apply zk7|apply zk8|apply zk9) <;> intro hc)
  |(refine callP0 rfl ?_)
  |(refine callD0 rfl ?_)
  | fail)
 exact ret_v
set_option maxHeartbeats 4000000 in
theorem qt_lab (t : ByteArray) (n : Int) (ps : List QT) (A B D : ByteArray)
  (hs : t.size + 100 ≤ 4611686018427387904) :
  FRet Tryz.prog 9 [.agg [.f (.int .i64 2),.f (.str t),.f (.int .i64 n),.f (.fr 4 (encQs ps))]] [.c (.v (.str t))] := by
 clear hs
 generalize encQs ps = E at *
 refine FCall.of_ax low_graph_queryText ?_
 dsimp only [l_graph_queryText]
 refine srun_sound 23 _ _ _ _ ?_
 repeat' (first
  | (simp -implicitDefEqProofs only [*,addFp_wr,zr,Nat.reduceAdd,Nat.reduceSub,Nat.reduceMul,Nat.reduceLT,Nat.reduceLeDiff,Nat.reduceEqDiff,Nat.reduceBEq,reduceIte,reduceCtorEq,Int.reduceLE,Int.reduceLT,Int.reduceToNat,Int.reduceEq,Int.reduceNe])
  | ((first|apply zk0|apply zk1|apply zk2|apply zk3|apply zk4|apply zk5|apply zk6|apply zk7|apply zk8|apply zk9) <;> intro hc)
  |(refine callP0 rfl ?_)
  |(refine callD0 rfl ?_)
  | fail)
 refine ax_weakA [] (nw := []) (n := 92) (el := [(1,.f (.fp [.int .i64 2,.str t,.int .i64 n,.fr 4 E])),(3,.ptr 3 1 0),(4,.clo (.func 15) [.f (.fp [.int .i64 2,.str t,.int .i64 n,.fr 4 E]),.ptr 3 1 0]),(5,.f (.str ⟨#[110,101,101,100,115]⟩))]) (hl := [(3,1,AObj.cells [.f (.fc (.func 14) [.fp [.int .i64 2,.str t,.int .i64 n,.fr 4 E]])])]) rfl ?_ ?_
 ·refine wk_i ?_ ?_ <;> simp only [so_mf,mapOfH_some,so_ptf,so_cc,so_ff',cellsOf_some,List.drop_zero,List.take_succ_cons,List.take_zero,Nat.zero_add,so_cfc,so_cl2,zw,Nat.reduceEqDiff,Nat.reduceBEq,Nat.reduceLT,Nat.reduceLeDiff,reduceIte,reduceCtorEq]
 refine ax_weakA [] (nw := []) (n := 92) (el := [(1,.f (.fp [.int .i64 2,.str t,.int .i64 n,.fr 4 E])),(3,.f (.fp [.fc (.func 14) [.fp [.int .i64 2,.str t,.int .i64 n,.fr 4 E]]])),(4,.f (.fc (.func 15) [.fp [.int .i64 2,.str t,.int .i64 n,.fr 4 E],.fp [.fc (.func 14) [.fp [.int .i64 2,.str t,.int .i64 n,.fr 4 E]]]])),(5,.f (.str ⟨#[110,101,101,100,115]⟩))]) (hl := []) rfl ?_ ?_
 ·refine wk_i ?_ ?_ <;> simp only [so_mf,mapOfH_some,so_ptf,so_cc,so_ff',cellsOf_some,List.drop_zero,List.take_succ_cons,List.take_zero,Nat.zero_add,so_cfc,so_cl2,zw,Nat.reduceEqDiff,Nat.reduceBEq,Nat.reduceLT,Nat.reduceLeDiff,reduceIte,reduceCtorEq]
 refine srun_sound 300 _ _ _ _ ?_
 repeat' (first
  | (simp -implicitDefEqProofs only [*,addFp_wr,zr,Nat.reduceAdd,Nat.reduceSub,Nat.reduceMul,Nat.reduceLT,Nat.reduceLeDiff,Nat.reduceEqDiff,Nat.reduceBEq,reduceIte,reduceCtorEq,Int.reduceLE,Int.reduceLT,Int.reduceToNat,Int.reduceEq,Int.reduceNe])
  | ((first|apply zk0|apply zk1|apply zk2|apply zk3|apply zk4|apply zk5|apply zk6|apply zk7|apply zk8|apply zk9) <;> intro hc)
  |(refine callP0 rfl ?_)
  |(refine callD0 rfl ?_)
  | fail)
 exact ret_v
set_option maxHeartbeats 4000000 in
theorem qt_num3 (t : ByteArray) (n : Int) (ps : List QT) (A B D : ByteArray)
  (hA : FRet Tryz.prog 14 [.f (.int .i64 0),.f (.fp [.int .i64 3,.str t,.int .i64 n,.fr 4 (encQs ps)])] [.c (.v (.str A))])
  (hD : FRet Tryz.prog 17 [.f (.int .i64 n)] [.c (.v (.str D))])
  (hn : decide (0 ≤ n) = true)
  (hs : A.size + D.size + 100 ≤ 4611686018427387904) :
  FRet Tryz.prog 9 [.agg [.f (.int .i64 3),.f (.str t),.f (.int .i64 n),.f (.fr 4 (encQs ps))]] [.c (.v (.str ((((((⟨#[110,101,101,100,115]⟩ : ByteArray) ++ (⟨#[40]⟩ : ByteArray)) ++ A) ++ (⟨#[44,32]⟩ : ByteArray)) ++ D) ++ (⟨#[41]⟩ : ByteArray))))] := by
 have z0 : (⟨#[110,101,101,100,115]⟩ : ByteArray).size = 5 := rfl
 have z1 : (⟨#[40]⟩ : ByteArray).size = 1 := rfl
 have z2 : (⟨#[41]⟩ : ByteArray).size = 1 := rfl
 have z3 : (⟨#[44,32]⟩ : ByteArray).size = 2 := rfl
 have l0 := eq_true (show (⟨#[110,101,101,100,115]⟩ : ByteArray).size + (⟨#[40]⟩ : ByteArray).size ≤ 9223372036854775807 by simp only [ByteArray.size_append,z0,z1,z2,z3];omega)
 have l1 := eq_true (show ((⟨#[110,101,101,100,115]⟩ : ByteArray) ++ (⟨#[40]⟩ : ByteArray)).size + A.size ≤ 9223372036854775807 by simp only [ByteArray.size_append,z0,z1,z2,z3];omega)
 have l2 := eq_true (show (((⟨#[110,101,101,100,115]⟩ : ByteArray) ++ (⟨#[40]⟩ : ByteArray)) ++ A).size + (⟨#[44,32]⟩ : ByteArray).size ≤ 9223372036854775807 by simp only [ByteArray.size_append,z0,z1,z2,z3];omega)
 have l3 := eq_true (show ((((⟨#[110,101,101,100,115]⟩ : ByteArray) ++ (⟨#[40]⟩ : ByteArray)) ++ A) ++ (⟨#[44,32]⟩ : ByteArray)).size + D.size ≤ 9223372036854775807 by simp only [ByteArray.size_append,z0,z1,z2,z3];omega)
 have l4 := eq_true (show (((((⟨#[110,101,101,100,115]⟩ : ByteArray) ++ (⟨#[40]⟩ : ByteArray)) ++ A) ++ (⟨#[44,32]⟩ : ByteArray)) ++ D).size + (⟨#[41]⟩ : ByteArray).size ≤ 9223372036854775807 by simp only [ByteArray.size_append,z0,z1,z2,z3];omega)
 clear z0 z1 z2 z3 hs
 generalize encQs ps = E at *
 replace hA := hide hA
 replace hD := hide hD
 refine FCall.of_ax low_graph_queryText ?_
 dsimp only [l_graph_queryText]
 refine srun_sound 23 _ _ _ _ ?_
 repeat' (first
  | (simp -implicitDefEqProofs only [*,addFp_wr,zr,Nat.reduceAdd,Nat.reduceSub,Nat.reduceMul,Nat.reduceLT,Nat.reduceLeDiff,Nat.reduceEqDiff,Nat.reduceBEq,reduceIte,reduceCtorEq,Int.reduceLE,Int.reduceLT,Int.reduceToNat,Int.reduceEq,Int.reduceNe])
  | ((first|apply zk0|apply zk1|apply zk2|apply zk3|apply zk4|apply zk5|apply zk6|apply zk7|apply zk8|apply zk9) <;> intro hc)
  |(refine callP0 rfl ?_)
  |(refine callD0 rfl ?_)
  | fail)
 refine ax_weakA [] (nw := []) (n := 92) (el := [(1,.f (.fp [.int .i64 3,.str t,.int .i64 n,.fr 4 E])),(3,.ptr 3 1 0),(4,.clo (.func 15) [.f (.fp [.int .i64 3,.str t,.int .i64 n,.fr 4 E]),.ptr 3 1 0]),(5,.f (.str ⟨#[110,101,101,100,115]⟩))]) (hl := [(3,1,AObj.cells [.f (.fc (.func 14) [.fp [.int .i64 3,.str t,.int .i64 n,.fr 4 E]])])]) rfl ?_ ?_
 ·refine wk_i ?_ ?_ <;> simp only [so_mf,mapOfH_some,so_ptf,so_cc,so_ff',cellsOf_some,List.drop_zero,List.take_succ_cons,List.take_zero,Nat.zero_add,so_cfc,so_cl2,zw,Nat.reduceEqDiff,Nat.reduceBEq,Nat.reduceLT,Nat.reduceLeDiff,reduceIte,reduceCtorEq]
 refine ax_weakA [] (nw := []) (n := 92) (el := [(1,.f (.fp [.int .i64 3,.str t,.int .i64 n,.fr 4 E])),(3,.f (.fp [.fc (.func 14) [.fp [.int .i64 3,.str t,.int .i64 n,.fr 4 E]]])),(4,.f (.fc (.func 15) [.fp [.int .i64 3,.str t,.int .i64 n,.fr 4 E],.fp [.fc (.func 14) [.fp [.int .i64 3,.str t,.int .i64 n,.fr 4 E]]]])),(5,.f (.str ⟨#[110,101,101,100,115]⟩))]) (hl := []) rfl ?_ ?_
 ·refine wk_i ?_ ?_ <;> simp only [so_mf,mapOfH_some,so_ptf,so_cc,so_ff',cellsOf_some,List.drop_zero,List.take_succ_cons,List.take_zero,Nat.zero_add,so_cfc,so_cl2,zw,Nat.reduceEqDiff,Nat.reduceBEq,Nat.reduceLT,Nat.reduceLeDiff,reduceIte,reduceCtorEq]
 refine srun_sound 300 _ _ _ _ ?_
 repeat' (first
  | (simp -implicitDefEqProofs only [*,addFp_wr,zr,Nat.reduceAdd,Nat.reduceSub,Nat.reduceMul,Nat.reduceLT,Nat.reduceLeDiff,Nat.reduceEqDiff,Nat.reduceBEq,reduceIte,reduceCtorEq,Int.reduceLE,Int.reduceLT,Int.reduceToNat,Int.reduceEq,Int.reduceNe])
  | ((first|apply zk0|apply zk1|apply zk2|apply zk3|apply zk4|apply zk5|apply zk6|apply zk7|apply zk8|apply zk9) <;> intro hc)
  |(refine callP0 rfl ?_)
  |(refine callD0 rfl ?_)
  |(refine cC (hA.out) ?_)
  |(refine cX (hA.out) ?_)
  |(refine cY (hA.out) ?_)
  |(refine cZ (hA.out) ?_)
  |(refine cP (hD.out) ?_)
  |(refine cD (hD.out) ?_)
  |(refine cF (hD.out) ?_)
  | fail)
 exact ret_v
set_option maxHeartbeats 4000000 in
theorem qt_pl3 (t : ByteArray) (n : Int) (ps : List QT) (A B D : ByteArray)
  (hA : FRet Tryz.prog 14 [.f (.int .i64 0),.f (.fp [.int .i64 3,.str t,.int .i64 n,.fr 4 (encQs ps)])] [.c (.v (.str A))])
  (hn : decide (0 ≤ n) = false)
  (hs : A.size + 100 ≤ 4611686018427387904) :
  FRet Tryz.prog 9 [.agg [.f (.int .i64 3),.f (.str t),.f (.int .i64 n),.f (.fr 4 (encQs ps))]] [.c (.v (.str ((((⟨#[110,101,101,100,115]⟩ : ByteArray) ++ (⟨#[40]⟩ : ByteArray)) ++ A) ++ (⟨#[41]⟩ : ByteArray))))] := by
 have z0 : (⟨#[110,101,101,100,115]⟩ : ByteArray).size = 5 := rfl
 have z1 : (⟨#[40]⟩ : ByteArray).size = 1 := rfl
 have z2 : (⟨#[41]⟩ : ByteArray).size = 1 := rfl
 have l0 := eq_true (show (⟨#[110,101,101,100,115]⟩ : ByteArray).size + (⟨#[40]⟩ : ByteArray).size ≤ 9223372036854775807 by simp only [ByteArray.size_append,z0,z1,z2];omega)
 have l1 := eq_true (show ((⟨#[110,101,101,100,115]⟩ : ByteArray) ++ (⟨#[40]⟩ : ByteArray)).size + A.size ≤ 9223372036854775807 by simp only [ByteArray.size_append,z0,z1,z2];omega)
 have l2 := eq_true (show (((⟨#[110,101,101,100,115]⟩ : ByteArray) ++ (⟨#[40]⟩ : ByteArray)) ++ A).size + (⟨#[41]⟩ : ByteArray).size ≤ 9223372036854775807 by simp only [ByteArray.size_append,z0,z1,z2];omega)
 clear z0 z1 z2 hs
 generalize encQs ps = E at *
 replace hA := hide hA
 refine FCall.of_ax low_graph_queryText ?_
 dsimp only [l_graph_queryText]
 refine srun_sound 23 _ _ _ _ ?_
 repeat' (first
  | (simp -implicitDefEqProofs only [*,addFp_wr,zr,Nat.reduceAdd,Nat.reduceSub,Nat.reduceMul,Nat.reduceLT,Nat.reduceLeDiff,Nat.reduceEqDiff,Nat.reduceBEq,reduceIte,reduceCtorEq,Int.reduceLE,Int.reduceLT,Int.reduceToNat,Int.reduceEq,Int.reduceNe])
  | ((first|apply zk0|apply zk1|apply zk2|apply zk3|apply zk4|apply zk5|apply zk6|apply zk7|apply zk8|apply zk9) <;> intro hc)
  |(refine callP0 rfl ?_)
  |(refine callD0 rfl ?_)
  | fail)
 refine ax_weakA [] (nw := []) (n := 92) (el := [(1,.f (.fp [.int .i64 3,.str t,.int .i64 n,.fr 4 E])),(3,.ptr 3 1 0),(4,.clo (.func 15) [.f (.fp [.int .i64 3,.str t,.int .i64 n,.fr 4 E]),.ptr 3 1 0]),(5,.f (.str ⟨#[110,101,101,100,115]⟩))]) (hl := [(3,1,AObj.cells [.f (.fc (.func 14) [.fp [.int .i64 3,.str t,.int .i64 n,.fr 4 E]])])]) rfl ?_ ?_
 ·refine wk_i ?_ ?_ <;> simp only [so_mf,mapOfH_some,so_ptf,so_cc,so_ff',cellsOf_some,List.drop_zero,List.take_succ_cons,List.take_zero,Nat.zero_add,so_cfc,so_cl2,zw,Nat.reduceEqDiff,Nat.reduceBEq,Nat.reduceLT,Nat.reduceLeDiff,reduceIte,reduceCtorEq]
 refine ax_weakA [] (nw := []) (n := 92) (el := [(1,.f (.fp [.int .i64 3,.str t,.int .i64 n,.fr 4 E])),(3,.f (.fp [.fc (.func 14) [.fp [.int .i64 3,.str t,.int .i64 n,.fr 4 E]]])),(4,.f (.fc (.func 15) [.fp [.int .i64 3,.str t,.int .i64 n,.fr 4 E],.fp [.fc (.func 14) [.fp [.int .i64 3,.str t,.int .i64 n,.fr 4 E]]]])),(5,.f (.str ⟨#[110,101,101,100,115]⟩))]) (hl := []) rfl ?_ ?_
 ·refine wk_i ?_ ?_ <;> simp only [so_mf,mapOfH_some,so_ptf,so_cc,so_ff',cellsOf_some,List.drop_zero,List.take_succ_cons,List.take_zero,Nat.zero_add,so_cfc,so_cl2,zw,Nat.reduceEqDiff,Nat.reduceBEq,Nat.reduceLT,Nat.reduceLeDiff,reduceIte,reduceCtorEq]
 refine srun_sound 300 _ _ _ _ ?_
 repeat' (first
  | (simp -implicitDefEqProofs only [*,addFp_wr,zr,Nat.reduceAdd,Nat.reduceSub,Nat.reduceMul,Nat.reduceLT,Nat.reduceLeDiff,Nat.reduceEqDiff,Nat.reduceBEq,reduceIte,reduceCtorEq,Int.reduceLE,Int.reduceLT,Int.reduceToNat,Int.reduceEq,Int.reduceNe])
  | ((first|apply zk0|apply zk1|apply zk2|apply zk3|apply zk4|apply zk5|apply zk6|apply zk7|apply zk8|apply zk9) <;> intro hc)
  |(refine callP0 rfl ?_)
  |(refine callD0 rfl ?_)
  |(refine cC (hA.out) ?_)
  |(refine cX (hA.out) ?_)
  |(refine cY (hA.out) ?_)
  |(refine cZ (hA.out) ?_)
  | fail)
 exact ret_v
set_option maxHeartbeats 4000000 in
theorem qt_num4 (t : ByteArray) (n : Int) (ps : List QT) (A B D : ByteArray)
  (hA : FRet Tryz.prog 14 [.f (.int .i64 0),.f (.fp [.int .i64 4,.str t,.int .i64 n,.fr 4 (encQs ps)])] [.c (.v (.str A))])
  (hD : FRet Tryz.prog 17 [.f (.int .i64 n)] [.c (.v (.str D))])
  (hn : decide (0 ≤ n) = true)
  (hs : A.size + D.size + 100 ≤ 4611686018427387904) :
  FRet Tryz.prog 9 [.agg [.f (.int .i64 4),.f (.str t),.f (.int .i64 n),.f (.fr 4 (encQs ps))]] [.c (.v (.str ((((((⟨#[117,115,101,114,115]⟩ : ByteArray) ++ (⟨#[40]⟩ : ByteArray)) ++ A) ++ (⟨#[44,32]⟩ : ByteArray)) ++ D) ++ (⟨#[41]⟩ : ByteArray))))] := by
 have z0 : (⟨#[117,115,101,114,115]⟩ : ByteArray).size = 5 := rfl
 have z1 : (⟨#[40]⟩ : ByteArray).size = 1 := rfl
 have z2 : (⟨#[41]⟩ : ByteArray).size = 1 := rfl
 have z3 : (⟨#[44,32]⟩ : ByteArray).size = 2 := rfl
 have l0 := eq_true (show (⟨#[117,115,101,114,115]⟩ : ByteArray).size + (⟨#[40]⟩ : ByteArray).size ≤ 9223372036854775807 by simp only [ByteArray.size_append,z0,z1,z2,z3];omega)
 have l1 := eq_true (show ((⟨#[117,115,101,114,115]⟩ : ByteArray) ++ (⟨#[40]⟩ : ByteArray)).size + A.size ≤ 9223372036854775807 by simp only [ByteArray.size_append,z0,z1,z2,z3];omega)
 have l2 := eq_true (show (((⟨#[117,115,101,114,115]⟩ : ByteArray) ++ (⟨#[40]⟩ : ByteArray)) ++ A).size + (⟨#[44,32]⟩ : ByteArray).size ≤ 9223372036854775807 by simp only [ByteArray.size_append,z0,z1,z2,z3];omega)
 have l3 := eq_true (show ((((⟨#[117,115,101,114,115]⟩ : ByteArray) ++ (⟨#[40]⟩ : ByteArray)) ++ A) ++ (⟨#[44,32]⟩ : ByteArray)).size + D.size ≤ 9223372036854775807 by simp only [ByteArray.size_append,z0,z1,z2,z3];omega)
 have l4 := eq_true (show (((((⟨#[117,115,101,114,115]⟩ : ByteArray) ++ (⟨#[40]⟩ : ByteArray)) ++ A) ++ (⟨#[44,32]⟩ : ByteArray)) ++ D).size + (⟨#[41]⟩ : ByteArray).size ≤ 9223372036854775807 by simp only [ByteArray.size_append,z0,z1,z2,z3];omega)
 clear z0 z1 z2 z3 hs
 generalize encQs ps = E at *
 replace hA := hide hA
 replace hD := hide hD
 refine FCall.of_ax low_graph_queryText ?_
 dsimp only [l_graph_queryText]
 refine srun_sound 23 _ _ _ _ ?_
 repeat' (first
  | (simp -implicitDefEqProofs only [*,addFp_wr,zr,Nat.reduceAdd,Nat.reduceSub,Nat.reduceMul,Nat.reduceLT,Nat.reduceLeDiff,Nat.reduceEqDiff,Nat.reduceBEq,reduceIte,reduceCtorEq,Int.reduceLE,Int.reduceLT,Int.reduceToNat,Int.reduceEq,Int.reduceNe])
  | ((first|apply zk0|apply zk1|apply zk2|apply zk3|apply zk4|apply zk5|apply zk6|apply zk7|apply zk8|apply zk9) <;> intro hc)
  |(refine callP0 rfl ?_)
  |(refine callD0 rfl ?_)
  | fail)
 refine ax_weakA [] (nw := []) (n := 92) (el := [(1,.f (.fp [.int .i64 4,.str t,.int .i64 n,.fr 4 E])),(3,.ptr 3 1 0),(4,.clo (.func 15) [.f (.fp [.int .i64 4,.str t,.int .i64 n,.fr 4 E]),.ptr 3 1 0]),(5,.f (.str ⟨#[110,101,101,100,115]⟩))]) (hl := [(3,1,AObj.cells [.f (.fc (.func 14) [.fp [.int .i64 4,.str t,.int .i64 n,.fr 4 E]])])]) rfl ?_ ?_
 ·refine wk_i ?_ ?_ <;> simp only [so_mf,mapOfH_some,so_ptf,so_cc,so_ff',cellsOf_some,List.drop_zero,List.take_succ_cons,List.take_zero,Nat.zero_add,so_cfc,so_cl2,zw,Nat.reduceEqDiff,Nat.reduceBEq,Nat.reduceLT,Nat.reduceLeDiff,reduceIte,reduceCtorEq]
 refine ax_weakA [] (nw := []) (n := 92) (el := [(1,.f (.fp [.int .i64 4,.str t,.int .i64 n,.fr 4 E])),(3,.f (.fp [.fc (.func 14) [.fp [.int .i64 4,.str t,.int .i64 n,.fr 4 E]]])),(4,.f (.fc (.func 15) [.fp [.int .i64 4,.str t,.int .i64 n,.fr 4 E],.fp [.fc (.func 14) [.fp [.int .i64 4,.str t,.int .i64 n,.fr 4 E]]]])),(5,.f (.str ⟨#[110,101,101,100,115]⟩))]) (hl := []) rfl ?_ ?_
 ·refine wk_i ?_ ?_ <;> simp only [so_mf,mapOfH_some,so_ptf,so_cc,so_ff',cellsOf_some,List.drop_zero,List.take_succ_cons,List.take_zero,Nat.zero_add,so_cfc,so_cl2,zw,Nat.reduceEqDiff,Nat.reduceBEq,Nat.reduceLT,Nat.reduceLeDiff,reduceIte,reduceCtorEq]
 refine srun_sound 300 _ _ _ _ ?_
 repeat' (first
  | (simp -implicitDefEqProofs only [*,addFp_wr,zr,Nat.reduceAdd,Nat.reduceSub,Nat.reduceMul,Nat.reduceLT,Nat.reduceLeDiff,Nat.reduceEqDiff,Nat.reduceBEq,reduceIte,reduceCtorEq,Int.reduceLE,Int.reduceLT,Int.reduceToNat,Int.reduceEq,Int.reduceNe])
  | ((first|apply zk0|apply zk1|apply zk2|apply zk3|apply zk4|apply zk5|apply zk6|apply zk7|apply zk8|apply zk9) <;> intro hc)
  |(refine callP0 rfl ?_)
  |(refine callD0 rfl ?_)
  |(refine cC (hA.out) ?_)
  |(refine cX (hA.out) ?_)
  |(refine cY (hA.out) ?_)
  |(refine cZ (hA.out) ?_)
  |(refine cP (hD.out) ?_)
  |(refine cD (hD.out) ?_)
  |(refine cF (hD.out) ?_)
  | fail)
 exact ret_v
set_option maxHeartbeats 4000000 in
theorem qt_pl4 (t : ByteArray) (n : Int) (ps : List QT) (A B D : ByteArray)
  (hA : FRet Tryz.prog 14 [.f (.int .i64 0),.f (.fp [.int .i64 4,.str t,.int .i64 n,.fr 4 (encQs ps)])] [.c (.v (.str A))])
  (hn : decide (0 ≤ n) = false)
  (hs : A.size + 100 ≤ 4611686018427387904) :
  FRet Tryz.prog 9 [.agg [.f (.int .i64 4),.f (.str t),.f (.int .i64 n),.f (.fr 4 (encQs ps))]] [.c (.v (.str ((((⟨#[117,115,101,114,115]⟩ : ByteArray) ++ (⟨#[40]⟩ : ByteArray)) ++ A) ++ (⟨#[41]⟩ : ByteArray))))] := by
 have z0 : (⟨#[117,115,101,114,115]⟩ : ByteArray).size = 5 := rfl
 have z1 : (⟨#[40]⟩ : ByteArray).size = 1 := rfl
 have z2 : (⟨#[41]⟩ : ByteArray).size = 1 := rfl
 have l0 := eq_true (show (⟨#[117,115,101,114,115]⟩ : ByteArray).size + (⟨#[40]⟩ : ByteArray).size ≤ 9223372036854775807 by simp only [ByteArray.size_append,z0,z1,z2];omega)
 have l1 := eq_true (show ((⟨#[117,115,101,114,115]⟩ : ByteArray) ++ (⟨#[40]⟩ : ByteArray)).size + A.size ≤ 9223372036854775807 by simp only [ByteArray.size_append,z0,z1,z2];omega)
 have l2 := eq_true (show (((⟨#[117,115,101,114,115]⟩ : ByteArray) ++ (⟨#[40]⟩ : ByteArray)) ++ A).size + (⟨#[41]⟩ : ByteArray).size ≤ 9223372036854775807 by simp only [ByteArray.size_append,z0,z1,z2];omega)
 clear z0 z1 z2 hs
 generalize encQs ps = E at *
 replace hA := hide hA
 refine FCall.of_ax low_graph_queryText ?_
 dsimp only [l_graph_queryText]
 refine srun_sound 23 _ _ _ _ ?_
 repeat' (first
  | (simp -implicitDefEqProofs only [*,addFp_wr,zr,Nat.reduceAdd,Nat.reduceSub,Nat.reduceMul,Nat.reduceLT,Nat.reduceLeDiff,Nat.reduceEqDiff,Nat.reduceBEq,reduceIte,reduceCtorEq,Int.reduceLE,Int.reduceLT,Int.reduceToNat,Int.reduceEq,Int.reduceNe])
  | ((first|apply zk0|apply zk1|apply zk2|apply zk3|apply zk4|apply zk5|apply zk6|apply zk7|apply zk8|apply zk9) <;> intro hc)
  |(refine callP0 rfl ?_)
  |(refine callD0 rfl ?_)
  | fail)
 refine ax_weakA [] (nw := []) (n := 92) (el := [(1,.f (.fp [.int .i64 4,.str t,.int .i64 n,.fr 4 E])),(3,.ptr 3 1 0),(4,.clo (.func 15) [.f (.fp [.int .i64 4,.str t,.int .i64 n,.fr 4 E]),.ptr 3 1 0]),(5,.f (.str ⟨#[110,101,101,100,115]⟩))]) (hl := [(3,1,AObj.cells [.f (.fc (.func 14) [.fp [.int .i64 4,.str t,.int .i64 n,.fr 4 E]])])]) rfl ?_ ?_
 ·refine wk_i ?_ ?_ <;> simp only [so_mf,mapOfH_some,so_ptf,so_cc,so_ff',cellsOf_some,List.drop_zero,List.take_succ_cons,List.take_zero,Nat.zero_add,so_cfc,so_cl2,zw,Nat.reduceEqDiff,Nat.reduceBEq,Nat.reduceLT,Nat.reduceLeDiff,reduceIte,reduceCtorEq]
 refine ax_weakA [] (nw := []) (n := 92) (el := [(1,.f (.fp [.int .i64 4,.str t,.int .i64 n,.fr 4 E])),(3,.f (.fp [.fc (.func 14) [.fp [.int .i64 4,.str t,.int .i64 n,.fr 4 E]]])),(4,.f (.fc (.func 15) [.fp [.int .i64 4,.str t,.int .i64 n,.fr 4 E],.fp [.fc (.func 14) [.fp [.int .i64 4,.str t,.int .i64 n,.fr 4 E]]]])),(5,.f (.str ⟨#[110,101,101,100,115]⟩))]) (hl := []) rfl ?_ ?_
 ·refine wk_i ?_ ?_ <;> simp only [so_mf,mapOfH_some,so_ptf,so_cc,so_ff',cellsOf_some,List.drop_zero,List.take_succ_cons,List.take_zero,Nat.zero_add,so_cfc,so_cl2,zw,Nat.reduceEqDiff,Nat.reduceBEq,Nat.reduceLT,Nat.reduceLeDiff,reduceIte,reduceCtorEq]
 refine srun_sound 300 _ _ _ _ ?_
 repeat' (first
  | (simp -implicitDefEqProofs only [*,addFp_wr,zr,Nat.reduceAdd,Nat.reduceSub,Nat.reduceMul,Nat.reduceLT,Nat.reduceLeDiff,Nat.reduceEqDiff,Nat.reduceBEq,reduceIte,reduceCtorEq,Int.reduceLE,Int.reduceLT,Int.reduceToNat,Int.reduceEq,Int.reduceNe])
  | ((first|apply zk0|apply zk1|apply zk2|apply zk3|apply zk4|apply zk5|apply zk6|apply zk7|apply zk8|apply zk9) <;> intro hc)
  |(refine callP0 rfl ?_)
  |(refine callD0 rfl ?_)
  |(refine cC (hA.out) ?_)
  |(refine cX (hA.out) ?_)
  |(refine cY (hA.out) ?_)
  |(refine cZ (hA.out) ?_)
  | fail)
 exact ret_v
set_option maxHeartbeats 4000000 in
theorem qt_betw (t : ByteArray) (n : Int) (ps : List QT) (A B D : ByteArray)
  (hA : FRet Tryz.prog 14 [.f (.int .i64 0),.f (.fp [.int .i64 5,.str t,.int .i64 n,.fr 4 (encQs ps)])] [.c (.v (.str A))])
  (hB : FRet Tryz.prog 14 [.f (.int .i64 1),.f (.fp [.int .i64 5,.str t,.int .i64 n,.fr 4 (encQs ps)])] [.c (.v (.str B))])
  (hs : A.size + B.size + 100 ≤ 4611686018427387904) :
  FRet Tryz.prog 9 [.agg [.f (.int .i64 5),.f (.str t),.f (.int .i64 n),.f (.fr 4 (encQs ps))]] [.c (.v (.str (((((⟨#[98,101,116,119,101,101,110,40]⟩ : ByteArray) ++ A) ++ (⟨#[44,32]⟩ : ByteArray)) ++ B) ++ (⟨#[41]⟩ : ByteArray))))] := by
 have z0 : (⟨#[41]⟩ : ByteArray).size = 1 := rfl
 have z1 : (⟨#[44,32]⟩ : ByteArray).size = 2 := rfl
 have z2 : (⟨#[98,101,116,119,101,101,110,40]⟩ : ByteArray).size = 8 := rfl
 have l0 := eq_true (show (⟨#[98,101,116,119,101,101,110,40]⟩ : ByteArray).size + A.size ≤ 9223372036854775807 by simp only [ByteArray.size_append,z0,z1,z2];omega)
 have l1 := eq_true (show ((⟨#[98,101,116,119,101,101,110,40]⟩ : ByteArray) ++ A).size + (⟨#[44,32]⟩ : ByteArray).size ≤ 9223372036854775807 by simp only [ByteArray.size_append,z0,z1,z2];omega)
 have l2 := eq_true (show (((⟨#[98,101,116,119,101,101,110,40]⟩ : ByteArray) ++ A) ++ (⟨#[44,32]⟩ : ByteArray)).size + B.size ≤ 9223372036854775807 by simp only [ByteArray.size_append,z0,z1,z2];omega)
 have l3 := eq_true (show ((((⟨#[98,101,116,119,101,101,110,40]⟩ : ByteArray) ++ A) ++ (⟨#[44,32]⟩ : ByteArray)) ++ B).size + (⟨#[41]⟩ : ByteArray).size ≤ 9223372036854775807 by simp only [ByteArray.size_append,z0,z1,z2];omega)
 clear z0 z1 z2 hs
 generalize encQs ps = E at *
 replace hA := hide hA
 replace hB := hide hB
 refine FCall.of_ax low_graph_queryText ?_
 dsimp only [l_graph_queryText]
 refine srun_sound 23 _ _ _ _ ?_
 repeat' (first
  | (simp -implicitDefEqProofs only [*,addFp_wr,zr,Nat.reduceAdd,Nat.reduceSub,Nat.reduceMul,Nat.reduceLT,Nat.reduceLeDiff,Nat.reduceEqDiff,Nat.reduceBEq,reduceIte,reduceCtorEq,Int.reduceLE,Int.reduceLT,Int.reduceToNat,Int.reduceEq,Int.reduceNe])
  | ((first|apply zk0|apply zk1|apply zk2|apply zk3|apply zk4|apply zk5|apply zk6|apply zk7|apply zk8|apply zk9) <;> intro hc)
  |(refine callP0 rfl ?_)
  |(refine callD0 rfl ?_)
  | fail)
 refine ax_weakA [] (nw := []) (n := 92) (el := [(1,.f (.fp [.int .i64 5,.str t,.int .i64 n,.fr 4 E])),(3,.ptr 3 1 0),(4,.clo (.func 15) [.f (.fp [.int .i64 5,.str t,.int .i64 n,.fr 4 E]),.ptr 3 1 0]),(5,.f (.str ⟨#[110,101,101,100,115]⟩))]) (hl := [(3,1,AObj.cells [.f (.fc (.func 14) [.fp [.int .i64 5,.str t,.int .i64 n,.fr 4 E]])])]) rfl ?_ ?_
 ·refine wk_i ?_ ?_ <;> simp only [so_mf,mapOfH_some,so_ptf,so_cc,so_ff',cellsOf_some,List.drop_zero,List.take_succ_cons,List.take_zero,Nat.zero_add,so_cfc,so_cl2,zw,Nat.reduceEqDiff,Nat.reduceBEq,Nat.reduceLT,Nat.reduceLeDiff,reduceIte,reduceCtorEq]
 refine ax_weakA [] (nw := []) (n := 92) (el := [(1,.f (.fp [.int .i64 5,.str t,.int .i64 n,.fr 4 E])),(3,.f (.fp [.fc (.func 14) [.fp [.int .i64 5,.str t,.int .i64 n,.fr 4 E]]])),(4,.f (.fc (.func 15) [.fp [.int .i64 5,.str t,.int .i64 n,.fr 4 E],.fp [.fc (.func 14) [.fp [.int .i64 5,.str t,.int .i64 n,.fr 4 E]]]])),(5,.f (.str ⟨#[110,101,101,100,115]⟩))]) (hl := []) rfl ?_ ?_
 ·refine wk_i ?_ ?_ <;> simp only [so_mf,mapOfH_some,so_ptf,so_cc,so_ff',cellsOf_some,List.drop_zero,List.take_succ_cons,List.take_zero,Nat.zero_add,so_cfc,so_cl2,zw,Nat.reduceEqDiff,Nat.reduceBEq,Nat.reduceLT,Nat.reduceLeDiff,reduceIte,reduceCtorEq]
 refine srun_sound 300 _ _ _ _ ?_
 repeat' (first
  | (simp -implicitDefEqProofs only [*,addFp_wr,zr,Nat.reduceAdd,Nat.reduceSub,Nat.reduceMul,Nat.reduceLT,Nat.reduceLeDiff,Nat.reduceEqDiff,Nat.reduceBEq,reduceIte,reduceCtorEq,Int.reduceLE,Int.reduceLT,Int.reduceToNat,Int.reduceEq,Int.reduceNe])
  | ((first|apply zk0|apply zk1|apply zk2|apply zk3|apply zk4|apply zk5|apply zk6|apply zk7|apply zk8|apply zk9) <;> intro hc)
  |(refine callP0 rfl ?_)
  |(refine callD0 rfl ?_)
  |(refine cC (hA.out) ?_)
  |(refine cX (hA.out) ?_)
  |(refine cY (hA.out) ?_)
  |(refine cZ (hA.out) ?_)
  |(refine cC (hB.out) ?_)
  |(refine cX (hB.out) ?_)
  |(refine cY (hB.out) ?_)
  |(refine cZ (hB.out) ?_)
  | fail)
 exact ret_v
set_option maxHeartbeats 4000000 in
theorem qt_kind (t : ByteArray) (n : Int) (ps : List QT) (A B D : ByteArray)
  (hA : FRet Tryz.prog 14 [.f (.int .i64 0),.f (.fp [.int .i64 6,.str t,.int .i64 n,.fr 4 (encQs ps)])] [.c (.v (.str A))])
  (hs : t.size + A.size + 100 ≤ 4611686018427387904) :
  FRet Tryz.prog 9 [.agg [.f (.int .i64 6),.f (.str t),.f (.int .i64 n),.f (.fr 4 (encQs ps))]] [.c (.v (.str (((((⟨#[107,105,110,100,40]⟩ : ByteArray) ++ t) ++ (⟨#[44,32]⟩ : ByteArray)) ++ A) ++ (⟨#[41]⟩ : ByteArray))))] := by
 have z0 : (⟨#[107,105,110,100,40]⟩ : ByteArray).size = 5 := rfl
 have z1 : (⟨#[41]⟩ : ByteArray).size = 1 := rfl
 have z2 : (⟨#[44,32]⟩ : ByteArray).size = 2 := rfl
 have l0 := eq_true (show (⟨#[107,105,110,100,40]⟩ : ByteArray).size + t.size ≤ 9223372036854775807 by simp only [ByteArray.size_append,z0,z1,z2];omega)
 have l1 := eq_true (show ((⟨#[107,105,110,100,40]⟩ : ByteArray) ++ t).size + (⟨#[44,32]⟩ : ByteArray).size ≤ 9223372036854775807 by simp only [ByteArray.size_append,z0,z1,z2];omega)
 have l2 := eq_true (show (((⟨#[107,105,110,100,40]⟩ : ByteArray) ++ t) ++ (⟨#[44,32]⟩ : ByteArray)).size + A.size ≤ 9223372036854775807 by simp only [ByteArray.size_append,z0,z1,z2];omega)
 have l3 := eq_true (show ((((⟨#[107,105,110,100,40]⟩ : ByteArray) ++ t) ++ (⟨#[44,32]⟩ : ByteArray)) ++ A).size + (⟨#[41]⟩ : ByteArray).size ≤ 9223372036854775807 by simp only [ByteArray.size_append,z0,z1,z2];omega)
 clear z0 z1 z2 hs
 generalize encQs ps = E at *
 replace hA := hide hA
 refine FCall.of_ax low_graph_queryText ?_
 dsimp only [l_graph_queryText]
 refine srun_sound 23 _ _ _ _ ?_
 repeat' (first
  | (simp -implicitDefEqProofs only [*,addFp_wr,zr,Nat.reduceAdd,Nat.reduceSub,Nat.reduceMul,Nat.reduceLT,Nat.reduceLeDiff,Nat.reduceEqDiff,Nat.reduceBEq,reduceIte,reduceCtorEq,Int.reduceLE,Int.reduceLT,Int.reduceToNat,Int.reduceEq,Int.reduceNe])
  | ((first|apply zk0|apply zk1|apply zk2|apply zk3|apply zk4|apply zk5|apply zk6|apply zk7|apply zk8|apply zk9) <;> intro hc)
  |(refine callP0 rfl ?_)
  |(refine callD0 rfl ?_)
  | fail)
 refine ax_weakA [] (nw := []) (n := 92) (el := [(1,.f (.fp [.int .i64 6,.str t,.int .i64 n,.fr 4 E])),(3,.ptr 3 1 0),(4,.clo (.func 15) [.f (.fp [.int .i64 6,.str t,.int .i64 n,.fr 4 E]),.ptr 3 1 0]),(5,.f (.str ⟨#[110,101,101,100,115]⟩))]) (hl := [(3,1,AObj.cells [.f (.fc (.func 14) [.fp [.int .i64 6,.str t,.int .i64 n,.fr 4 E]])])]) rfl ?_ ?_
 ·refine wk_i ?_ ?_ <;> simp only [so_mf,mapOfH_some,so_ptf,so_cc,so_ff',cellsOf_some,List.drop_zero,List.take_succ_cons,List.take_zero,Nat.zero_add,so_cfc,so_cl2,zw,Nat.reduceEqDiff,Nat.reduceBEq,Nat.reduceLT,Nat.reduceLeDiff,reduceIte,reduceCtorEq]
 refine ax_weakA [] (nw := []) (n := 92) (el := [(1,.f (.fp [.int .i64 6,.str t,.int .i64 n,.fr 4 E])),(3,.f (.fp [.fc (.func 14) [.fp [.int .i64 6,.str t,.int .i64 n,.fr 4 E]]])),(4,.f (.fc (.func 15) [.fp [.int .i64 6,.str t,.int .i64 n,.fr 4 E],.fp [.fc (.func 14) [.fp [.int .i64 6,.str t,.int .i64 n,.fr 4 E]]]])),(5,.f (.str ⟨#[110,101,101,100,115]⟩))]) (hl := []) rfl ?_ ?_
 ·refine wk_i ?_ ?_ <;> simp only [so_mf,mapOfH_some,so_ptf,so_cc,so_ff',cellsOf_some,List.drop_zero,List.take_succ_cons,List.take_zero,Nat.zero_add,so_cfc,so_cl2,zw,Nat.reduceEqDiff,Nat.reduceBEq,Nat.reduceLT,Nat.reduceLeDiff,reduceIte,reduceCtorEq]
 refine srun_sound 300 _ _ _ _ ?_
 repeat' (first
  | (simp -implicitDefEqProofs only [*,addFp_wr,zr,Nat.reduceAdd,Nat.reduceSub,Nat.reduceMul,Nat.reduceLT,Nat.reduceLeDiff,Nat.reduceEqDiff,Nat.reduceBEq,reduceIte,reduceCtorEq,Int.reduceLE,Int.reduceLT,Int.reduceToNat,Int.reduceEq,Int.reduceNe])
  | ((first|apply zk0|apply zk1|apply zk2|apply zk3|apply zk4|apply zk5|apply zk6|apply zk7|apply zk8|apply zk9) <;> intro hc)
  |(refine callP0 rfl ?_)
  |(refine callD0 rfl ?_)
  |(refine cC (hA.out) ?_)
  |(refine cX (hA.out) ?_)
  |(refine cY (hA.out) ?_)
  |(refine cZ (hA.out) ?_)
  | fail)
 exact ret_v
set_option maxHeartbeats 4000000 in
theorem qt_in (t : ByteArray) (n : Int) (ps : List QT) (A B D : ByteArray)
  (hA : FRet Tryz.prog 14 [.f (.int .i64 0),.f (.fp [.int .i64 7,.str t,.int .i64 n,.fr 4 (encQs ps)])] [.c (.v (.str A))])
  (hs : t.size + A.size + 100 ≤ 4611686018427387904) :
  FRet Tryz.prog 9 [.agg [.f (.int .i64 7),.f (.str t),.f (.int .i64 n),.f (.fr 4 (encQs ps))]] [.c (.v (.str (((((⟨#[105,110,40]⟩ : ByteArray) ++ t) ++ (⟨#[44,32]⟩ : ByteArray)) ++ A) ++ (⟨#[41]⟩ : ByteArray))))] := by
 have z0 : (⟨#[105,110,40]⟩ : ByteArray).size = 3 := rfl
 have z1 : (⟨#[41]⟩ : ByteArray).size = 1 := rfl
 have z2 : (⟨#[44,32]⟩ : ByteArray).size = 2 := rfl
 have l0 := eq_true (show (⟨#[105,110,40]⟩ : ByteArray).size + t.size ≤ 9223372036854775807 by simp only [ByteArray.size_append,z0,z1,z2];omega)
 have l1 := eq_true (show ((⟨#[105,110,40]⟩ : ByteArray) ++ t).size + (⟨#[44,32]⟩ : ByteArray).size ≤ 9223372036854775807 by simp only [ByteArray.size_append,z0,z1,z2];omega)
 have l2 := eq_true (show (((⟨#[105,110,40]⟩ : ByteArray) ++ t) ++ (⟨#[44,32]⟩ : ByteArray)).size + A.size ≤ 9223372036854775807 by simp only [ByteArray.size_append,z0,z1,z2];omega)
 have l3 := eq_true (show ((((⟨#[105,110,40]⟩ : ByteArray) ++ t) ++ (⟨#[44,32]⟩ : ByteArray)) ++ A).size + (⟨#[41]⟩ : ByteArray).size ≤ 9223372036854775807 by simp only [ByteArray.size_append,z0,z1,z2];omega)
 clear z0 z1 z2 hs
 generalize encQs ps = E at *
 replace hA := hide hA
 refine FCall.of_ax low_graph_queryText ?_
 dsimp only [l_graph_queryText]
 refine srun_sound 23 _ _ _ _ ?_
 repeat' (first
  | (simp -implicitDefEqProofs only [*,addFp_wr,zr,Nat.reduceAdd,Nat.reduceSub,Nat.reduceMul,Nat.reduceLT,Nat.reduceLeDiff,Nat.reduceEqDiff,Nat.reduceBEq,reduceIte,reduceCtorEq,Int.reduceLE,Int.reduceLT,Int.reduceToNat,Int.reduceEq,Int.reduceNe])
  | ((first|apply zk0|apply zk1|apply zk2|apply zk3|apply zk4|apply zk5|apply zk6|apply zk7|apply zk8|apply zk9) <;> intro hc)
  |(refine callP0 rfl ?_)
  |(refine callD0 rfl ?_)
  | fail)
 refine ax_weakA [] (nw := []) (n := 92) (el := [(1,.f (.fp [.int .i64 7,.str t,.int .i64 n,.fr 4 E])),(3,.ptr 3 1 0),(4,.clo (.func 15) [.f (.fp [.int .i64 7,.str t,.int .i64 n,.fr 4 E]),.ptr 3 1 0]),(5,.f (.str ⟨#[110,101,101,100,115]⟩))]) (hl := [(3,1,AObj.cells [.f (.fc (.func 14) [.fp [.int .i64 7,.str t,.int .i64 n,.fr 4 E]])])]) rfl ?_ ?_
 ·refine wk_i ?_ ?_ <;> simp only [so_mf,mapOfH_some,so_ptf,so_cc,so_ff',cellsOf_some,List.drop_zero,List.take_succ_cons,List.take_zero,Nat.zero_add,so_cfc,so_cl2,zw,Nat.reduceEqDiff,Nat.reduceBEq,Nat.reduceLT,Nat.reduceLeDiff,reduceIte,reduceCtorEq]
 refine ax_weakA [] (nw := []) (n := 92) (el := [(1,.f (.fp [.int .i64 7,.str t,.int .i64 n,.fr 4 E])),(3,.f (.fp [.fc (.func 14) [.fp [.int .i64 7,.str t,.int .i64 n,.fr 4 E]]])),(4,.f (.fc (.func 15) [.fp [.int .i64 7,.str t,.int .i64 n,.fr 4 E],.fp [.fc (.func 14) [.fp [.int .i64 7,.str t,.int .i64 n,.fr 4 E]]]])),(5,.f (.str ⟨#[110,101,101,100,115]⟩))]) (hl := []) rfl ?_ ?_
 ·refine wk_i ?_ ?_ <;> simp only [so_mf,mapOfH_some,so_ptf,so_cc,so_ff',cellsOf_some,List.drop_zero,List.take_succ_cons,List.take_zero,Nat.zero_add,so_cfc,so_cl2,zw,Nat.reduceEqDiff,Nat.reduceBEq,Nat.reduceLT,Nat.reduceLeDiff,reduceIte,reduceCtorEq]
 refine srun_sound 300 _ _ _ _ ?_
 repeat' (first
  | (simp -implicitDefEqProofs only [*,addFp_wr,zr,Nat.reduceAdd,Nat.reduceSub,Nat.reduceMul,Nat.reduceLT,Nat.reduceLeDiff,Nat.reduceEqDiff,Nat.reduceBEq,reduceIte,reduceCtorEq,Int.reduceLE,Int.reduceLT,Int.reduceToNat,Int.reduceEq,Int.reduceNe])
  | ((first|apply zk0|apply zk1|apply zk2|apply zk3|apply zk4|apply zk5|apply zk6|apply zk7|apply zk8|apply zk9) <;> intro hc)
  |(refine callP0 rfl ?_)
  |(refine callD0 rfl ?_)
  |(refine cC (hA.out) ?_)
  |(refine cX (hA.out) ?_)
  |(refine cY (hA.out) ?_)
  |(refine cZ (hA.out) ?_)
  | fail)
 exact ret_v
set_option maxHeartbeats 4000000 in
theorem qt_op8 (t : ByteArray) (n : Int) (ps : List QT) (A B D : ByteArray)
  (hA : FRet Tryz.prog 15 [.f (.int .i64 0),.f (.fp [.int .i64 8,.str t,.int .i64 n,.fr 4 (encQs ps)]),.f (.fp [.fc (.func 14) [.fp [.int .i64 8,.str t,.int .i64 n,.fr 4 (encQs ps)]]])] [.c (.v (.str A))])
  (hB : FRet Tryz.prog 15 [.f (.int .i64 1),.f (.fp [.int .i64 8,.str t,.int .i64 n,.fr 4 (encQs ps)]),.f (.fp [.fc (.func 14) [.fp [.int .i64 8,.str t,.int .i64 n,.fr 4 (encQs ps)]]])] [.c (.v (.str B))])
  (hs : A.size + B.size + 100 ≤ 4611686018427387904) :
  FRet Tryz.prog 9 [.agg [.f (.int .i64 8),.f (.str t),.f (.int .i64 n),.f (.fr 4 (encQs ps))]] [.c (.v (.str ((A ++ (⟨#[32,43,32]⟩ : ByteArray)) ++ B)))] := by
 have z0 : (⟨#[32,43,32]⟩ : ByteArray).size = 3 := rfl
 have l0 := eq_true (show A.size + (⟨#[32,43,32]⟩ : ByteArray).size ≤ 9223372036854775807 by simp only [ByteArray.size_append,z0];omega)
 have l1 := eq_true (show (A ++ (⟨#[32,43,32]⟩ : ByteArray)).size + B.size ≤ 9223372036854775807 by simp only [ByteArray.size_append,z0];omega)
 clear z0 hs
 generalize encQs ps = E at *
 replace hA := hide hA
 replace hB := hide hB
 refine FCall.of_ax low_graph_queryText ?_
 dsimp only [l_graph_queryText]
 refine srun_sound 23 _ _ _ _ ?_
 repeat' (first
  | (simp -implicitDefEqProofs only [*,addFp_wr,zr,Nat.reduceAdd,Nat.reduceSub,Nat.reduceMul,Nat.reduceLT,Nat.reduceLeDiff,Nat.reduceEqDiff,Nat.reduceBEq,reduceIte,reduceCtorEq,Int.reduceLE,Int.reduceLT,Int.reduceToNat,Int.reduceEq,Int.reduceNe])
  | ((first|apply zk0|apply zk1|apply zk2|apply zk3|apply zk4|apply zk5|apply zk6|apply zk7|apply zk8|apply zk9) <;> intro hc)
  |(refine callP0 rfl ?_)
  |(refine callD0 rfl ?_)
  | fail)
 refine ax_weakA [] (nw := []) (n := 92) (el := [(1,.f (.fp [.int .i64 8,.str t,.int .i64 n,.fr 4 E])),(3,.ptr 3 1 0),(4,.clo (.func 15) [.f (.fp [.int .i64 8,.str t,.int .i64 n,.fr 4 E]),.ptr 3 1 0]),(5,.f (.str ⟨#[110,101,101,100,115]⟩))]) (hl := [(3,1,AObj.cells [.f (.fc (.func 14) [.fp [.int .i64 8,.str t,.int .i64 n,.fr 4 E]])])]) rfl ?_ ?_
 ·refine wk_i ?_ ?_ <;> simp only [so_mf,mapOfH_some,so_ptf,so_cc,so_ff',cellsOf_some,List.drop_zero,List.take_succ_cons,List.take_zero,Nat.zero_add,so_cfc,so_cl2,zw,Nat.reduceEqDiff,Nat.reduceBEq,Nat.reduceLT,Nat.reduceLeDiff,reduceIte,reduceCtorEq]
 refine ax_weakA [] (nw := []) (n := 92) (el := [(1,.f (.fp [.int .i64 8,.str t,.int .i64 n,.fr 4 E])),(3,.f (.fp [.fc (.func 14) [.fp [.int .i64 8,.str t,.int .i64 n,.fr 4 E]]])),(4,.f (.fc (.func 15) [.fp [.int .i64 8,.str t,.int .i64 n,.fr 4 E],.fp [.fc (.func 14) [.fp [.int .i64 8,.str t,.int .i64 n,.fr 4 E]]]])),(5,.f (.str ⟨#[110,101,101,100,115]⟩))]) (hl := []) rfl ?_ ?_
 ·refine wk_i ?_ ?_ <;> simp only [so_mf,mapOfH_some,so_ptf,so_cc,so_ff',cellsOf_some,List.drop_zero,List.take_succ_cons,List.take_zero,Nat.zero_add,so_cfc,so_cl2,zw,Nat.reduceEqDiff,Nat.reduceBEq,Nat.reduceLT,Nat.reduceLeDiff,reduceIte,reduceCtorEq]
 refine srun_sound 300 _ _ _ _ ?_
 repeat' (first
  | (simp -implicitDefEqProofs only [*,addFp_wr,zr,Nat.reduceAdd,Nat.reduceSub,Nat.reduceMul,Nat.reduceLT,Nat.reduceLeDiff,Nat.reduceEqDiff,Nat.reduceBEq,reduceIte,reduceCtorEq,Int.reduceLE,Int.reduceLT,Int.reduceToNat,Int.reduceEq,Int.reduceNe])
  | ((first|apply zk0|apply zk1|apply zk2|apply zk3|apply zk4|apply zk5|apply zk6|apply zk7|apply zk8|apply zk9) <;> intro hc)
  |(refine callP0 rfl ?_)
  |(refine callD0 rfl ?_)
  |(refine cC (hA.out) ?_)
  |(refine cX (hA.out) ?_)
  |(refine cY (hA.out) ?_)
  |(refine cZ (hA.out) ?_)
  |(refine cC (hB.out) ?_)
  |(refine cX (hB.out) ?_)
  |(refine cY (hB.out) ?_)
  |(refine cZ (hB.out) ?_)
  | fail)
 exact ret_v
set_option maxHeartbeats 4000000 in
theorem qt_op9 (t : ByteArray) (n : Int) (ps : List QT) (A B D : ByteArray)
  (hA : FRet Tryz.prog 15 [.f (.int .i64 0),.f (.fp [.int .i64 9,.str t,.int .i64 n,.fr 4 (encQs ps)]),.f (.fp [.fc (.func 14) [.fp [.int .i64 9,.str t,.int .i64 n,.fr 4 (encQs ps)]]])] [.c (.v (.str A))])
  (hB : FRet Tryz.prog 15 [.f (.int .i64 1),.f (.fp [.int .i64 9,.str t,.int .i64 n,.fr 4 (encQs ps)]),.f (.fp [.fc (.func 14) [.fp [.int .i64 9,.str t,.int .i64 n,.fr 4 (encQs ps)]]])] [.c (.v (.str B))])
  (hs : A.size + B.size + 100 ≤ 4611686018427387904) :
  FRet Tryz.prog 9 [.agg [.f (.int .i64 9),.f (.str t),.f (.int .i64 n),.f (.fr 4 (encQs ps))]] [.c (.v (.str ((A ++ (⟨#[32,45,32]⟩ : ByteArray)) ++ B)))] := by
 have z0 : (⟨#[32,45,32]⟩ : ByteArray).size = 3 := rfl
 have l0 := eq_true (show A.size + (⟨#[32,45,32]⟩ : ByteArray).size ≤ 9223372036854775807 by simp only [ByteArray.size_append,z0];omega)
 have l1 := eq_true (show (A ++ (⟨#[32,45,32]⟩ : ByteArray)).size + B.size ≤ 9223372036854775807 by simp only [ByteArray.size_append,z0];omega)
 clear z0 hs
 generalize encQs ps = E at *
 replace hA := hide hA
 replace hB := hide hB
 refine FCall.of_ax low_graph_queryText ?_
 dsimp only [l_graph_queryText]
 refine srun_sound 23 _ _ _ _ ?_
 repeat' (first
  | (simp -implicitDefEqProofs only [*,addFp_wr,zr,Nat.reduceAdd,Nat.reduceSub,Nat.reduceMul,Nat.reduceLT,Nat.reduceLeDiff,Nat.reduceEqDiff,Nat.reduceBEq,reduceIte,reduceCtorEq,Int.reduceLE,Int.reduceLT,Int.reduceToNat,Int.reduceEq,Int.reduceNe])
  | ((first|apply zk0|apply zk1|apply zk2|apply zk3|apply zk4|apply zk5|apply zk6|apply zk7|apply zk8|apply zk9) <;> intro hc)
  |(refine callP0 rfl ?_)
  |(refine callD0 rfl ?_)
  | fail)
 refine ax_weakA [] (nw := []) (n := 92) (el := [(1,.f (.fp [.int .i64 9,.str t,.int .i64 n,.fr 4 E])),(3,.ptr 3 1 0),(4,.clo (.func 15) [.f (.fp [.int .i64 9,.str t,.int .i64 n,.fr 4 E]),.ptr 3 1 0]),(5,.f (.str ⟨#[110,101,101,100,115]⟩))]) (hl := [(3,1,AObj.cells [.f (.fc (.func 14) [.fp [.int .i64 9,.str t,.int .i64 n,.fr 4 E]])])]) rfl ?_ ?_
 ·refine wk_i ?_ ?_ <;> simp only [so_mf,mapOfH_some,so_ptf,so_cc,so_ff',cellsOf_some,List.drop_zero,List.take_succ_cons,List.take_zero,Nat.zero_add,so_cfc,so_cl2,zw,Nat.reduceEqDiff,Nat.reduceBEq,Nat.reduceLT,Nat.reduceLeDiff,reduceIte,reduceCtorEq]
 refine ax_weakA [] (nw := []) (n := 92) (el := [(1,.f (.fp [.int .i64 9,.str t,.int .i64 n,.fr 4 E])),(3,.f (.fp [.fc (.func 14) [.fp [.int .i64 9,.str t,.int .i64 n,.fr 4 E]]])),(4,.f (.fc (.func 15) [.fp [.int .i64 9,.str t,.int .i64 n,.fr 4 E],.fp [.fc (.func 14) [.fp [.int .i64 9,.str t,.int .i64 n,.fr 4 E]]]])),(5,.f (.str ⟨#[110,101,101,100,115]⟩))]) (hl := []) rfl ?_ ?_
 ·refine wk_i ?_ ?_ <;> simp only [so_mf,mapOfH_some,so_ptf,so_cc,so_ff',cellsOf_some,List.drop_zero,List.take_succ_cons,List.take_zero,Nat.zero_add,so_cfc,so_cl2,zw,Nat.reduceEqDiff,Nat.reduceBEq,Nat.reduceLT,Nat.reduceLeDiff,reduceIte,reduceCtorEq]
 refine srun_sound 300 _ _ _ _ ?_
 repeat' (first
  | (simp -implicitDefEqProofs only [*,addFp_wr,zr,Nat.reduceAdd,Nat.reduceSub,Nat.reduceMul,Nat.reduceLT,Nat.reduceLeDiff,Nat.reduceEqDiff,Nat.reduceBEq,reduceIte,reduceCtorEq,Int.reduceLE,Int.reduceLT,Int.reduceToNat,Int.reduceEq,Int.reduceNe])
  | ((first|apply zk0|apply zk1|apply zk2|apply zk3|apply zk4|apply zk5|apply zk6|apply zk7|apply zk8|apply zk9) <;> intro hc)
  |(refine callP0 rfl ?_)
  |(refine callD0 rfl ?_)
  |(refine cC (hA.out) ?_)
  |(refine cX (hA.out) ?_)
  |(refine cY (hA.out) ?_)
  |(refine cZ (hA.out) ?_)
  |(refine cC (hB.out) ?_)
  |(refine cX (hB.out) ?_)
  |(refine cY (hB.out) ?_)
  |(refine cZ (hB.out) ?_)
  | fail)
 exact ret_v
set_option maxHeartbeats 4000000 in
theorem qt_op10 (t : ByteArray) (n : Int) (ps : List QT) (A B D : ByteArray)
  (hA : FRet Tryz.prog 15 [.f (.int .i64 0),.f (.fp [.int .i64 10,.str t,.int .i64 n,.fr 4 (encQs ps)]),.f (.fp [.fc (.func 14) [.fp [.int .i64 10,.str t,.int .i64 n,.fr 4 (encQs ps)]]])] [.c (.v (.str A))])
  (hB : FRet Tryz.prog 15 [.f (.int .i64 1),.f (.fp [.int .i64 10,.str t,.int .i64 n,.fr 4 (encQs ps)]),.f (.fp [.fc (.func 14) [.fp [.int .i64 10,.str t,.int .i64 n,.fr 4 (encQs ps)]]])] [.c (.v (.str B))])
  (hs : A.size + B.size + 100 ≤ 4611686018427387904) :
  FRet Tryz.prog 9 [.agg [.f (.int .i64 10),.f (.str t),.f (.int .i64 n),.f (.fr 4 (encQs ps))]] [.c (.v (.str ((A ++ (⟨#[32,38,32]⟩ : ByteArray)) ++ B)))] := by
 have z0 : (⟨#[32,38,32]⟩ : ByteArray).size = 3 := rfl
 have l0 := eq_true (show A.size + (⟨#[32,38,32]⟩ : ByteArray).size ≤ 9223372036854775807 by simp only [ByteArray.size_append,z0];omega)
 have l1 := eq_true (show (A ++ (⟨#[32,38,32]⟩ : ByteArray)).size + B.size ≤ 9223372036854775807 by simp only [ByteArray.size_append,z0];omega)
 clear z0 hs
 generalize encQs ps = E at *
 replace hA := hide hA
 replace hB := hide hB
 refine FCall.of_ax low_graph_queryText ?_
 dsimp only [l_graph_queryText]
 refine srun_sound 23 _ _ _ _ ?_
 repeat' (first
  | (simp -implicitDefEqProofs only [*,addFp_wr,zr,Nat.reduceAdd,Nat.reduceSub,Nat.reduceMul,Nat.reduceLT,Nat.reduceLeDiff,Nat.reduceEqDiff,Nat.reduceBEq,reduceIte,reduceCtorEq,Int.reduceLE,Int.reduceLT,Int.reduceToNat,Int.reduceEq,Int.reduceNe])
  | ((first|apply zk0|apply zk1|apply zk2|apply zk3|apply zk4|apply zk5|apply zk6|apply zk7|apply zk8|apply zk9) <;> intro hc)
  |(refine callP0 rfl ?_)
  |(refine callD0 rfl ?_)
  | fail)
 refine ax_weakA [] (nw := []) (n := 92) (el := [(1,.f (.fp [.int .i64 10,.str t,.int .i64 n,.fr 4 E])),(3,.ptr 3 1 0),(4,.clo (.func 15) [.f (.fp [.int .i64 10,.str t,.int .i64 n,.fr 4 E]),.ptr 3 1 0]),(5,.f (.str ⟨#[110,101,101,100,115]⟩))]) (hl := [(3,1,AObj.cells [.f (.fc (.func 14) [.fp [.int .i64 10,.str t,.int .i64 n,.fr 4 E]])])]) rfl ?_ ?_
 ·refine wk_i ?_ ?_ <;> simp only [so_mf,mapOfH_some,so_ptf,so_cc,so_ff',cellsOf_some,List.drop_zero,List.take_succ_cons,List.take_zero,Nat.zero_add,so_cfc,so_cl2,zw,Nat.reduceEqDiff,Nat.reduceBEq,Nat.reduceLT,Nat.reduceLeDiff,reduceIte,reduceCtorEq]
 refine ax_weakA [] (nw := []) (n := 92) (el := [(1,.f (.fp [.int .i64 10,.str t,.int .i64 n,.fr 4 E])),(3,.f (.fp [.fc (.func 14) [.fp [.int .i64 10,.str t,.int .i64 n,.fr 4 E]]])),(4,.f (.fc (.func 15) [.fp [.int .i64 10,.str t,.int .i64 n,.fr 4 E],.fp [.fc (.func 14) [.fp [.int .i64 10,.str t,.int .i64 n,.fr 4 E]]]])),(5,.f (.str ⟨#[110,101,101,100,115]⟩))]) (hl := []) rfl ?_ ?_
 ·refine wk_i ?_ ?_ <;> simp only [so_mf,mapOfH_some,so_ptf,so_cc,so_ff',cellsOf_some,List.drop_zero,List.take_succ_cons,List.take_zero,Nat.zero_add,so_cfc,so_cl2,zw,Nat.reduceEqDiff,Nat.reduceBEq,Nat.reduceLT,Nat.reduceLeDiff,reduceIte,reduceCtorEq]
 refine srun_sound 300 _ _ _ _ ?_
 repeat' (first
  | (simp -implicitDefEqProofs only [*,addFp_wr,zr,Nat.reduceAdd,Nat.reduceSub,Nat.reduceMul,Nat.reduceLT,Nat.reduceLeDiff,Nat.reduceEqDiff,Nat.reduceBEq,reduceIte,reduceCtorEq,Int.reduceLE,Int.reduceLT,Int.reduceToNat,Int.reduceEq,Int.reduceNe])
  | ((first|apply zk0|apply zk1|apply zk2|apply zk3|apply zk4|apply zk5|apply zk6|apply zk7|apply zk8|apply zk9) <;> intro hc)
  |(refine callP0 rfl ?_)
  |(refine callD0 rfl ?_)
  |(refine cC (hA.out) ?_)
  |(refine cX (hA.out) ?_)
  |(refine cY (hA.out) ?_)
  |(refine cZ (hA.out) ?_)
  |(refine cC (hB.out) ?_)
  |(refine cX (hB.out) ?_)
  |(refine cY (hB.out) ?_)
  |(refine cZ (hB.out) ?_)
  | fail)
 exact ret_v
end Go.Proofs.YtagkdifaldikgaaGreatDoor
