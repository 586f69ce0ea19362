/-
  One query without signs between, where something is wrong. No statement of the seat is proved here; no conditions.
-/
import Derived.Test.YtagkdifaldikgaaGreatDoorQdI
namespace Go.Proofs.YtagkdifaldikgaaGreatDoor
open Go.RowKit Go.Shelf
set_option linter.unusedVariables false
set_option linter.unusedSimpArgs false
set_option maxRecDepth 100000

set_option maxHeartbeats 8000000 in
theorem lab_p {t w : ByteArray} {v : Int} {a a0 : Nat}
  (kT : FRetP Tryz.prog 28 (RD t a) [] [.f (.str ⟨#[40]⟩)] (RD t a0) [.c (.v (.bool false))])
  (kN : FRetP Tryz.prog 20 (RD t a0) [] [] (RD t a0) [.c (.v (.str w)),.c (.v (.int .i64 (a0 : Nat)))])
  (kI : FRet Tryz.prog 62 [.f (.fr 1 [[.str ⟨#[97,108,108]⟩],[.str ⟨#[110,101,101,100,115]⟩],[.str ⟨#[117,115,101,114,115]⟩],[.str ⟨#[98,101,116,119,101,101,110]⟩],[.str ⟨#[107,105,110,100]⟩],[.str ⟨#[105,110]⟩]]),.f (.str w)] [.c (.v (.int .i64 (-1)))])
  (kX : FPanP Tryz.prog 63 (RD t a0) [] [.f (.fn (.func 37))] IsW) :
  FPanP Tryz.prog 41 (RD t a) [] [] IsW := by
 unfold RD at *
 replace kT := hide kT
 replace kN := hide kN
 replace kI := hide kI
 replace kX := hide kX
 refine PCall.of_ax low_graph_reader_one ?_
 dsimp only [l_graph_reader_one]
 refine srun_sound 300 _ _ _ _ ?_
 repeat' simp -implicitDefEqProofs only [*,addFp_wr,zr,seval]
 refine gP kT.out 100001 1 [.f (.str t),.f (.int .i64 a)] [] [.f (.str ⟨#[40]⟩)] ?_
 repeat' simp -implicitDefEqProofs only [*,addFp_wr,zr,seval]
 refine gP kN.out 100001 1 [.f (.str t),.f (.int .i64 a0)] [] [] ?_
 repeat' simp -implicitDefEqProofs only [*,addFp_wr,zr,seval]
 refine callG rfl kI.out rfl (fz_words rfl) rfl (by repeat (first|exact free_0 | exact free_mk (by simp) | refine free_upd rfl ?_ | refine free_kill ?_)) ?_
 repeat' simp -implicitDefEqProofs only [*,addFp_wr,zr,seval]
 exact gPan kX.out 100001 1 [.f (.str t),.f (.int .i64 a0)] [] [.f (.fn (.func 37))]
set_option maxHeartbeats 8000000 in
theorem paren_p3 {t w : ByteArray} {v : Int} {a a0 a1 : Nat}
  (kT : FRetP Tryz.prog 28 (RD t a) [] [.f (.str ⟨#[40]⟩)] (RD t a0) [.c (.v (.bool false))])
  (kN : FRetP Tryz.prog 20 (RD t a0) [] [] (RD t a0) [.c (.v (.str w)),.c (.v (.int .i64 (a0 : Nat)))])
  (kI : FRet Tryz.prog 62 [.f (.fr 1 [[.str ⟨#[97,108,108]⟩],[.str ⟨#[110,101,101,100,115]⟩],[.str ⟨#[117,115,101,114,115]⟩],[.str ⟨#[98,101,116,119,101,101,110]⟩],[.str ⟨#[107,105,110,100]⟩],[.str ⟨#[105,110]⟩]]),.f (.str w)] [.c (.v (.int .i64 (1)))])
  (kP : FRetP Tryz.prog 42 (RD t a0) [] [] (RD t a1) [])
  (kX : FPanP Tryz.prog 61 (RD t a1) [] [.f (.str ⟨#[40]⟩)] IsW) :
  FPanP Tryz.prog 41 (RD t a) [] [] IsW := by
 unfold RD at *
 replace kT := hide kT
 replace kN := hide kN
 replace kI := hide kI
 replace kP := hide kP
 replace kX := hide kX
 refine PCall.of_ax low_graph_reader_one ?_
 dsimp only [l_graph_reader_one]
 refine srun_sound 300 _ _ _ _ ?_
 repeat' simp -implicitDefEqProofs only [*,addFp_wr,zr,seval]
 refine gP kT.out 100001 1 [.f (.str t),.f (.int .i64 a)] [] [.f (.str ⟨#[40]⟩)] ?_
 repeat' simp -implicitDefEqProofs only [*,addFp_wr,zr,seval]
 refine gP kN.out 100001 1 [.f (.str t),.f (.int .i64 a0)] [] [] ?_
 repeat' simp -implicitDefEqProofs only [*,addFp_wr,zr,seval]
 refine callG rfl kI.out rfl (fz_words rfl) rfl (by repeat (first|exact free_0 | exact free_mk (by simp) | refine free_upd rfl ?_ | refine free_kill ?_)) ?_
 repeat' simp -implicitDefEqProofs only [*,addFp_wr,zr,seval]
 refine gP kP.out 100001 1 [.f (.str t),.f (.int .i64 a0)] [] [] ?_
 repeat' simp -implicitDefEqProofs only [*,addFp_wr,zr,seval]
 exact gPan kX.out 100001 1 [.f (.str t),.f (.int .i64 a1)] [] [.f (.str ⟨#[40]⟩)]
set_option maxHeartbeats 8000000 in
theorem sum_p3 {t w : ByteArray} {v : Int} {a a0 a1 a2 : Nat}
  (kT : FRetP Tryz.prog 28 (RD t a) [] [.f (.str ⟨#[40]⟩)] (RD t a0) [.c (.v (.bool false))])
  (kN : FRetP Tryz.prog 20 (RD t a0) [] [] (RD t a0) [.c (.v (.str w)),.c (.v (.int .i64 (a0 : Nat)))])
  (kI : FRet Tryz.prog 62 [.f (.fr 1 [[.str ⟨#[97,108,108]⟩],[.str ⟨#[110,101,101,100,115]⟩],[.str ⟨#[117,115,101,114,115]⟩],[.str ⟨#[98,101,116,119,101,101,110]⟩],[.str ⟨#[107,105,110,100]⟩],[.str ⟨#[105,110]⟩]]),.f (.str w)] [.c (.v (.int .i64 (1)))])
  (kP : FRetP Tryz.prog 42 (RD t a0) [] [] (RD t a1) [])
  (kM1 : FRetP Tryz.prog 61 (RD t a1) [] [.f (.str ⟨#[40]⟩)] (RD t a2) [])
  (kX : FPanP Tryz.prog 19 (RD t a2) [] [] IsW) :
  FPanP Tryz.prog 41 (RD t a) [] [] IsW := by
 unfold RD at *
 replace kT := hide kT
 replace kN := hide kN
 replace kI := hide kI
 replace kP := hide kP
 replace kM1 := hide kM1
 replace kX := hide kX
 refine PCall.of_ax low_graph_reader_one ?_
 dsimp only [l_graph_reader_one]
 refine srun_sound 300 _ _ _ _ ?_
 repeat' simp -implicitDefEqProofs only [*,addFp_wr,zr,seval]
 refine gP kT.out 100001 1 [.f (.str t),.f (.int .i64 a)] [] [.f (.str ⟨#[40]⟩)] ?_
 repeat' simp -implicitDefEqProofs only [*,addFp_wr,zr,seval]
 refine gP kN.out 100001 1 [.f (.str t),.f (.int .i64 a0)] [] [] ?_
 repeat' simp -implicitDefEqProofs only [*,addFp_wr,zr,seval]
 refine callG rfl kI.out rfl (fz_words rfl) rfl (by repeat (first|exact free_0 | exact free_mk (by simp) | refine free_upd rfl ?_ | refine free_kill ?_)) ?_
 repeat' simp -implicitDefEqProofs only [*,addFp_wr,zr,seval]
 refine gP kP.out 100001 1 [.f (.str t),.f (.int .i64 a0)] [] [] ?_
 repeat' simp -implicitDefEqProofs only [*,addFp_wr,zr,seval]
 refine gPm (m := 23) kM1.out 100001 1 [.f (.str t),.f (.int .i64 a1)] [] [.f (.str ⟨#[40]⟩)] ?_
 repeat' simp -implicitDefEqProofs only [*,addFp_wr,zr,seval]
 refine ax_pdraw ?_
 exact ⟨rfl,.inl ⟨56,_,rfl,rfl,rfl,.inl ⟨57,_,rfl,rfl,rfl,.inl ⟨58,_,rfl,rfl,rfl,.inr ⟨_,_,_,rfl,rfl,panRd kX.out rfl,rfl⟩⟩⟩⟩⟩
set_option maxHeartbeats 8000000 in
theorem num_p3 {t w : ByteArray} {v : Int} {a a0 a1 a2 a5 a6 : Nat} {q : QT}
  (kT : FRetP Tryz.prog 28 (RD t a) [] [.f (.str ⟨#[40]⟩)] (RD t a0) [.c (.v (.bool false))])
  (kN : FRetP Tryz.prog 20 (RD t a0) [] [] (RD t a0) [.c (.v (.str w)),.c (.v (.int .i64 (a0 : Nat)))])
  (kI : FRet Tryz.prog 62 [.f (.fr 1 [[.str ⟨#[97,108,108]⟩],[.str ⟨#[110,101,101,100,115]⟩],[.str ⟨#[117,115,101,114,115]⟩],[.str ⟨#[98,101,116,119,101,101,110]⟩],[.str ⟨#[107,105,110,100]⟩],[.str ⟨#[105,110]⟩]]),.f (.str w)] [.c (.v (.int .i64 (1)))])
  (kP : FRetP Tryz.prog 42 (RD t a0) [] [] (RD t a1) [])
  (kM1 : FRetP Tryz.prog 61 (RD t a1) [] [.f (.str ⟨#[40]⟩)] (RD t a2) [])
  (kS : FRetP Tryz.prog 19 (RD t a2) [] [] (RD t a5) [.agg [.v (.int .i64 (qK q)),.v (.str (qT q)),.v (.int .i64 (qN q)),.v (.fr 4 (qP q))]])
  (kT3 : FRetP Tryz.prog 28 (RD t a5) [] [.f (.str ⟨#[44]⟩)] (RD t a6) [.c (.v (.bool true))])
  (kX : FPanP Tryz.prog 63 (RD t a6) [] [.f (.fn (.func 65))] IsW) :
  FPanP Tryz.prog 41 (RD t a) [] [] IsW := by
 unfold RD at *
 replace kT := hide kT
 replace kN := hide kN
 replace kI := hide kI
 replace kP := hide kP
 replace kM1 := hide kM1
 replace kS := hide kS
 replace kT3 := hide kT3
 replace kX := hide kX
 refine PCall.of_ax low_graph_reader_one ?_
 dsimp only [l_graph_reader_one]
 refine srun_sound 300 _ _ _ _ ?_
 repeat' simp -implicitDefEqProofs only [*,addFp_wr,zr,seval]
 refine gP kT.out 100001 1 [.f (.str t),.f (.int .i64 a)] [] [.f (.str ⟨#[40]⟩)] ?_
 repeat' simp -implicitDefEqProofs only [*,addFp_wr,zr,seval]
 refine gP kN.out 100001 1 [.f (.str t),.f (.int .i64 a0)] [] [] ?_
 repeat' simp -implicitDefEqProofs only [*,addFp_wr,zr,seval]
 refine callG rfl kI.out rfl (fz_words rfl) rfl (by repeat (first|exact free_0 | exact free_mk (by simp) | refine free_upd rfl ?_ | refine free_kill ?_)) ?_
 repeat' simp -implicitDefEqProofs only [*,addFp_wr,zr,seval]
 refine gP kP.out 100001 1 [.f (.str t),.f (.int .i64 a0)] [] [] ?_
 repeat' simp -implicitDefEqProofs only [*,addFp_wr,zr,seval]
 refine gP kM1.out 100001 1 [.f (.str t),.f (.int .i64 a1)] [] [.f (.str ⟨#[40]⟩)] ?_
 repeat' simp -implicitDefEqProofs only [*,addFp_wr,zr,seval]
 refine gDq kS.out 100001 1 [.f (.str t),.f (.int .i64 a2)] [] [] ?_
 repeat' simp -implicitDefEqProofs only [*,addFp_wr,zr,seval]
 refine gP kT3.out 100001 1 [.f (.str t),.f (.int .i64 a5)] [] [.f (.str ⟨#[44]⟩)] ?_
 repeat' simp -implicitDefEqProofs only [*,addFp_wr,zr,seval]
 exact gPan kX.out 100001 1 [.f (.str t),.f (.int .i64 a6)] [] [.f (.fn (.func 65))]
set_option maxHeartbeats 8000000 in
theorem endN_p3 {t w : ByteArray} {v : Int} {a a0 a1 a2 a5 a6 : Nat} {q : QT}
  (kT : FRetP Tryz.prog 28 (RD t a) [] [.f (.str ⟨#[40]⟩)] (RD t a0) [.c (.v (.bool false))])
  (kN : FRetP Tryz.prog 20 (RD t a0) [] [] (RD t a0) [.c (.v (.str w)),.c (.v (.int .i64 (a0 : Nat)))])
  (kI : FRet Tryz.prog 62 [.f (.fr 1 [[.str ⟨#[97,108,108]⟩],[.str ⟨#[110,101,101,100,115]⟩],[.str ⟨#[117,115,101,114,115]⟩],[.str ⟨#[98,101,116,119,101,101,110]⟩],[.str ⟨#[107,105,110,100]⟩],[.str ⟨#[105,110]⟩]]),.f (.str w)] [.c (.v (.int .i64 (1)))])
  (kP : FRetP Tryz.prog 42 (RD t a0) [] [] (RD t a1) [])
  (kM1 : FRetP Tryz.prog 61 (RD t a1) [] [.f (.str ⟨#[40]⟩)] (RD t a2) [])
  (kS : FRetP Tryz.prog 19 (RD t a2) [] [] (RD t a5) [.agg [.v (.int .i64 (qK q)),.v (.str (qT q)),.v (.int .i64 (qN q)),.v (.fr 4 (qP q))]])
  (kT3 : FRetP Tryz.prog 28 (RD t a5) [] [.f (.str ⟨#[44]⟩)] (RD t a6) [.c (.v (.bool false))])
  (kX : FPanP Tryz.prog 61 (RD t a6) [] [.f (.str ⟨#[41]⟩)] IsW) :
  FPanP Tryz.prog 41 (RD t a) [] [] IsW := by
 unfold RD at *
 replace kT := hide kT
 replace kN := hide kN
 replace kI := hide kI
 replace kP := hide kP
 replace kM1 := hide kM1
 replace kS := hide kS
 replace kT3 := hide kT3
 replace kX := hide kX
 refine PCall.of_ax low_graph_reader_one ?_
 dsimp only [l_graph_reader_one]
 refine srun_sound 300 _ _ _ _ ?_
 repeat' simp -implicitDefEqProofs only [*,addFp_wr,zr,seval]
 refine gP kT.out 100001 1 [.f (.str t),.f (.int .i64 a)] [] [.f (.str ⟨#[40]⟩)] ?_
 repeat' simp -implicitDefEqProofs only [*,addFp_wr,zr,seval]
 refine gP kN.out 100001 1 [.f (.str t),.f (.int .i64 a0)] [] [] ?_
 repeat' simp -implicitDefEqProofs only [*,addFp_wr,zr,seval]
 refine callG rfl kI.out rfl (fz_words rfl) rfl (by repeat (first|exact free_0 | exact free_mk (by simp) | refine free_upd rfl ?_ | refine free_kill ?_)) ?_
 repeat' simp -implicitDefEqProofs only [*,addFp_wr,zr,seval]
 refine gP kP.out 100001 1 [.f (.str t),.f (.int .i64 a0)] [] [] ?_
 repeat' simp -implicitDefEqProofs only [*,addFp_wr,zr,seval]
 refine gP kM1.out 100001 1 [.f (.str t),.f (.int .i64 a1)] [] [.f (.str ⟨#[40]⟩)] ?_
 repeat' simp -implicitDefEqProofs only [*,addFp_wr,zr,seval]
 refine gDq kS.out 100001 1 [.f (.str t),.f (.int .i64 a2)] [] [] ?_
 repeat' simp -implicitDefEqProofs only [*,addFp_wr,zr,seval]
 refine gP kT3.out 100001 1 [.f (.str t),.f (.int .i64 a5)] [] [.f (.str ⟨#[44]⟩)] ?_
 repeat' simp -implicitDefEqProofs only [*,addFp_wr,zr,seval]
 exact gPan kX.out 100001 1 [.f (.str t),.f (.int .i64 a6)] [] [.f (.str ⟨#[41]⟩)]
set_option maxHeartbeats 8000000 in
theorem end_p3 {t w u : ByteArray} {v : Int} {a a0 a1 a2 a5 a6 a7 : Nat} {q : QT}
  (kT : FRetP Tryz.prog 28 (RD t a) [] [.f (.str ⟨#[40]⟩)] (RD t a0) [.c (.v (.bool false))])
  (kN : FRetP Tryz.prog 20 (RD t a0) [] [] (RD t a0) [.c (.v (.str w)),.c (.v (.int .i64 (a0 : Nat)))])
  (kI : FRet Tryz.prog 62 [.f (.fr 1 [[.str ⟨#[97,108,108]⟩],[.str ⟨#[110,101,101,100,115]⟩],[.str ⟨#[117,115,101,114,115]⟩],[.str ⟨#[98,101,116,119,101,101,110]⟩],[.str ⟨#[107,105,110,100]⟩],[.str ⟨#[105,110]⟩]]),.f (.str w)] [.c (.v (.int .i64 (1)))])
  (kP : FRetP Tryz.prog 42 (RD t a0) [] [] (RD t a1) [])
  (kM1 : FRetP Tryz.prog 61 (RD t a1) [] [.f (.str ⟨#[40]⟩)] (RD t a2) [])
  (kS : FRetP Tryz.prog 19 (RD t a2) [] [] (RD t a5) [.agg [.v (.int .i64 (qK q)),.v (.str (qT q)),.v (.int .i64 (qN q)),.v (.fr 4 (qP q))]])
  (kT3 : FRetP Tryz.prog 28 (RD t a5) [] [.f (.str ⟨#[44]⟩)] (RD t a6) [.c (.v (.bool true))])
  (kO : FRetP Tryz.prog 63 (RD t a6) [] [.f (.fn (.func 65))] (RD t a7) [.c (.v (.str u))])
  (kA : FRet Tryz.prog 64 [.f (.str u)] [.c (.v (.int .i64 v)),.c (.v (.lit .nilIface))])
  (kX : FPanP Tryz.prog 61 (RD t a7) [] [.f (.str ⟨#[41]⟩)] IsW) :
  FPanP Tryz.prog 41 (RD t a) [] [] IsW := by
 unfold RD at *
 replace kT := hide kT
 replace kN := hide kN
 replace kI := hide kI
 replace kP := hide kP
 replace kM1 := hide kM1
 replace kS := hide kS
 replace kT3 := hide kT3
 replace kO := hide kO
 replace kA := hide kA
 replace kX := hide kX
 refine PCall.of_ax low_graph_reader_one ?_
 dsimp only [l_graph_reader_one]
 refine srun_sound 300 _ _ _ _ ?_
 repeat' simp -implicitDefEqProofs only [*,addFp_wr,zr,seval]
 refine gP kT.out 100001 1 [.f (.str t),.f (.int .i64 a)] [] [.f (.str ⟨#[40]⟩)] ?_
 repeat' simp -implicitDefEqProofs only [*,addFp_wr,zr,seval]
 refine gP kN.out 100001 1 [.f (.str t),.f (.int .i64 a0)] [] [] ?_
 repeat' simp -implicitDefEqProofs only [*,addFp_wr,zr,seval]
 refine callG rfl kI.out rfl (fz_words rfl) rfl (by repeat (first|exact free_0 | exact free_mk (by simp) | refine free_upd rfl ?_ | refine free_kill ?_)) ?_
 repeat' simp -implicitDefEqProofs only [*,addFp_wr,zr,seval]
 refine gP kP.out 100001 1 [.f (.str t),.f (.int .i64 a0)] [] [] ?_
 repeat' simp -implicitDefEqProofs only [*,addFp_wr,zr,seval]
 refine gP kM1.out 100001 1 [.f (.str t),.f (.int .i64 a1)] [] [.f (.str ⟨#[40]⟩)] ?_
 repeat' simp -implicitDefEqProofs only [*,addFp_wr,zr,seval]
 refine gDq kS.out 100001 1 [.f (.str t),.f (.int .i64 a2)] [] [] ?_
 repeat' simp -implicitDefEqProofs only [*,addFp_wr,zr,seval]
 refine gP kT3.out 100001 1 [.f (.str t),.f (.int .i64 a5)] [] [.f (.str ⟨#[44]⟩)] ?_
 repeat' simp -implicitDefEqProofs only [*,addFp_wr,zr,seval]
 refine gP kO.out 100001 1 [.f (.str t),.f (.int .i64 a6)] [] [.f (.fn (.func 65))] ?_
 repeat' (first
  | (simp -implicitDefEqProofs only [*,addFp_wr,zr,seval])
  | ((first|apply zk0|apply zk1|apply zk2|apply zk3|apply zk4|apply zk5|apply zk6|apply zk7|apply zk8|apply zk9) <;> intro hc)
  |(refine callP0 rfl ?_)
  |(refine callD0 rfl ?_)
  |(refine cP (kA.out) ?_)
  |(refine cD (kA.out) ?_)
  |(refine cF (kA.out) ?_)
  | fail)
 exact gPan kX.out 100001 1 [.f (.str t),.f (.int .i64 a7)] [] [.f (.str ⟨#[41]⟩)]
set_option maxHeartbeats 8000000 in
theorem paren_p4 {t w : ByteArray} {v : Int} {a a0 a1 : Nat}
  (kT : FRetP Tryz.prog 28 (RD t a) [] [.f (.str ⟨#[40]⟩)] (RD t a0) [.c (.v (.bool false))])
  (kN : FRetP Tryz.prog 20 (RD t a0) [] [] (RD t a0) [.c (.v (.str w)),.c (.v (.int .i64 (a0 : Nat)))])
  (kI : FRet Tryz.prog 62 [.f (.fr 1 [[.str ⟨#[97,108,108]⟩],[.str ⟨#[110,101,101,100,115]⟩],[.str ⟨#[117,115,101,114,115]⟩],[.str ⟨#[98,101,116,119,101,101,110]⟩],[.str ⟨#[107,105,110,100]⟩],[.str ⟨#[105,110]⟩]]),.f (.str w)] [.c (.v (.int .i64 (2)))])
  (kP : FRetP Tryz.prog 42 (RD t a0) [] [] (RD t a1) [])
  (kX : FPanP Tryz.prog 61 (RD t a1) [] [.f (.str ⟨#[40]⟩)] IsW) :
  FPanP Tryz.prog 41 (RD t a) [] [] IsW := by
 unfold RD at *
 replace kT := hide kT
 replace kN := hide kN
 replace kI := hide kI
 replace kP := hide kP
 replace kX := hide kX
 refine PCall.of_ax low_graph_reader_one ?_
 dsimp only [l_graph_reader_one]
 refine srun_sound 300 _ _ _ _ ?_
 repeat' simp -implicitDefEqProofs only [*,addFp_wr,zr,seval]
 refine gP kT.out 100001 1 [.f (.str t),.f (.int .i64 a)] [] [.f (.str ⟨#[40]⟩)] ?_
 repeat' simp -implicitDefEqProofs only [*,addFp_wr,zr,seval]
 refine gP kN.out 100001 1 [.f (.str t),.f (.int .i64 a0)] [] [] ?_
 repeat' simp -implicitDefEqProofs only [*,addFp_wr,zr,seval]
 refine callG rfl kI.out rfl (fz_words rfl) rfl (by repeat (first|exact free_0 | exact free_mk (by simp) | refine free_upd rfl ?_ | refine free_kill ?_)) ?_
 repeat' simp -implicitDefEqProofs only [*,addFp_wr,zr,seval]
 refine gP kP.out 100001 1 [.f (.str t),.f (.int .i64 a0)] [] [] ?_
 repeat' simp -implicitDefEqProofs only [*,addFp_wr,zr,seval]
 exact gPan kX.out 100001 1 [.f (.str t),.f (.int .i64 a1)] [] [.f (.str ⟨#[40]⟩)]
set_option maxHeartbeats 8000000 in
theorem sum_p4 {t w : ByteArray} {v : Int} {a a0 a1 a2 : Nat}
  (kT : FRetP Tryz.prog 28 (RD t a) [] [.f (.str ⟨#[40]⟩)] (RD t a0) [.c (.v (.bool false))])
  (kN : FRetP Tryz.prog 20 (RD t a0) [] [] (RD t a0) [.c (.v (.str w)),.c (.v (.int .i64 (a0 : Nat)))])
  (kI : FRet Tryz.prog 62 [.f (.fr 1 [[.str ⟨#[97,108,108]⟩],[.str ⟨#[110,101,101,100,115]⟩],[.str ⟨#[117,115,101,114,115]⟩],[.str ⟨#[98,101,116,119,101,101,110]⟩],[.str ⟨#[107,105,110,100]⟩],[.str ⟨#[105,110]⟩]]),.f (.str w)] [.c (.v (.int .i64 (2)))])
  (kP : FRetP Tryz.prog 42 (RD t a0) [] [] (RD t a1) [])
  (kM1 : FRetP Tryz.prog 61 (RD t a1) [] [.f (.str ⟨#[40]⟩)] (RD t a2) [])
  (kX : FPanP Tryz.prog 19 (RD t a2) [] [] IsW) :
  FPanP Tryz.prog 41 (RD t a) [] [] IsW := by
 unfold RD at *
 replace kT := hide kT
 replace kN := hide kN
 replace kI := hide kI
 replace kP := hide kP
 replace kM1 := hide kM1
 replace kX := hide kX
 refine PCall.of_ax low_graph_reader_one ?_
 dsimp only [l_graph_reader_one]
 refine srun_sound 300 _ _ _ _ ?_
 repeat' simp -implicitDefEqProofs only [*,addFp_wr,zr,seval]
 refine gP kT.out 100001 1 [.f (.str t),.f (.int .i64 a)] [] [.f (.str ⟨#[40]⟩)] ?_
 repeat' simp -implicitDefEqProofs only [*,addFp_wr,zr,seval]
 refine gP kN.out 100001 1 [.f (.str t),.f (.int .i64 a0)] [] [] ?_
 repeat' simp -implicitDefEqProofs only [*,addFp_wr,zr,seval]
 refine callG rfl kI.out rfl (fz_words rfl) rfl (by repeat (first|exact free_0 | exact free_mk (by simp) | refine free_upd rfl ?_ | refine free_kill ?_)) ?_
 repeat' simp -implicitDefEqProofs only [*,addFp_wr,zr,seval]
 refine gP kP.out 100001 1 [.f (.str t),.f (.int .i64 a0)] [] [] ?_
 repeat' simp -implicitDefEqProofs only [*,addFp_wr,zr,seval]
 refine gPm (m := 23) kM1.out 100001 1 [.f (.str t),.f (.int .i64 a1)] [] [.f (.str ⟨#[40]⟩)] ?_
 repeat' simp -implicitDefEqProofs only [*,addFp_wr,zr,seval]
 refine ax_pdraw ?_
 exact ⟨rfl,.inl ⟨56,_,rfl,rfl,rfl,.inl ⟨57,_,rfl,rfl,rfl,.inl ⟨58,_,rfl,rfl,rfl,.inr ⟨_,_,_,rfl,rfl,panRd kX.out rfl,rfl⟩⟩⟩⟩⟩
set_option maxHeartbeats 8000000 in
theorem num_p4 {t w : ByteArray} {v : Int} {a a0 a1 a2 a5 a6 : Nat} {q : QT}
  (kT : FRetP Tryz.prog 28 (RD t a) [] [.f (.str ⟨#[40]⟩)] (RD t a0) [.c (.v (.bool false))])
  (kN : FRetP Tryz.prog 20 (RD t a0) [] [] (RD t a0) [.c (.v (.str w)),.c (.v (.int .i64 (a0 : Nat)))])
  (kI : FRet Tryz.prog 62 [.f (.fr 1 [[.str ⟨#[97,108,108]⟩],[.str ⟨#[110,101,101,100,115]⟩],[.str ⟨#[117,115,101,114,115]⟩],[.str ⟨#[98,101,116,119,101,101,110]⟩],[.str ⟨#[107,105,110,100]⟩],[.str ⟨#[105,110]⟩]]),.f (.str w)] [.c (.v (.int .i64 (2)))])
  (kP : FRetP Tryz.prog 42 (RD t a0) [] [] (RD t a1) [])
  (kM1 : FRetP Tryz.prog 61 (RD t a1) [] [.f (.str ⟨#[40]⟩)] (RD t a2) [])
  (kS : FRetP Tryz.prog 19 (RD t a2) [] [] (RD t a5) [.agg [.v (.int .i64 (qK q)),.v (.str (qT q)),.v (.int .i64 (qN q)),.v (.fr 4 (qP q))]])
  (kT3 : FRetP Tryz.prog 28 (RD t a5) [] [.f (.str ⟨#[44]⟩)] (RD t a6) [.c (.v (.bool true))])
  (kX : FPanP Tryz.prog 63 (RD t a6) [] [.f (.fn (.func 65))] IsW) :
  FPanP Tryz.prog 41 (RD t a) [] [] IsW := by
 unfold RD at *
 replace kT := hide kT
 replace kN := hide kN
 replace kI := hide kI
 replace kP := hide kP
 replace kM1 := hide kM1
 replace kS := hide kS
 replace kT3 := hide kT3
 replace kX := hide kX
 refine PCall.of_ax low_graph_reader_one ?_
 dsimp only [l_graph_reader_one]
 refine srun_sound 300 _ _ _ _ ?_
 repeat' simp -implicitDefEqProofs only [*,addFp_wr,zr,seval]
 refine gP kT.out 100001 1 [.f (.str t),.f (.int .i64 a)] [] [.f (.str ⟨#[40]⟩)] ?_
 repeat' simp -implicitDefEqProofs only [*,addFp_wr,zr,seval]
 refine gP kN.out 100001 1 [.f (.str t),.f (.int .i64 a0)] [] [] ?_
 repeat' simp -implicitDefEqProofs only [*,addFp_wr,zr,seval]
 refine callG rfl kI.out rfl (fz_words rfl) rfl (by repeat (first|exact free_0 | exact free_mk (by simp) | refine free_upd rfl ?_ | refine free_kill ?_)) ?_
 repeat' simp -implicitDefEqProofs only [*,addFp_wr,zr,seval]
 refine gP kP.out 100001 1 [.f (.str t),.f (.int .i64 a0)] [] [] ?_
 repeat' simp -implicitDefEqProofs only [*,addFp_wr,zr,seval]
 refine gP kM1.out 100001 1 [.f (.str t),.f (.int .i64 a1)] [] [.f (.str ⟨#[40]⟩)] ?_
 repeat' simp -implicitDefEqProofs only [*,addFp_wr,zr,seval]
 refine gDq kS.out 100001 1 [.f (.str t),.f (.int .i64 a2)] [] [] ?_
 repeat' simp -implicitDefEqProofs only [*,addFp_wr,zr,seval]
 refine gP kT3.out 100001 1 [.f (.str t),.f (.int .i64 a5)] [] [.f (.str ⟨#[44]⟩)] ?_
 repeat' simp -implicitDefEqProofs only [*,addFp_wr,zr,seval]
 exact gPan kX.out 100001 1 [.f (.str t),.f (.int .i64 a6)] [] [.f (.fn (.func 65))]
set_option maxHeartbeats 8000000 in
theorem endN_p4 {t w : ByteArray} {v : Int} {a a0 a1 a2 a5 a6 : Nat} {q : QT}
  (kT : FRetP Tryz.prog 28 (RD t a) [] [.f (.str ⟨#[40]⟩)] (RD t a0) [.c (.v (.bool false))])
  (kN : FRetP Tryz.prog 20 (RD t a0) [] [] (RD t a0) [.c (.v (.str w)),.c (.v (.int .i64 (a0 : Nat)))])
  (kI : FRet Tryz.prog 62 [.f (.fr 1 [[.str ⟨#[97,108,108]⟩],[.str ⟨#[110,101,101,100,115]⟩],[.str ⟨#[117,115,101,114,115]⟩],[.str ⟨#[98,101,116,119,101,101,110]⟩],[.str ⟨#[107,105,110,100]⟩],[.str ⟨#[105,110]⟩]]),.f (.str w)] [.c (.v (.int .i64 (2)))])
  (kP : FRetP Tryz.prog 42 (RD t a0) [] [] (RD t a1) [])
  (kM1 : FRetP Tryz.prog 61 (RD t a1) [] [.f (.str ⟨#[40]⟩)] (RD t a2) [])
  (kS : FRetP Tryz.prog 19 (RD t a2) [] [] (RD t a5) [.agg [.v (.int .i64 (qK q)),.v (.str (qT q)),.v (.int .i64 (qN q)),.v (.fr 4 (qP q))]])
  (kT3 : FRetP Tryz.prog 28 (RD t a5) [] [.f (.str ⟨#[44]⟩)] (RD t a6) [.c (.v (.bool false))])
  (kX : FPanP Tryz.prog 61 (RD t a6) [] [.f (.str ⟨#[41]⟩)] IsW) :
  FPanP Tryz.prog 41 (RD t a) [] [] IsW := by
 unfold RD at *
 replace kT := hide kT
 replace kN := hide kN
 replace kI := hide kI
 replace kP := hide kP
 replace kM1 := hide kM1
 replace kS := hide kS
 replace kT3 := hide kT3
 replace kX := hide kX
 refine PCall.of_ax low_graph_reader_one ?_
 dsimp only [l_graph_reader_one]
 refine srun_sound 300 _ _ _ _ ?_
 repeat' simp -implicitDefEqProofs only [*,addFp_wr,zr,seval]
 refine gP kT.out 100001 1 [.f (.str t),.f (.int .i64 a)] [] [.f (.str ⟨#[40]⟩)] ?_
 repeat' simp -implicitDefEqProofs only [*,addFp_wr,zr,seval]
 refine gP kN.out 100001 1 [.f (.str t),.f (.int .i64 a0)] [] [] ?_
 repeat' simp -implicitDefEqProofs only [*,addFp_wr,zr,seval]
 refine callG rfl kI.out rfl (fz_words rfl) rfl (by repeat (first|exact free_0 | exact free_mk (by simp) | refine free_upd rfl ?_ | refine free_kill ?_)) ?_
 repeat' simp -implicitDefEqProofs only [*,addFp_wr,zr,seval]
 refine gP kP.out 100001 1 [.f (.str t),.f (.int .i64 a0)] [] [] ?_
 repeat' simp -implicitDefEqProofs only [*,addFp_wr,zr,seval]
 refine gP kM1.out 100001 1 [.f (.str t),.f (.int .i64 a1)] [] [.f (.str ⟨#[40]⟩)] ?_
 repeat' simp -implicitDefEqProofs only [*,addFp_wr,zr,seval]
 refine gDq kS.out 100001 1 [.f (.str t),.f (.int .i64 a2)] [] [] ?_
 repeat' simp -implicitDefEqProofs only [*,addFp_wr,zr,seval]
 refine gP kT3.out 100001 1 [.f (.str t),.f (.int .i64 a5)] [] [.f (.str ⟨#[44]⟩)] ?_
 repeat' simp -implicitDefEqProofs only [*,addFp_wr,zr,seval]
 exact gPan kX.out 100001 1 [.f (.str t),.f (.int .i64 a6)] [] [.f (.str ⟨#[41]⟩)]
set_option maxHeartbeats 8000000 in
theorem end_p4 {t w u : ByteArray} {v : Int} {a a0 a1 a2 a5 a6 a7 : Nat} {q : QT}
  (kT : FRetP Tryz.prog 28 (RD t a) [] [.f (.str ⟨#[40]⟩)] (RD t a0) [.c (.v (.bool false))])
  (kN : FRetP Tryz.prog 20 (RD t a0) [] [] (RD t a0) [.c (.v (.str w)),.c (.v (.int .i64 (a0 : Nat)))])
  (kI : FRet Tryz.prog 62 [.f (.fr 1 [[.str ⟨#[97,108,108]⟩],[.str ⟨#[110,101,101,100,115]⟩],[.str ⟨#[117,115,101,114,115]⟩],[.str ⟨#[98,101,116,119,101,101,110]⟩],[.str ⟨#[107,105,110,100]⟩],[.str ⟨#[105,110]⟩]]),.f (.str w)] [.c (.v (.int .i64 (2)))])
  (kP : FRetP Tryz.prog 42 (RD t a0) [] [] (RD t a1) [])
  (kM1 : FRetP Tryz.prog 61 (RD t a1) [] [.f (.str ⟨#[40]⟩)] (RD t a2) [])
  (kS : FRetP Tryz.prog 19 (RD t a2) [] [] (RD t a5) [.agg [.v (.int .i64 (qK q)),.v (.str (qT q)),.v (.int .i64 (qN q)),.v (.fr 4 (qP q))]])
  (kT3 : FRetP Tryz.prog 28 (RD t a5) [] [.f (.str ⟨#[44]⟩)] (RD t a6) [.c (.v (.bool true))])
  (kO : FRetP Tryz.prog 63 (RD t a6) [] [.f (.fn (.func 65))] (RD t a7) [.c (.v (.str u))])
  (kA : FRet Tryz.prog 64 [.f (.str u)] [.c (.v (.int .i64 v)),.c (.v (.lit .nilIface))])
  (kX : FPanP Tryz.prog 61 (RD t a7) [] [.f (.str ⟨#[41]⟩)] IsW) :
  FPanP Tryz.prog 41 (RD t a) [] [] IsW := by
 unfold RD at *
 replace kT := hide kT
 replace kN := hide kN
 replace kI := hide kI
 replace kP := hide kP
 replace kM1 := hide kM1
 replace kS := hide kS
 replace kT3 := hide kT3
 replace kO := hide kO
 replace kA := hide kA
 replace kX := hide kX
 refine PCall.of_ax low_graph_reader_one ?_
 dsimp only [l_graph_reader_one]
 refine srun_sound 300 _ _ _ _ ?_
 repeat' simp -implicitDefEqProofs only [*,addFp_wr,zr,seval]
 refine gP kT.out 100001 1 [.f (.str t),.f (.int .i64 a)] [] [.f (.str ⟨#[40]⟩)] ?_
 repeat' simp -implicitDefEqProofs only [*,addFp_wr,zr,seval]
 refine gP kN.out 100001 1 [.f (.str t),.f (.int .i64 a0)] [] [] ?_
 repeat' simp -implicitDefEqProofs only [*,addFp_wr,zr,seval]
 refine callG rfl kI.out rfl (fz_words rfl) rfl (by repeat (first|exact free_0 | exact free_mk (by simp) | refine free_upd rfl ?_ | refine free_kill ?_)) ?_
 repeat' simp -implicitDefEqProofs only [*,addFp_wr,zr,seval]
 refine gP kP.out 100001 1 [.f (.str t),.f (.int .i64 a0)] [] [] ?_
 repeat' simp -implicitDefEqProofs only [*,addFp_wr,zr,seval]
 refine gP kM1.out 100001 1 [.f (.str t),.f (.int .i64 a1)] [] [.f (.str ⟨#[40]⟩)] ?_
 repeat' simp -implicitDefEqProofs only [*,addFp_wr,zr,seval]
 refine gDq kS.out 100001 1 [.f (.str t),.f (.int .i64 a2)] [] [] ?_
 repeat' simp -implicitDefEqProofs only [*,addFp_wr,zr,seval]
 refine gP kT3.out 100001 1 [.f (.str t),.f (.int .i64 a5)] [] [.f (.str ⟨#[44]⟩)] ?_
 repeat' simp -implicitDefEqProofs only [*,addFp_wr,zr,seval]
 refine gP kO.out 100001 1 [.f (.str t),.f (.int .i64 a6)] [] [.f (.fn (.func 65))] ?_
 repeat' (first
  | (simp -implicitDefEqProofs only [*,addFp_wr,zr,seval])
  | ((first|apply zk0|apply zk1|apply zk2|apply zk3|apply zk4|apply zk5|apply zk6|apply zk7|apply zk8|apply zk9) <;> intro hc)
  |(refine callP0 rfl ?_)
  |(refine callD0 rfl ?_)
  |(refine cP (kA.out) ?_)
  |(refine cD (kA.out) ?_)
  |(refine cF (kA.out) ?_)
  | fail)
 exact gPan kX.out 100001 1 [.f (.str t),.f (.int .i64 a7)] [] [.f (.str ⟨#[41]⟩)]
set_option maxHeartbeats 8000000 in
theorem paren_p5 {t w : ByteArray} {v : Int} {a a0 a1 : Nat}
  (kT : FRetP Tryz.prog 28 (RD t a) [] [.f (.str ⟨#[40]⟩)] (RD t a0) [.c (.v (.bool false))])
  (kN : FRetP Tryz.prog 20 (RD t a0) [] [] (RD t a0) [.c (.v (.str w)),.c (.v (.int .i64 (a0 : Nat)))])
  (kI : FRet Tryz.prog 62 [.f (.fr 1 [[.str ⟨#[97,108,108]⟩],[.str ⟨#[110,101,101,100,115]⟩],[.str ⟨#[117,115,101,114,115]⟩],[.str ⟨#[98,101,116,119,101,101,110]⟩],[.str ⟨#[107,105,110,100]⟩],[.str ⟨#[105,110]⟩]]),.f (.str w)] [.c (.v (.int .i64 (3)))])
  (kP : FRetP Tryz.prog 42 (RD t a0) [] [] (RD t a1) [])
  (kX : FPanP Tryz.prog 61 (RD t a1) [] [.f (.str ⟨#[40]⟩)] IsW) :
  FPanP Tryz.prog 41 (RD t a) [] [] IsW := by
 unfold RD at *
 replace kT := hide kT
 replace kN := hide kN
 replace kI := hide kI
 replace kP := hide kP
 replace kX := hide kX
 refine PCall.of_ax low_graph_reader_one ?_
 dsimp only [l_graph_reader_one]
 refine srun_sound 300 _ _ _ _ ?_
 repeat' simp -implicitDefEqProofs only [*,addFp_wr,zr,seval]
 refine gP kT.out 100001 1 [.f (.str t),.f (.int .i64 a)] [] [.f (.str ⟨#[40]⟩)] ?_
 repeat' simp -implicitDefEqProofs only [*,addFp_wr,zr,seval]
 refine gP kN.out 100001 1 [.f (.str t),.f (.int .i64 a0)] [] [] ?_
 repeat' simp -implicitDefEqProofs only [*,addFp_wr,zr,seval]
 refine callG rfl kI.out rfl (fz_words rfl) rfl (by repeat (first|exact free_0 | exact free_mk (by simp) | refine free_upd rfl ?_ | refine free_kill ?_)) ?_
 repeat' simp -implicitDefEqProofs only [*,addFp_wr,zr,seval]
 refine gP kP.out 100001 1 [.f (.str t),.f (.int .i64 a0)] [] [] ?_
 repeat' simp -implicitDefEqProofs only [*,addFp_wr,zr,seval]
 exact gPan kX.out 100001 1 [.f (.str t),.f (.int .i64 a1)] [] [.f (.str ⟨#[40]⟩)]
set_option maxHeartbeats 8000000 in
theorem sum_p5 {t w : ByteArray} {v : Int} {a a0 a1 a2 : Nat}
  (kT : FRetP Tryz.prog 28 (RD t a) [] [.f (.str ⟨#[40]⟩)] (RD t a0) [.c (.v (.bool false))])
  (kN : FRetP Tryz.prog 20 (RD t a0) [] [] (RD t a0) [.c (.v (.str w)),.c (.v (.int .i64 (a0 : Nat)))])
  (kI : FRet Tryz.prog 62 [.f (.fr 1 [[.str ⟨#[97,108,108]⟩],[.str ⟨#[110,101,101,100,115]⟩],[.str ⟨#[117,115,101,114,115]⟩],[.str ⟨#[98,101,116,119,101,101,110]⟩],[.str ⟨#[107,105,110,100]⟩],[.str ⟨#[105,110]⟩]]),.f (.str w)] [.c (.v (.int .i64 (3)))])
  (kP : FRetP Tryz.prog 42 (RD t a0) [] [] (RD t a1) [])
  (kM1 : FRetP Tryz.prog 61 (RD t a1) [] [.f (.str ⟨#[40]⟩)] (RD t a2) [])
  (kX : FPanP Tryz.prog 19 (RD t a2) [] [] IsW) :
  FPanP Tryz.prog 41 (RD t a) [] [] IsW := by
 unfold RD at *
 replace kT := hide kT
 replace kN := hide kN
 replace kI := hide kI
 replace kP := hide kP
 replace kM1 := hide kM1
 replace kX := hide kX
 refine PCall.of_ax low_graph_reader_one ?_
 dsimp only [l_graph_reader_one]
 refine srun_sound 300 _ _ _ _ ?_
 repeat' simp -implicitDefEqProofs only [*,addFp_wr,zr,seval]
 refine gP kT.out 100001 1 [.f (.str t),.f (.int .i64 a)] [] [.f (.str ⟨#[40]⟩)] ?_
 repeat' simp -implicitDefEqProofs only [*,addFp_wr,zr,seval]
 refine gP kN.out 100001 1 [.f (.str t),.f (.int .i64 a0)] [] [] ?_
 repeat' simp -implicitDefEqProofs only [*,addFp_wr,zr,seval]
 refine callG rfl kI.out rfl (fz_words rfl) rfl (by repeat (first|exact free_0 | exact free_mk (by simp) | refine free_upd rfl ?_ | refine free_kill ?_)) ?_
 repeat' simp -implicitDefEqProofs only [*,addFp_wr,zr,seval]
 refine gP kP.out 100001 1 [.f (.str t),.f (.int .i64 a0)] [] [] ?_
 repeat' simp -implicitDefEqProofs only [*,addFp_wr,zr,seval]
 refine gPm (m := 23) kM1.out 100001 1 [.f (.str t),.f (.int .i64 a1)] [] [.f (.str ⟨#[40]⟩)] ?_
 repeat' simp -implicitDefEqProofs only [*,addFp_wr,zr,seval]
 refine ax_pdraw ?_
 exact ⟨rfl,.inl ⟨56,_,rfl,rfl,rfl,.inl ⟨57,_,rfl,rfl,rfl,.inl ⟨58,_,rfl,rfl,rfl,.inr ⟨_,_,_,rfl,rfl,panRd kX.out rfl,rfl⟩⟩⟩⟩⟩
set_option maxHeartbeats 8000000 in
theorem bcomma_p {t w : ByteArray} {v : Int} {a a0 a1 a2 a5 : Nat} {q : QT}
  (kT : FRetP Tryz.prog 28 (RD t a) [] [.f (.str ⟨#[40]⟩)] (RD t a0) [.c (.v (.bool false))])
  (kN : FRetP Tryz.prog 20 (RD t a0) [] [] (RD t a0) [.c (.v (.str w)),.c (.v (.int .i64 (a0 : Nat)))])
  (kI : FRet Tryz.prog 62 [.f (.fr 1 [[.str ⟨#[97,108,108]⟩],[.str ⟨#[110,101,101,100,115]⟩],[.str ⟨#[117,115,101,114,115]⟩],[.str ⟨#[98,101,116,119,101,101,110]⟩],[.str ⟨#[107,105,110,100]⟩],[.str ⟨#[105,110]⟩]]),.f (.str w)] [.c (.v (.int .i64 (3)))])
  (kP : FRetP Tryz.prog 42 (RD t a0) [] [] (RD t a1) [])
  (kM1 : FRetP Tryz.prog 61 (RD t a1) [] [.f (.str ⟨#[40]⟩)] (RD t a2) [])
  (kS : FRetP Tryz.prog 19 (RD t a2) [] [] (RD t a5) [.agg [.v (.int .i64 (qK q)),.v (.str (qT q)),.v (.int .i64 (qN q)),.v (.fr 4 (qP q))]])
  (kX : FPanP Tryz.prog 61 (RD t a5) [] [.f (.str ⟨#[44]⟩)] IsW) :
  FPanP Tryz.prog 41 (RD t a) [] [] IsW := by
 unfold RD at *
 replace kT := hide kT
 replace kN := hide kN
 replace kI := hide kI
 replace kP := hide kP
 replace kM1 := hide kM1
 replace kS := hide kS
 replace kX := hide kX
 refine PCall.of_ax low_graph_reader_one ?_
 dsimp only [l_graph_reader_one]
 refine srun_sound 300 _ _ _ _ ?_
 repeat' simp -implicitDefEqProofs only [*,addFp_wr,zr,seval]
 refine gP kT.out 100001 1 [.f (.str t),.f (.int .i64 a)] [] [.f (.str ⟨#[40]⟩)] ?_
 repeat' simp -implicitDefEqProofs only [*,addFp_wr,zr,seval]
 refine gP kN.out 100001 1 [.f (.str t),.f (.int .i64 a0)] [] [] ?_
 repeat' simp -implicitDefEqProofs only [*,addFp_wr,zr,seval]
 refine callG rfl kI.out rfl (fz_words rfl) rfl (by repeat (first|exact free_0 | exact free_mk (by simp) | refine free_upd rfl ?_ | refine free_kill ?_)) ?_
 repeat' simp -implicitDefEqProofs only [*,addFp_wr,zr,seval]
 refine gP kP.out 100001 1 [.f (.str t),.f (.int .i64 a0)] [] [] ?_
 repeat' simp -implicitDefEqProofs only [*,addFp_wr,zr,seval]
 refine gP kM1.out 100001 1 [.f (.str t),.f (.int .i64 a1)] [] [.f (.str ⟨#[40]⟩)] ?_
 repeat' simp -implicitDefEqProofs only [*,addFp_wr,zr,seval]
 refine gDq kS.out 100001 1 [.f (.str t),.f (.int .i64 a2)] [] [] ?_
 repeat' simp -implicitDefEqProofs only [*,addFp_wr,zr,seval]
 exact gPan kX.out 100001 1 [.f (.str t),.f (.int .i64 a5)] [] [.f (.str ⟨#[44]⟩)]
set_option maxHeartbeats 8000000 in
theorem bsum_p {t w : ByteArray} {v : Int} {a a0 a1 a2 a5 a6 : Nat} {q : QT}
  (kT : FRetP Tryz.prog 28 (RD t a) [] [.f (.str ⟨#[40]⟩)] (RD t a0) [.c (.v (.bool false))])
  (kN : FRetP Tryz.prog 20 (RD t a0) [] [] (RD t a0) [.c (.v (.str w)),.c (.v (.int .i64 (a0 : Nat)))])
  (kI : FRet Tryz.prog 62 [.f (.fr 1 [[.str ⟨#[97,108,108]⟩],[.str ⟨#[110,101,101,100,115]⟩],[.str ⟨#[117,115,101,114,115]⟩],[.str ⟨#[98,101,116,119,101,101,110]⟩],[.str ⟨#[107,105,110,100]⟩],[.str ⟨#[105,110]⟩]]),.f (.str w)] [.c (.v (.int .i64 (3)))])
  (kP : FRetP Tryz.prog 42 (RD t a0) [] [] (RD t a1) [])
  (kM1 : FRetP Tryz.prog 61 (RD t a1) [] [.f (.str ⟨#[40]⟩)] (RD t a2) [])
  (kS : FRetP Tryz.prog 19 (RD t a2) [] [] (RD t a5) [.agg [.v (.int .i64 (qK q)),.v (.str (qT q)),.v (.int .i64 (qN q)),.v (.fr 4 (qP q))]])
  (kM3 : FRetP Tryz.prog 61 (RD t a5) [] [.f (.str ⟨#[44]⟩)] (RD t a6) [])
  (kX : FPanP Tryz.prog 19 (RD t a6) [] [] IsW) :
  FPanP Tryz.prog 41 (RD t a) [] [] IsW := by
 unfold RD at *
 replace kT := hide kT
 replace kN := hide kN
 replace kI := hide kI
 replace kP := hide kP
 replace kM1 := hide kM1
 replace kS := hide kS
 replace kM3 := hide kM3
 replace kX := hide kX
 refine PCall.of_ax low_graph_reader_one ?_
 dsimp only [l_graph_reader_one]
 refine srun_sound 300 _ _ _ _ ?_
 repeat' simp -implicitDefEqProofs only [*,addFp_wr,zr,seval]
 refine gP kT.out 100001 1 [.f (.str t),.f (.int .i64 a)] [] [.f (.str ⟨#[40]⟩)] ?_
 repeat' simp -implicitDefEqProofs only [*,addFp_wr,zr,seval]
 refine gP kN.out 100001 1 [.f (.str t),.f (.int .i64 a0)] [] [] ?_
 repeat' simp -implicitDefEqProofs only [*,addFp_wr,zr,seval]
 refine callG rfl kI.out rfl (fz_words rfl) rfl (by repeat (first|exact free_0 | exact free_mk (by simp) | refine free_upd rfl ?_ | refine free_kill ?_)) ?_
 repeat' simp -implicitDefEqProofs only [*,addFp_wr,zr,seval]
 refine gP kP.out 100001 1 [.f (.str t),.f (.int .i64 a0)] [] [] ?_
 repeat' simp -implicitDefEqProofs only [*,addFp_wr,zr,seval]
 refine gP kM1.out 100001 1 [.f (.str t),.f (.int .i64 a1)] [] [.f (.str ⟨#[40]⟩)] ?_
 repeat' simp -implicitDefEqProofs only [*,addFp_wr,zr,seval]
 refine gDq kS.out 100001 1 [.f (.str t),.f (.int .i64 a2)] [] [] ?_
 repeat' simp -implicitDefEqProofs only [*,addFp_wr,zr,seval]
 refine gPm (m := 1) kM3.out 100001 1 [.f (.str t),.f (.int .i64 a5)] [] [.f (.str ⟨#[44]⟩)] ?_
 repeat' simp -implicitDefEqProofs only [*,addFp_wr,zr,seval]
 refine ax_pdraw ?_
 exact ⟨rfl,.inl ⟨69,_,rfl,rfl,rfl,.inl ⟨70,_,rfl,rfl,rfl,.inl ⟨71,_,rfl,rfl,rfl,.inr ⟨_,_,_,rfl,rfl,panRd kX.out rfl,rfl⟩⟩⟩⟩⟩
set_option maxHeartbeats 8000000 in
theorem end_p5 {t w : ByteArray} {v : Int} {a a0 a1 a2 a5 a6 a7 : Nat} {q q2 : QT}
  (kT : FRetP Tryz.prog 28 (RD t a) [] [.f (.str ⟨#[40]⟩)] (RD t a0) [.c (.v (.bool false))])
  (kN : FRetP Tryz.prog 20 (RD t a0) [] [] (RD t a0) [.c (.v (.str w)),.c (.v (.int .i64 (a0 : Nat)))])
  (kI : FRet Tryz.prog 62 [.f (.fr 1 [[.str ⟨#[97,108,108]⟩],[.str ⟨#[110,101,101,100,115]⟩],[.str ⟨#[117,115,101,114,115]⟩],[.str ⟨#[98,101,116,119,101,101,110]⟩],[.str ⟨#[107,105,110,100]⟩],[.str ⟨#[105,110]⟩]]),.f (.str w)] [.c (.v (.int .i64 (3)))])
  (kP : FRetP Tryz.prog 42 (RD t a0) [] [] (RD t a1) [])
  (kM1 : FRetP Tryz.prog 61 (RD t a1) [] [.f (.str ⟨#[40]⟩)] (RD t a2) [])
  (kS : FRetP Tryz.prog 19 (RD t a2) [] [] (RD t a5) [.agg [.v (.int .i64 (qK q)),.v (.str (qT q)),.v (.int .i64 (qN q)),.v (.fr 4 (qP q))]])
  (kM3 : FRetP Tryz.prog 61 (RD t a5) [] [.f (.str ⟨#[44]⟩)] (RD t a6) [])
  (kS2 : FRetP Tryz.prog 19 (RD t a6) [] [] (RD t a7) [.agg [.v (.int .i64 (qK q2)),.v (.str (qT q2)),.v (.int .i64 (qN q2)),.v (.fr 4 (qP q2))]])
  (kX : FPanP Tryz.prog 61 (RD t a7) [] [.f (.str ⟨#[41]⟩)] IsW) :
  FPanP Tryz.prog 41 (RD t a) [] [] IsW := by
 unfold RD at *
 replace kT := hide kT
 replace kN := hide kN
 replace kI := hide kI
 replace kP := hide kP
 replace kM1 := hide kM1
 replace kS := hide kS
 replace kM3 := hide kM3
 replace kS2 := hide kS2
 replace kX := hide kX
 refine PCall.of_ax low_graph_reader_one ?_
 dsimp only [l_graph_reader_one]
 refine srun_sound 300 _ _ _ _ ?_
 repeat' simp -implicitDefEqProofs only [*,addFp_wr,zr,seval]
 refine gP kT.out 100001 1 [.f (.str t),.f (.int .i64 a)] [] [.f (.str ⟨#[40]⟩)] ?_
 repeat' simp -implicitDefEqProofs only [*,addFp_wr,zr,seval]
 refine gP kN.out 100001 1 [.f (.str t),.f (.int .i64 a0)] [] [] ?_
 repeat' simp -implicitDefEqProofs only [*,addFp_wr,zr,seval]
 refine callG rfl kI.out rfl (fz_words rfl) rfl (by repeat (first|exact free_0 | exact free_mk (by simp) | refine free_upd rfl ?_ | refine free_kill ?_)) ?_
 repeat' simp -implicitDefEqProofs only [*,addFp_wr,zr,seval]
 refine gP kP.out 100001 1 [.f (.str t),.f (.int .i64 a0)] [] [] ?_
 repeat' simp -implicitDefEqProofs only [*,addFp_wr,zr,seval]
 refine gP kM1.out 100001 1 [.f (.str t),.f (.int .i64 a1)] [] [.f (.str ⟨#[40]⟩)] ?_
 repeat' simp -implicitDefEqProofs only [*,addFp_wr,zr,seval]
 refine gDq kS.out 100001 1 [.f (.str t),.f (.int .i64 a2)] [] [] ?_
 repeat' simp -implicitDefEqProofs only [*,addFp_wr,zr,seval]
 refine gP kM3.out 100001 1 [.f (.str t),.f (.int .i64 a5)] [] [.f (.str ⟨#[44]⟩)] ?_
 repeat' simp -implicitDefEqProofs only [*,addFp_wr,zr,seval]
 refine gDq kS2.out 100001 1 [.f (.str t),.f (.int .i64 a6)] [] [] ?_
 repeat' simp -implicitDefEqProofs only [*,addFp_wr,zr,seval]
 exact gPan kX.out 100001 1 [.f (.str t),.f (.int .i64 a7)] [] [.f (.str ⟨#[41]⟩)]
set_option maxHeartbeats 8000000 in
theorem paren_p6 {t w : ByteArray} {v : Int} {a a0 a1 : Nat}
  (kT : FRetP Tryz.prog 28 (RD t a) [] [.f (.str ⟨#[40]⟩)] (RD t a0) [.c (.v (.bool false))])
  (kN : FRetP Tryz.prog 20 (RD t a0) [] [] (RD t a0) [.c (.v (.str w)),.c (.v (.int .i64 (a0 : Nat)))])
  (kI : FRet Tryz.prog 62 [.f (.fr 1 [[.str ⟨#[97,108,108]⟩],[.str ⟨#[110,101,101,100,115]⟩],[.str ⟨#[117,115,101,114,115]⟩],[.str ⟨#[98,101,116,119,101,101,110]⟩],[.str ⟨#[107,105,110,100]⟩],[.str ⟨#[105,110]⟩]]),.f (.str w)] [.c (.v (.int .i64 (4)))])
  (kP : FRetP Tryz.prog 42 (RD t a0) [] [] (RD t a1) [])
  (kX : FPanP Tryz.prog 61 (RD t a1) [] [.f (.str ⟨#[40]⟩)] IsW) :
  FPanP Tryz.prog 41 (RD t a) [] [] IsW := by
 unfold RD at *
 replace kT := hide kT
 replace kN := hide kN
 replace kI := hide kI
 replace kP := hide kP
 replace kX := hide kX
 refine PCall.of_ax low_graph_reader_one ?_
 dsimp only [l_graph_reader_one]
 refine srun_sound 300 _ _ _ _ ?_
 repeat' simp -implicitDefEqProofs only [*,addFp_wr,zr,seval]
 refine gP kT.out 100001 1 [.f (.str t),.f (.int .i64 a)] [] [.f (.str ⟨#[40]⟩)] ?_
 repeat' simp -implicitDefEqProofs only [*,addFp_wr,zr,seval]
 refine gP kN.out 100001 1 [.f (.str t),.f (.int .i64 a0)] [] [] ?_
 repeat' simp -implicitDefEqProofs only [*,addFp_wr,zr,seval]
 refine callG rfl kI.out rfl (fz_words rfl) rfl (by repeat (first|exact free_0 | exact free_mk (by simp) | refine free_upd rfl ?_ | refine free_kill ?_)) ?_
 repeat' simp -implicitDefEqProofs only [*,addFp_wr,zr,seval]
 refine gP kP.out 100001 1 [.f (.str t),.f (.int .i64 a0)] [] [] ?_
 repeat' simp -implicitDefEqProofs only [*,addFp_wr,zr,seval]
 exact gPan kX.out 100001 1 [.f (.str t),.f (.int .i64 a1)] [] [.f (.str ⟨#[40]⟩)]
set_option maxHeartbeats 8000000 in
theorem hname_p6 {t w : ByteArray} {v : Int} {a a0 a1 a2 : Nat}
  (kT : FRetP Tryz.prog 28 (RD t a) [] [.f (.str ⟨#[40]⟩)] (RD t a0) [.c (.v (.bool false))])
  (kN : FRetP Tryz.prog 20 (RD t a0) [] [] (RD t a0) [.c (.v (.str w)),.c (.v (.int .i64 (a0 : Nat)))])
  (kI : FRet Tryz.prog 62 [.f (.fr 1 [[.str ⟨#[97,108,108]⟩],[.str ⟨#[110,101,101,100,115]⟩],[.str ⟨#[117,115,101,114,115]⟩],[.str ⟨#[98,101,116,119,101,101,110]⟩],[.str ⟨#[107,105,110,100]⟩],[.str ⟨#[105,110]⟩]]),.f (.str w)] [.c (.v (.int .i64 (4)))])
  (kP : FRetP Tryz.prog 42 (RD t a0) [] [] (RD t a1) [])
  (kM1 : FRetP Tryz.prog 61 (RD t a1) [] [.f (.str ⟨#[40]⟩)] (RD t a2) [])
  (kX : FPanP Tryz.prog 63 (RD t a2) [] [.f (.fn (.func 38))] IsW) :
  FPanP Tryz.prog 41 (RD t a) [] [] IsW := by
 unfold RD at *
 replace kT := hide kT
 replace kN := hide kN
 replace kI := hide kI
 replace kP := hide kP
 replace kM1 := hide kM1
 replace kX := hide kX
 refine PCall.of_ax low_graph_reader_one ?_
 dsimp only [l_graph_reader_one]
 refine srun_sound 300 _ _ _ _ ?_
 repeat' simp -implicitDefEqProofs only [*,addFp_wr,zr,seval]
 refine gP kT.out 100001 1 [.f (.str t),.f (.int .i64 a)] [] [.f (.str ⟨#[40]⟩)] ?_
 repeat' simp -implicitDefEqProofs only [*,addFp_wr,zr,seval]
 refine gP kN.out 100001 1 [.f (.str t),.f (.int .i64 a0)] [] [] ?_
 repeat' simp -implicitDefEqProofs only [*,addFp_wr,zr,seval]
 refine callG rfl kI.out rfl (fz_words rfl) rfl (by repeat (first|exact free_0 | exact free_mk (by simp) | refine free_upd rfl ?_ | refine free_kill ?_)) ?_
 repeat' simp -implicitDefEqProofs only [*,addFp_wr,zr,seval]
 refine gP kP.out 100001 1 [.f (.str t),.f (.int .i64 a0)] [] [] ?_
 repeat' simp -implicitDefEqProofs only [*,addFp_wr,zr,seval]
 refine gP kM1.out 100001 1 [.f (.str t),.f (.int .i64 a1)] [] [.f (.str ⟨#[40]⟩)] ?_
 repeat' simp -implicitDefEqProofs only [*,addFp_wr,zr,seval]
 exact gPan kX.out 100001 1 [.f (.str t),.f (.int .i64 a2)] [] [.f (.fn (.func 38))]
set_option maxHeartbeats 8000000 in
theorem hcomma_p6 {t w u : ByteArray} {v : Int} {a a0 a1 a2 a3 : Nat}
  (kT : FRetP Tryz.prog 28 (RD t a) [] [.f (.str ⟨#[40]⟩)] (RD t a0) [.c (.v (.bool false))])
  (kN : FRetP Tryz.prog 20 (RD t a0) [] [] (RD t a0) [.c (.v (.str w)),.c (.v (.int .i64 (a0 : Nat)))])
  (kI : FRet Tryz.prog 62 [.f (.fr 1 [[.str ⟨#[97,108,108]⟩],[.str ⟨#[110,101,101,100,115]⟩],[.str ⟨#[117,115,101,114,115]⟩],[.str ⟨#[98,101,116,119,101,101,110]⟩],[.str ⟨#[107,105,110,100]⟩],[.str ⟨#[105,110]⟩]]),.f (.str w)] [.c (.v (.int .i64 (4)))])
  (kP : FRetP Tryz.prog 42 (RD t a0) [] [] (RD t a1) [])
  (kM1 : FRetP Tryz.prog 61 (RD t a1) [] [.f (.str ⟨#[40]⟩)] (RD t a2) [])
  (kH : FRetP Tryz.prog 63 (RD t a2) [] [.f (.fn (.func 38))] (RD t a3) [.c (.v (.str u))])
  (kX : FPanP Tryz.prog 61 (RD t a3) [] [.f (.str ⟨#[44]⟩)] IsW) :
  FPanP Tryz.prog 41 (RD t a) [] [] IsW := by
 unfold RD at *
 replace kT := hide kT
 replace kN := hide kN
 replace kI := hide kI
 replace kP := hide kP
 replace kM1 := hide kM1
 replace kH := hide kH
 replace kX := hide kX
 refine PCall.of_ax low_graph_reader_one ?_
 dsimp only [l_graph_reader_one]
 refine srun_sound 300 _ _ _ _ ?_
 repeat' simp -implicitDefEqProofs only [*,addFp_wr,zr,seval]
 refine gP kT.out 100001 1 [.f (.str t),.f (.int .i64 a)] [] [.f (.str ⟨#[40]⟩)] ?_
 repeat' simp -implicitDefEqProofs only [*,addFp_wr,zr,seval]
 refine gP kN.out 100001 1 [.f (.str t),.f (.int .i64 a0)] [] [] ?_
 repeat' simp -implicitDefEqProofs only [*,addFp_wr,zr,seval]
 refine callG rfl kI.out rfl (fz_words rfl) rfl (by repeat (first|exact free_0 | exact free_mk (by simp) | refine free_upd rfl ?_ | refine free_kill ?_)) ?_
 repeat' simp -implicitDefEqProofs only [*,addFp_wr,zr,seval]
 refine gP kP.out 100001 1 [.f (.str t),.f (.int .i64 a0)] [] [] ?_
 repeat' simp -implicitDefEqProofs only [*,addFp_wr,zr,seval]
 refine gP kM1.out 100001 1 [.f (.str t),.f (.int .i64 a1)] [] [.f (.str ⟨#[40]⟩)] ?_
 repeat' simp -implicitDefEqProofs only [*,addFp_wr,zr,seval]
 refine gP kH.out 100001 1 [.f (.str t),.f (.int .i64 a2)] [] [.f (.fn (.func 38))] ?_
 repeat' simp -implicitDefEqProofs only [*,addFp_wr,zr,seval]
 exact gPan kX.out 100001 1 [.f (.str t),.f (.int .i64 a3)] [] [.f (.str ⟨#[44]⟩)]
set_option maxHeartbeats 8000000 in
theorem sum_p6 {t w u : ByteArray} {v : Int} {a a0 a1 a2 a3 a4 : Nat}
  (kT : FRetP Tryz.prog 28 (RD t a) [] [.f (.str ⟨#[40]⟩)] (RD t a0) [.c (.v (.bool false))])
  (kN : FRetP Tryz.prog 20 (RD t a0) [] [] (RD t a0) [.c (.v (.str w)),.c (.v (.int .i64 (a0 : Nat)))])
  (kI : FRet Tryz.prog 62 [.f (.fr 1 [[.str ⟨#[97,108,108]⟩],[.str ⟨#[110,101,101,100,115]⟩],[.str ⟨#[117,115,101,114,115]⟩],[.str ⟨#[98,101,116,119,101,101,110]⟩],[.str ⟨#[107,105,110,100]⟩],[.str ⟨#[105,110]⟩]]),.f (.str w)] [.c (.v (.int .i64 (4)))])
  (kP : FRetP Tryz.prog 42 (RD t a0) [] [] (RD t a1) [])
  (kM1 : FRetP Tryz.prog 61 (RD t a1) [] [.f (.str ⟨#[40]⟩)] (RD t a2) [])
  (kH : FRetP Tryz.prog 63 (RD t a2) [] [.f (.fn (.func 38))] (RD t a3) [.c (.v (.str u))])
  (kM2 : FRetP Tryz.prog 61 (RD t a3) [] [.f (.str ⟨#[44]⟩)] (RD t a4) [])
  (kX : FPanP Tryz.prog 19 (RD t a4) [] [] IsW) :
  FPanP Tryz.prog 41 (RD t a) [] [] IsW := by
 unfold RD at *
 replace kT := hide kT
 replace kN := hide kN
 replace kI := hide kI
 replace kP := hide kP
 replace kM1 := hide kM1
 replace kH := hide kH
 replace kM2 := hide kM2
 replace kX := hide kX
 refine PCall.of_ax low_graph_reader_one ?_
 dsimp only [l_graph_reader_one]
 refine srun_sound 300 _ _ _ _ ?_
 repeat' simp -implicitDefEqProofs only [*,addFp_wr,zr,seval]
 refine gP kT.out 100001 1 [.f (.str t),.f (.int .i64 a)] [] [.f (.str ⟨#[40]⟩)] ?_
 repeat' simp -implicitDefEqProofs only [*,addFp_wr,zr,seval]
 refine gP kN.out 100001 1 [.f (.str t),.f (.int .i64 a0)] [] [] ?_
 repeat' simp -implicitDefEqProofs only [*,addFp_wr,zr,seval]
 refine callG rfl kI.out rfl (fz_words rfl) rfl (by repeat (first|exact free_0 | exact free_mk (by simp) | refine free_upd rfl ?_ | refine free_kill ?_)) ?_
 repeat' simp -implicitDefEqProofs only [*,addFp_wr,zr,seval]
 refine gP kP.out 100001 1 [.f (.str t),.f (.int .i64 a0)] [] [] ?_
 repeat' simp -implicitDefEqProofs only [*,addFp_wr,zr,seval]
 refine gP kM1.out 100001 1 [.f (.str t),.f (.int .i64 a1)] [] [.f (.str ⟨#[40]⟩)] ?_
 repeat' simp -implicitDefEqProofs only [*,addFp_wr,zr,seval]
 refine gP kH.out 100001 1 [.f (.str t),.f (.int .i64 a2)] [] [.f (.fn (.func 38))] ?_
 repeat' simp -implicitDefEqProofs only [*,addFp_wr,zr,seval]
 refine gPm (m := 3) kM2.out 100001 1 [.f (.str t),.f (.int .i64 a3)] [] [.f (.str ⟨#[44]⟩)] ?_
 repeat' simp -implicitDefEqProofs only [*,addFp_wr,zr,seval]
 refine ax_pdraw ?_
 exact ⟨rfl,.inl ⟨56,_,rfl,rfl,rfl,.inl ⟨57,_,rfl,rfl,rfl,.inl ⟨58,_,rfl,rfl,rfl,.inr ⟨_,_,_,rfl,rfl,panRd kX.out rfl,rfl⟩⟩⟩⟩⟩
set_option maxHeartbeats 8000000 in
theorem end_p6 {t w u : ByteArray} {v : Int} {a a0 a1 a2 a3 a4 a5 : Nat} {q : QT}
  (kT : FRetP Tryz.prog 28 (RD t a) [] [.f (.str ⟨#[40]⟩)] (RD t a0) [.c (.v (.bool false))])
  (kN : FRetP Tryz.prog 20 (RD t a0) [] [] (RD t a0) [.c (.v (.str w)),.c (.v (.int .i64 (a0 : Nat)))])
  (kI : FRet Tryz.prog 62 [.f (.fr 1 [[.str ⟨#[97,108,108]⟩],[.str ⟨#[110,101,101,100,115]⟩],[.str ⟨#[117,115,101,114,115]⟩],[.str ⟨#[98,101,116,119,101,101,110]⟩],[.str ⟨#[107,105,110,100]⟩],[.str ⟨#[105,110]⟩]]),.f (.str w)] [.c (.v (.int .i64 (4)))])
  (kP : FRetP Tryz.prog 42 (RD t a0) [] [] (RD t a1) [])
  (kM1 : FRetP Tryz.prog 61 (RD t a1) [] [.f (.str ⟨#[40]⟩)] (RD t a2) [])
  (kH : FRetP Tryz.prog 63 (RD t a2) [] [.f (.fn (.func 38))] (RD t a3) [.c (.v (.str u))])
  (kM2 : FRetP Tryz.prog 61 (RD t a3) [] [.f (.str ⟨#[44]⟩)] (RD t a4) [])
  (kS : FRetP Tryz.prog 19 (RD t a4) [] [] (RD t a5) [.agg [.v (.int .i64 (qK q)),.v (.str (qT q)),.v (.int .i64 (qN q)),.v (.fr 4 (qP q))]])
  (kX : FPanP Tryz.prog 61 (RD t a5) [] [.f (.str ⟨#[41]⟩)] IsW) :
  FPanP Tryz.prog 41 (RD t a) [] [] IsW := by
 unfold RD at *
 replace kT := hide kT
 replace kN := hide kN
 replace kI := hide kI
 replace kP := hide kP
 replace kM1 := hide kM1
 replace kH := hide kH
 replace kM2 := hide kM2
 replace kS := hide kS
 replace kX := hide kX
 refine PCall.of_ax low_graph_reader_one ?_
 dsimp only [l_graph_reader_one]
 refine srun_sound 300 _ _ _ _ ?_
 repeat' simp -implicitDefEqProofs only [*,addFp_wr,zr,seval]
 refine gP kT.out 100001 1 [.f (.str t),.f (.int .i64 a)] [] [.f (.str ⟨#[40]⟩)] ?_
 repeat' simp -implicitDefEqProofs only [*,addFp_wr,zr,seval]
 refine gP kN.out 100001 1 [.f (.str t),.f (.int .i64 a0)] [] [] ?_
 repeat' simp -implicitDefEqProofs only [*,addFp_wr,zr,seval]
 refine callG rfl kI.out rfl (fz_words rfl) rfl (by repeat (first|exact free_0 | exact free_mk (by simp) | refine free_upd rfl ?_ | refine free_kill ?_)) ?_
 repeat' simp -implicitDefEqProofs only [*,addFp_wr,zr,seval]
 refine gP kP.out 100001 1 [.f (.str t),.f (.int .i64 a0)] [] [] ?_
 repeat' simp -implicitDefEqProofs only [*,addFp_wr,zr,seval]
 refine gP kM1.out 100001 1 [.f (.str t),.f (.int .i64 a1)] [] [.f (.str ⟨#[40]⟩)] ?_
 repeat' simp -implicitDefEqProofs only [*,addFp_wr,zr,seval]
 refine gP kH.out 100001 1 [.f (.str t),.f (.int .i64 a2)] [] [.f (.fn (.func 38))] ?_
 repeat' simp -implicitDefEqProofs only [*,addFp_wr,zr,seval]
 refine gP kM2.out 100001 1 [.f (.str t),.f (.int .i64 a3)] [] [.f (.str ⟨#[44]⟩)] ?_
 repeat' simp -implicitDefEqProofs only [*,addFp_wr,zr,seval]
 refine gDq kS.out 100001 1 [.f (.str t),.f (.int .i64 a4)] [] [] ?_
 repeat' simp -implicitDefEqProofs only [*,addFp_wr,zr,seval]
 exact gPan kX.out 100001 1 [.f (.str t),.f (.int .i64 a5)] [] [.f (.str ⟨#[41]⟩)]
set_option maxHeartbeats 8000000 in
theorem paren_p7 {t w : ByteArray} {v : Int} {a a0 a1 : Nat}
  (kT : FRetP Tryz.prog 28 (RD t a) [] [.f (.str ⟨#[40]⟩)] (RD t a0) [.c (.v (.bool false))])
  (kN : FRetP Tryz.prog 20 (RD t a0) [] [] (RD t a0) [.c (.v (.str w)),.c (.v (.int .i64 (a0 : Nat)))])
  (kI : FRet Tryz.prog 62 [.f (.fr 1 [[.str ⟨#[97,108,108]⟩],[.str ⟨#[110,101,101,100,115]⟩],[.str ⟨#[117,115,101,114,115]⟩],[.str ⟨#[98,101,116,119,101,101,110]⟩],[.str ⟨#[107,105,110,100]⟩],[.str ⟨#[105,110]⟩]]),.f (.str w)] [.c (.v (.int .i64 (5)))])
  (kP : FRetP Tryz.prog 42 (RD t a0) [] [] (RD t a1) [])
  (kX : FPanP Tryz.prog 61 (RD t a1) [] [.f (.str ⟨#[40]⟩)] IsW) :
  FPanP Tryz.prog 41 (RD t a) [] [] IsW := by
 unfold RD at *
 replace kT := hide kT
 replace kN := hide kN
 replace kI := hide kI
 replace kP := hide kP
 replace kX := hide kX
 refine PCall.of_ax low_graph_reader_one ?_
 dsimp only [l_graph_reader_one]
 refine srun_sound 300 _ _ _ _ ?_
 repeat' simp -implicitDefEqProofs only [*,addFp_wr,zr,seval]
 refine gP kT.out 100001 1 [.f (.str t),.f (.int .i64 a)] [] [.f (.str ⟨#[40]⟩)] ?_
 repeat' simp -implicitDefEqProofs only [*,addFp_wr,zr,seval]
 refine gP kN.out 100001 1 [.f (.str t),.f (.int .i64 a0)] [] [] ?_
 repeat' simp -implicitDefEqProofs only [*,addFp_wr,zr,seval]
 refine callG rfl kI.out rfl (fz_words rfl) rfl (by repeat (first|exact free_0 | exact free_mk (by simp) | refine free_upd rfl ?_ | refine free_kill ?_)) ?_
 repeat' simp -implicitDefEqProofs only [*,addFp_wr,zr,seval]
 refine gP kP.out 100001 1 [.f (.str t),.f (.int .i64 a0)] [] [] ?_
 repeat' simp -implicitDefEqProofs only [*,addFp_wr,zr,seval]
 exact gPan kX.out 100001 1 [.f (.str t),.f (.int .i64 a1)] [] [.f (.str ⟨#[40]⟩)]
set_option maxHeartbeats 8000000 in
theorem hname_p7 {t w : ByteArray} {v : Int} {a a0 a1 a2 : Nat}
  (kT : FRetP Tryz.prog 28 (RD t a) [] [.f (.str ⟨#[40]⟩)] (RD t a0) [.c (.v (.bool false))])
  (kN : FRetP Tryz.prog 20 (RD t a0) [] [] (RD t a0) [.c (.v (.str w)),.c (.v (.int .i64 (a0 : Nat)))])
  (kI : FRet Tryz.prog 62 [.f (.fr 1 [[.str ⟨#[97,108,108]⟩],[.str ⟨#[110,101,101,100,115]⟩],[.str ⟨#[117,115,101,114,115]⟩],[.str ⟨#[98,101,116,119,101,101,110]⟩],[.str ⟨#[107,105,110,100]⟩],[.str ⟨#[105,110]⟩]]),.f (.str w)] [.c (.v (.int .i64 (5)))])
  (kP : FRetP Tryz.prog 42 (RD t a0) [] [] (RD t a1) [])
  (kM1 : FRetP Tryz.prog 61 (RD t a1) [] [.f (.str ⟨#[40]⟩)] (RD t a2) [])
  (kX : FPanP Tryz.prog 63 (RD t a2) [] [.f (.fn (.func 39))] IsW) :
  FPanP Tryz.prog 41 (RD t a) [] [] IsW := by
 unfold RD at *
 replace kT := hide kT
 replace kN := hide kN
 replace kI := hide kI
 replace kP := hide kP
 replace kM1 := hide kM1
 replace kX := hide kX
 refine PCall.of_ax low_graph_reader_one ?_
 dsimp only [l_graph_reader_one]
 refine srun_sound 300 _ _ _ _ ?_
 repeat' simp -implicitDefEqProofs only [*,addFp_wr,zr,seval]
 refine gP kT.out 100001 1 [.f (.str t),.f (.int .i64 a)] [] [.f (.str ⟨#[40]⟩)] ?_
 repeat' simp -implicitDefEqProofs only [*,addFp_wr,zr,seval]
 refine gP kN.out 100001 1 [.f (.str t),.f (.int .i64 a0)] [] [] ?_
 repeat' simp -implicitDefEqProofs only [*,addFp_wr,zr,seval]
 refine callG rfl kI.out rfl (fz_words rfl) rfl (by repeat (first|exact free_0 | exact free_mk (by simp) | refine free_upd rfl ?_ | refine free_kill ?_)) ?_
 repeat' simp -implicitDefEqProofs only [*,addFp_wr,zr,seval]
 refine gP kP.out 100001 1 [.f (.str t),.f (.int .i64 a0)] [] [] ?_
 repeat' simp -implicitDefEqProofs only [*,addFp_wr,zr,seval]
 refine gP kM1.out 100001 1 [.f (.str t),.f (.int .i64 a1)] [] [.f (.str ⟨#[40]⟩)] ?_
 repeat' simp -implicitDefEqProofs only [*,addFp_wr,zr,seval]
 exact gPan kX.out 100001 1 [.f (.str t),.f (.int .i64 a2)] [] [.f (.fn (.func 39))]
set_option maxHeartbeats 8000000 in
theorem hcomma_p7 {t w u : ByteArray} {v : Int} {a a0 a1 a2 a3 : Nat}
  (kT : FRetP Tryz.prog 28 (RD t a) [] [.f (.str ⟨#[40]⟩)] (RD t a0) [.c (.v (.bool false))])
  (kN : FRetP Tryz.prog 20 (RD t a0) [] [] (RD t a0) [.c (.v (.str w)),.c (.v (.int .i64 (a0 : Nat)))])
  (kI : FRet Tryz.prog 62 [.f (.fr 1 [[.str ⟨#[97,108,108]⟩],[.str ⟨#[110,101,101,100,115]⟩],[.str ⟨#[117,115,101,114,115]⟩],[.str ⟨#[98,101,116,119,101,101,110]⟩],[.str ⟨#[107,105,110,100]⟩],[.str ⟨#[105,110]⟩]]),.f (.str w)] [.c (.v (.int .i64 (5)))])
  (kP : FRetP Tryz.prog 42 (RD t a0) [] [] (RD t a1) [])
  (kM1 : FRetP Tryz.prog 61 (RD t a1) [] [.f (.str ⟨#[40]⟩)] (RD t a2) [])
  (kH : FRetP Tryz.prog 63 (RD t a2) [] [.f (.fn (.func 39))] (RD t a3) [.c (.v (.str u))])
  (kX : FPanP Tryz.prog 61 (RD t a3) [] [.f (.str ⟨#[44]⟩)] IsW) :
  FPanP Tryz.prog 41 (RD t a) [] [] IsW := by
 unfold RD at *
 replace kT := hide kT
 replace kN := hide kN
 replace kI := hide kI
 replace kP := hide kP
 replace kM1 := hide kM1
 replace kH := hide kH
 replace kX := hide kX
 refine PCall.of_ax low_graph_reader_one ?_
 dsimp only [l_graph_reader_one]
 refine srun_sound 300 _ _ _ _ ?_
 repeat' simp -implicitDefEqProofs only [*,addFp_wr,zr,seval]
 refine gP kT.out 100001 1 [.f (.str t),.f (.int .i64 a)] [] [.f (.str ⟨#[40]⟩)] ?_
 repeat' simp -implicitDefEqProofs only [*,addFp_wr,zr,seval]
 refine gP kN.out 100001 1 [.f (.str t),.f (.int .i64 a0)] [] [] ?_
 repeat' simp -implicitDefEqProofs only [*,addFp_wr,zr,seval]
 refine callG rfl kI.out rfl (fz_words rfl) rfl (by repeat (first|exact free_0 | exact free_mk (by simp) | refine free_upd rfl ?_ | refine free_kill ?_)) ?_
 repeat' simp -implicitDefEqProofs only [*,addFp_wr,zr,seval]
 refine gP kP.out 100001 1 [.f (.str t),.f (.int .i64 a0)] [] [] ?_
 repeat' simp -implicitDefEqProofs only [*,addFp_wr,zr,seval]
 refine gP kM1.out 100001 1 [.f (.str t),.f (.int .i64 a1)] [] [.f (.str ⟨#[40]⟩)] ?_
 repeat' simp -implicitDefEqProofs only [*,addFp_wr,zr,seval]
 refine gP kH.out 100001 1 [.f (.str t),.f (.int .i64 a2)] [] [.f (.fn (.func 39))] ?_
 repeat' simp -implicitDefEqProofs only [*,addFp_wr,zr,seval]
 exact gPan kX.out 100001 1 [.f (.str t),.f (.int .i64 a3)] [] [.f (.str ⟨#[44]⟩)]
set_option maxHeartbeats 8000000 in
theorem sum_p7 {t w u : ByteArray} {v : Int} {a a0 a1 a2 a3 a4 : Nat}
  (kT : FRetP Tryz.prog 28 (RD t a) [] [.f (.str ⟨#[40]⟩)] (RD t a0) [.c (.v (.bool false))])
  (kN : FRetP Tryz.prog 20 (RD t a0) [] [] (RD t a0) [.c (.v (.str w)),.c (.v (.int .i64 (a0 : Nat)))])
  (kI : FRet Tryz.prog 62 [.f (.fr 1 [[.str ⟨#[97,108,108]⟩],[.str ⟨#[110,101,101,100,115]⟩],[.str ⟨#[117,115,101,114,115]⟩],[.str ⟨#[98,101,116,119,101,101,110]⟩],[.str ⟨#[107,105,110,100]⟩],[.str ⟨#[105,110]⟩]]),.f (.str w)] [.c (.v (.int .i64 (5)))])
  (kP : FRetP Tryz.prog 42 (RD t a0) [] [] (RD t a1) [])
  (kM1 : FRetP Tryz.prog 61 (RD t a1) [] [.f (.str ⟨#[40]⟩)] (RD t a2) [])
  (kH : FRetP Tryz.prog 63 (RD t a2) [] [.f (.fn (.func 39))] (RD t a3) [.c (.v (.str u))])
  (kM2 : FRetP Tryz.prog 61 (RD t a3) [] [.f (.str ⟨#[44]⟩)] (RD t a4) [])
  (kX : FPanP Tryz.prog 19 (RD t a4) [] [] IsW) :
  FPanP Tryz.prog 41 (RD t a) [] [] IsW := by
 unfold RD at *
 replace kT := hide kT
 replace kN := hide kN
 replace kI := hide kI
 replace kP := hide kP
 replace kM1 := hide kM1
 replace kH := hide kH
 replace kM2 := hide kM2
 replace kX := hide kX
 refine PCall.of_ax low_graph_reader_one ?_
 dsimp only [l_graph_reader_one]
 refine srun_sound 300 _ _ _ _ ?_
 repeat' simp -implicitDefEqProofs only [*,addFp_wr,zr,seval]
 refine gP kT.out 100001 1 [.f (.str t),.f (.int .i64 a)] [] [.f (.str ⟨#[40]⟩)] ?_
 repeat' simp -implicitDefEqProofs only [*,addFp_wr,zr,seval]
 refine gP kN.out 100001 1 [.f (.str t),.f (.int .i64 a0)] [] [] ?_
 repeat' simp -implicitDefEqProofs only [*,addFp_wr,zr,seval]
 refine callG rfl kI.out rfl (fz_words rfl) rfl (by repeat (first|exact free_0 | exact free_mk (by simp) | refine free_upd rfl ?_ | refine free_kill ?_)) ?_
 repeat' simp -implicitDefEqProofs only [*,addFp_wr,zr,seval]
 refine gP kP.out 100001 1 [.f (.str t),.f (.int .i64 a0)] [] [] ?_
 repeat' simp -implicitDefEqProofs only [*,addFp_wr,zr,seval]
 refine gP kM1.out 100001 1 [.f (.str t),.f (.int .i64 a1)] [] [.f (.str ⟨#[40]⟩)] ?_
 repeat' simp -implicitDefEqProofs only [*,addFp_wr,zr,seval]
 refine gP kH.out 100001 1 [.f (.str t),.f (.int .i64 a2)] [] [.f (.fn (.func 39))] ?_
 repeat' simp -implicitDefEqProofs only [*,addFp_wr,zr,seval]
 refine gPm (m := 3) kM2.out 100001 1 [.f (.str t),.f (.int .i64 a3)] [] [.f (.str ⟨#[44]⟩)] ?_
 repeat' simp -implicitDefEqProofs only [*,addFp_wr,zr,seval]
 refine ax_pdraw ?_
 exact ⟨rfl,.inl ⟨56,_,rfl,rfl,rfl,.inl ⟨57,_,rfl,rfl,rfl,.inl ⟨58,_,rfl,rfl,rfl,.inr ⟨_,_,_,rfl,rfl,panRd kX.out rfl,rfl⟩⟩⟩⟩⟩
set_option maxHeartbeats 8000000 in
theorem end_p7 {t w u : ByteArray} {v : Int} {a a0 a1 a2 a3 a4 a5 : Nat} {q : QT}
  (kT : FRetP Tryz.prog 28 (RD t a) [] [.f (.str ⟨#[40]⟩)] (RD t a0) [.c (.v (.bool false))])
  (kN : FRetP Tryz.prog 20 (RD t a0) [] [] (RD t a0) [.c (.v (.str w)),.c (.v (.int .i64 (a0 : Nat)))])
  (kI : FRet Tryz.prog 62 [.f (.fr 1 [[.str ⟨#[97,108,108]⟩],[.str ⟨#[110,101,101,100,115]⟩],[.str ⟨#[117,115,101,114,115]⟩],[.str ⟨#[98,101,116,119,101,101,110]⟩],[.str ⟨#[107,105,110,100]⟩],[.str ⟨#[105,110]⟩]]),.f (.str w)] [.c (.v (.int .i64 (5)))])
  (kP : FRetP Tryz.prog 42 (RD t a0) [] [] (RD t a1) [])
  (kM1 : FRetP Tryz.prog 61 (RD t a1) [] [.f (.str ⟨#[40]⟩)] (RD t a2) [])
  (kH : FRetP Tryz.prog 63 (RD t a2) [] [.f (.fn (.func 39))] (RD t a3) [.c (.v (.str u))])
  (kM2 : FRetP Tryz.prog 61 (RD t a3) [] [.f (.str ⟨#[44]⟩)] (RD t a4) [])
  (kS : FRetP Tryz.prog 19 (RD t a4) [] [] (RD t a5) [.agg [.v (.int .i64 (qK q)),.v (.str (qT q)),.v (.int .i64 (qN q)),.v (.fr 4 (qP q))]])
  (kX : FPanP Tryz.prog 61 (RD t a5) [] [.f (.str ⟨#[41]⟩)] IsW) :
  FPanP Tryz.prog 41 (RD t a) [] [] IsW := by
 unfold RD at *
 replace kT := hide kT
 replace kN := hide kN
 replace kI := hide kI
 replace kP := hide kP
 replace kM1 := hide kM1
 replace kH := hide kH
 replace kM2 := hide kM2
 replace kS := hide kS
 replace kX := hide kX
 refine PCall.of_ax low_graph_reader_one ?_
 dsimp only [l_graph_reader_one]
 refine srun_sound 300 _ _ _ _ ?_
 repeat' simp -implicitDefEqProofs only [*,addFp_wr,zr,seval]
 refine gP kT.out 100001 1 [.f (.str t),.f (.int .i64 a)] [] [.f (.str ⟨#[40]⟩)] ?_
 repeat' simp -implicitDefEqProofs only [*,addFp_wr,zr,seval]
 refine gP kN.out 100001 1 [.f (.str t),.f (.int .i64 a0)] [] [] ?_
 repeat' simp -implicitDefEqProofs only [*,addFp_wr,zr,seval]
 refine callG rfl kI.out rfl (fz_words rfl) rfl (by repeat (first|exact free_0 | exact free_mk (by simp) | refine free_upd rfl ?_ | refine free_kill ?_)) ?_
 repeat' simp -implicitDefEqProofs only [*,addFp_wr,zr,seval]
 refine gP kP.out 100001 1 [.f (.str t),.f (.int .i64 a0)] [] [] ?_
 repeat' simp -implicitDefEqProofs only [*,addFp_wr,zr,seval]
 refine gP kM1.out 100001 1 [.f (.str t),.f (.int .i64 a1)] [] [.f (.str ⟨#[40]⟩)] ?_
 repeat' simp -implicitDefEqProofs only [*,addFp_wr,zr,seval]
 refine gP kH.out 100001 1 [.f (.str t),.f (.int .i64 a2)] [] [.f (.fn (.func 39))] ?_
 repeat' simp -implicitDefEqProofs only [*,addFp_wr,zr,seval]
 refine gP kM2.out 100001 1 [.f (.str t),.f (.int .i64 a3)] [] [.f (.str ⟨#[44]⟩)] ?_
 repeat' simp -implicitDefEqProofs only [*,addFp_wr,zr,seval]
 refine gDq kS.out 100001 1 [.f (.str t),.f (.int .i64 a4)] [] [] ?_
 repeat' simp -implicitDefEqProofs only [*,addFp_wr,zr,seval]
 exact gPan kX.out 100001 1 [.f (.str t),.f (.int .i64 a5)] [] [.f (.str ⟨#[41]⟩)]
end Go.Proofs.YtagkdifaldikgaaGreatDoor
