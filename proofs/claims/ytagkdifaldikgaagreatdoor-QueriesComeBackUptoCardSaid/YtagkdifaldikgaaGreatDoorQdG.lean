/-
  One query without signs between, where nothing is wrong: brackets, labels, all. No statement of the seat is proved here; no conditions.
-/
import Derived.Test.YtagkdifaldikgaaGreatDoorQdF
namespace Go.Proofs.YtagkdifaldikgaaGreatDoor
open Go.RowKit Go.Shelf
set_option linter.unusedVariables false
set_option linter.unusedSimpArgs false
set_option maxRecDepth 100000

def wordsQ : List ByteArray := [⟨#[97,108,108]⟩,⟨#[110,101,101,100,115]⟩,⟨#[117,115,101,114,115]⟩,⟨#[98,101,116,119,101,101,110]⟩,⟨#[107,105,110,100]⟩,⟨#[105,110]⟩]
theorem ix_kind (w : ByteArray) : ixS wordsQ w = if kindW w.data.toList = 0 then -1 else if kindW w.data.toList = 1 then 0 else kindW w.data.toList - 2 := by
 have e : ∀ v : ByteArray,w.data.toList = v.data.toList → w = v := fun v h => bytes_ext h
 by_cases h1 : w.data.toList = wAll
 ·obtain rfl := e ⟨#[97,108,108]⟩ h1;decide
 by_cases h2 : w.data.toList = wNeeds
 ·obtain rfl := e ⟨#[110,101,101,100,115]⟩ h2;decide
 by_cases h3 : w.data.toList = wUsers
 ·obtain rfl := e ⟨#[117,115,101,114,115]⟩ h3;decide
 by_cases h4 : w.data.toList = wBetw
 ·obtain rfl := e ⟨#[98,101,116,119,101,101,110]⟩ h4;decide
 by_cases h5 : w.data.toList = wKind
 ·obtain rfl := e ⟨#[107,105,110,100]⟩ h5;decide
 by_cases h6 : w.data.toList = wIn
 ·obtain rfl := e ⟨#[105,110]⟩ h6;decide
 have hk : kindW w.data.toList = 0 := by unfold kindW;rw [if_neg h1,if_neg h2,if_neg h3,if_neg h4,if_neg h5,if_neg h6]
 rw [hk,if_pos rfl]
 refine ixS_none fun k y hk hy => decide_eq_false fun hwy => ?_
 subst hwy
 match k,hy with
 | 0,hy => exact h1 (by rw [← Option.some.inj hy];rfl)
 | 1,hy => exact h2 (by rw [← Option.some.inj hy];rfl)
 | 2,hy => exact h3 (by rw [← Option.some.inj hy];rfl)
 | 3,hy => exact h4 (by rw [← Option.some.inj hy];rfl)
 | 4,hy => exact h5 (by rw [← Option.some.inj hy];rfl)
 | 5,hy => exact h6 (by rw [← Option.some.inj hy];rfl)
 | k + 6,hy => simp [wordsQ] at hy
theorem index_q (w : ByteArray) {i : Int} (h : ixS wordsQ w = i) : FRet Tryz.prog 62 [.f (.fr 1 [[.str ⟨#[97,108,108]⟩],[.str ⟨#[110,101,101,100,115]⟩],[.str ⟨#[117,115,101,114,115]⟩],[.str ⟨#[98,101,116,119,101,101,110]⟩],[.str ⟨#[107,105,110,100]⟩],[.str ⟨#[105,110]⟩]]),.f (.str w)] [.c (.v (.int .i64 i))] := by
 have := index_fS wordsQ w (by decide)
 rw [h] at this
 exact this
theorem fz_words {H : Heap} {w : ByteArray} (hc : cellsOf 1 (H 20) = some ((wordsQ.map FV.str).map .f)) :
  FzsOk H [.sl 20 1 1 0 6,.f (.str w)] [.f (.fr 1 [[.str ⟨#[97,108,108]⟩],[.str ⟨#[110,101,101,100,115]⟩],[.str ⟨#[117,115,101,114,115]⟩],[.str ⟨#[98,101,116,119,101,101,110]⟩],[.str ⟨#[107,105,110,100]⟩],[.str ⟨#[105,110]⟩]]),.f (.str w)] :=
 ⟨.inl (so_sl (cs := wordsQ.map FV.str) rfl hc rfl (fun x hx => by
  simp only [List.mem_cons,List.not_mem_nil,or_false] at hx
  rcases hx with rfl | rfl | rfl | rfl | rfl | rfl <;> rfl) rfl),.inl (.inl rfl),trivial⟩
set_option maxHeartbeats 4000000 in
theorem one_brk (t : ByteArray) (ht : (t.size : Int) ≤ 140737488355328) (a b : Nat) (ha : a ≤ t.size) (hw : nxW t a = ⟨#[40]⟩) (Q : QT) (hb : b ≤ t.size) (hb2 : nxW t b = ⟨#[41]⟩)
  (kS : FRetP Tryz.prog 19 (RD t (nxP t a)) [] [] (RD t b) [.agg (rcQ Q)]) : FRetP Tryz.prog 41 (RD t a) [] [] (RD t (nxP t b)) [.agg (rcQ Q)] := by
 have kT := take_f t ⟨#[40]⟩ a ha ht
 rw [if_pos hw,decide_eq_true hw] at kT
 have kM := must_f t ⟨#[41]⟩ b hb ht hb2
 rw [rcQ_eq] at kS ⊢
 unfold RD at *
 generalize nxP t a = a1 at *
 generalize nxP t b = b1 at *
 clear hw hb2
 replace kT := hide kT
 replace kM := hide kM
 replace kS := hide kS
 refine FCall.of_ax low_graph_reader_one ?_
 dsimp only [l_graph_reader_one]
 refine srun_sound 300 _ _ _ _ ?_
 repeat' simp -implicitDefEqProofs only [*,addFp_wr,zr,seval]
 refine gP kT.out 100001 1 [.f (.str t),.f (.int .i64 a)] [] [.f (.str ⟨#[40]⟩)] ?_
 repeat' simp -implicitDefEqProofs only [*,addFp_wr,zr,seval]
 refine gP kS.out 100001 1 [.f (.str t),.f (.int .i64 a1)] [] [] ?_
 repeat' simp -implicitDefEqProofs only [*,addFp_wr,zr,seval]
 refine gP kM.out 100001 1 [.f (.str t),.f (.int .i64 b)] [] [.f (.str ⟨#[41]⟩)] ?_
 repeat' simp -implicitDefEqProofs only [*,addFp_wr,zr,seval]
 exact ⟨[.agg [.f _,.f _,.f _,.f _]],[.f (.str t),.f (.int .i64 b1)],rfl,rfl,⟨rfl,rfl,rfl⟩,⟨⟨rfl,rfl,rfl,rfl,rfl⟩,rfl⟩,by simp [idsC,idsS],by simp [idsC,idsS]⟩
set_option maxHeartbeats 4000000 in
theorem one_lab (t : ByteArray) (ht : (t.size : Int) ≤ 140737488355328) (a : Nat) (ha : a ≤ t.size) (hw : nxW t a ≠ ⟨#[40]⟩) (hk : kindW (nxW t a).data.toList = 0) (hl : isWholeV (nxW t a) = true) :
  FRetP Tryz.prog 41 (RD t a) [] [] (RD t (nxP t a)) [.agg [.v (.int .i64 2),.v (.str (nxW t a)),.v (.int .i64 0),.own 4 0 []]] := by
 have kT := take_f t ⟨#[40]⟩ a ha ht
 rw [if_neg hw,decide_eq_false hw] at kT
 have h0 := spN_le t a ha
 have kN := next_f t (spN t a) h0 ht
 rw [spN_sp t a ha,nxW_sp] at kN
 have hsz : (nxW t a).size ≤ t.size := by have := nxW_size t a ha;have := nxP_le t a ha;omega
 have kF := isWhole_f (nxW t a) (by omega)
 rw [hl] at kF
 have kS := some_f t (spN t a) 37 h0 ht (by rw [nxW_sp];exact kF)
 rw [nxP_sp t a ha,nxW_sp] at kS
 have kI := index_q (nxW t a) (i := -1) (by rw [ix_kind,hk];rfl)
 unfold RD at *
 generalize nxW t a = w at *
 generalize nxP t a = a1 at *
 generalize spN t a = a0 at *
 clear hw hk hl kF hsz
 replace kT := hide kT
 replace kN := hide kN
 replace kS := hide kS
 replace kI := hide kI
 refine FCall.of_ax low_graph_reader_one ?_
 dsimp only [l_graph_reader_one]
 refine srun_sound 300 _ _ _ _ ?_
 repeat' simp -implicitDefEqProofs only [*,addFp_wr,zr,seval]
 refine gP kT.out 100001 1 [.f (.str t),.f (.int .i64 a)] [] [.f (.str ⟨#[40]⟩)] ?_
 repeat' simp -implicitDefEqProofs only [*,addFp_wr,zr,seval]
 refine gP kN.out 100001 1 [.f (.str t),.f (.int .i64 a0)] [] [] ?_
 repeat' simp -implicitDefEqProofs only [*,addFp_wr,zr,seval]
 refine callG rfl kI.out rfl (fz_words rfl) rfl (by repeat (first|exact free_0 | exact free_mk (by simp) | refine free_upd rfl ?_ | refine free_kill ?_)) ?_
 repeat' simp -implicitDefEqProofs only [*,addFp_wr,zr,seval]
 refine gP kS.out 100001 1 [.f (.str t),.f (.int .i64 a0)] [] [.f (.fn (.func 37))] ?_
 repeat' simp -implicitDefEqProofs only [*,addFp_wr,zr,seval]
 exact ⟨[.agg [.f _,.f _,.f _,.f .nil]],[.f (.str t),.f (.int .i64 a1)],rfl,rfl,⟨rfl,rfl,rfl⟩,⟨⟨rfl,rfl,rfl,.inl ⟨rfl,rfl,rfl⟩,rfl⟩,rfl⟩,by simp [idsC,idsS],by simp [idsC,idsS]⟩
set_option maxHeartbeats 8000000 in
theorem one_all (t w u : ByteArray) (v : Int) (a a0 a1 a2 a3 a4 a5 a6 a7 a8 : Nat) (q q2 : QT)
  (kT : FRetP Tryz.prog 28 (RD t a) [] [.f (.str ⟨#[40]⟩)] (RD t a0) [.c (.v (.bool false))])
  (kN : FRetP Tryz.prog 20 (RD t a0) [] [] (RD t a0) [.c (.v (.str w)),.c (.v (.int .i64 (a0 : Nat)))])
  (kI : FRet Tryz.prog 62 [.f (.fr 1 [[.str ⟨#[97,108,108]⟩],[.str ⟨#[110,101,101,100,115]⟩],[.str ⟨#[117,115,101,114,115]⟩],[.str ⟨#[98,101,116,119,101,101,110]⟩],[.str ⟨#[107,105,110,100]⟩],[.str ⟨#[105,110]⟩]]),.f (.str w)] [.c (.v (.int .i64 0))])
  (kP : FRetP Tryz.prog 42 (RD t a0) [] [] (RD t a1) []) :
  FRetP Tryz.prog 41 (RD t a) [] [] (RD t a1) [.agg [.v (.int .i64 1),.v (.str ⟨#[]⟩),.v (.int .i64 0),.own 4 0 []]] := by
 unfold RD at *
 replace kT := hide kT
 replace kN := hide kN
 replace kI := hide kI
 replace kP := hide kP
 refine FCall.of_ax low_graph_reader_one ?_
 dsimp only [l_graph_reader_one]
 refine srun_sound 300 _ _ _ _ ?_
 repeat' simp -implicitDefEqProofs only [*,addFp_wr,zr,seval]
 refine gP kT.out 100001 1 [.f (.str t),.f (.int .i64 a)] [] [.f (.str ⟨#[40]⟩)] ?_
 repeat' simp -implicitDefEqProofs only [*,addFp_wr,zr,seval]
 refine gP kN.out 100001 1 [.f (.str t),.f (.int .i64 a0)] [] [] ?_
 repeat' simp -implicitDefEqProofs only [*,addFp_wr,zr,seval]
 refine callG rfl kI.out rfl (fz_words rfl) rfl (by repeat (first|exact free_0 | exact free_mk (by simp) | refine free_upd rfl ?_ | refine free_kill ?_)) ?_
 repeat' simp -implicitDefEqProofs only [*,addFp_wr,zr,seval]
 refine gP kP.out 100001 1 [.f (.str t),.f (.int .i64 a0)] [] [] ?_
 repeat' simp -implicitDefEqProofs only [*,addFp_wr,zr,seval]
 exact ⟨[.agg [.f _,.f _,.f _,.f .nil]],[.f (.str t),.f (.int .i64 a1)],rfl,rfl,⟨rfl,rfl,rfl⟩,⟨⟨rfl,rfl,rfl,.inl ⟨rfl,rfl,rfl⟩,rfl⟩,rfl⟩,by simp [idsC,idsS],by simp [idsC,idsS]⟩
set_option maxHeartbeats 8000000 in
theorem one_n3 (t w u : ByteArray) (v : Int) (a a0 a1 a2 a3 a4 a5 a6 a7 a8 : Nat) (q q2 : QT)
  (kT : FRetP Tryz.prog 28 (RD t a) [] [.f (.str ⟨#[40]⟩)] (RD t a0) [.c (.v (.bool false))])
  (kN : FRetP Tryz.prog 20 (RD t a0) [] [] (RD t a0) [.c (.v (.str w)),.c (.v (.int .i64 (a0 : Nat)))])
  (kI : FRet Tryz.prog 62 [.f (.fr 1 [[.str ⟨#[97,108,108]⟩],[.str ⟨#[110,101,101,100,115]⟩],[.str ⟨#[117,115,101,114,115]⟩],[.str ⟨#[98,101,116,119,101,101,110]⟩],[.str ⟨#[107,105,110,100]⟩],[.str ⟨#[105,110]⟩]]),.f (.str w)] [.c (.v (.int .i64 1))])
  (kP : FRetP Tryz.prog 42 (RD t a0) [] [] (RD t a1) [])
  (kM1 : FRetP Tryz.prog 61 (RD t a1) [] [.f (.str ⟨#[40]⟩)] (RD t a2) [])
  (kS : FRetP Tryz.prog 19 (RD t a2) [] [] (RD t a5) [.agg [.v (.int .i64 (qK q)),.v (.str (qT q)),.v (.int .i64 (qN q)),.v (.fr 4 (qP q))]])
  (kT3 : FRetP Tryz.prog 28 (RD t a5) [] [.f (.str ⟨#[44]⟩)] (RD t a6) [.c (.v (.bool false))])
  (kM4 : FRetP Tryz.prog 61 (RD t a6) [] [.f (.str ⟨#[41]⟩)] (RD t a8) []) :
  FRetP Tryz.prog 41 (RD t a) [] [] (RD t a8) [.agg [.v (.int .i64 3),.v (.str ⟨#[]⟩),.v (.int .i64 (-1)),.own 4 1 [.int .i64 (qK q),.str (qT q),.int .i64 (qN q),.fr 4 (qP q)]]] := by
 unfold RD at *
 replace kT := hide kT
 replace kN := hide kN
 replace kI := hide kI
 replace kP := hide kP
 replace kM1 := hide kM1
 replace kS := hide kS
 replace kT3 := hide kT3
 replace kM4 := hide kM4
 refine FCall.of_ax low_graph_reader_one ?_
 dsimp only [l_graph_reader_one]
 refine srun_sound 300 _ _ _ _ ?_
 repeat' simp -implicitDefEqProofs only [*,addFp_wr,zr,seval]
 refine gP kT.out 100001 1 [.f (.str t),.f (.int .i64 a)] [] [.f (.str ⟨#[40]⟩)] ?_
 repeat' simp -implicitDefEqProofs only [*,addFp_wr,zr,seval]
 refine gP kN.out 100001 1 [.f (.str t),.f (.int .i64 a0)] [] [] ?_
 repeat' simp -implicitDefEqProofs only [*,addFp_wr,zr,seval]
 refine callG rfl kI.out rfl (fz_words rfl) rfl (by repeat (first|exact free_0 | exact free_mk (by simp) | refine free_upd rfl ?_ | refine free_kill ?_)) ?_
 repeat' simp -implicitDefEqProofs only [*,addFp_wr,zr,seval]
 refine gP kP.out 100001 1 [.f (.str t),.f (.int .i64 a0)] [] [] ?_
 repeat' simp -implicitDefEqProofs only [*,addFp_wr,zr,seval]
 refine gP kM1.out 100001 1 [.f (.str t),.f (.int .i64 a1)] [] [.f (.str ⟨#[40]⟩)] ?_
 repeat' simp -implicitDefEqProofs only [*,addFp_wr,zr,seval]
 refine gDq kS.out 100001 1 [.f (.str t),.f (.int .i64 a2)] [] [] ?_
 repeat' simp -implicitDefEqProofs only [*,addFp_wr,zr,seval]
 refine gP kT3.out 100001 1 [.f (.str t),.f (.int .i64 a5)] [] [.f (.str ⟨#[44]⟩)] ?_
 repeat' simp -implicitDefEqProofs only [*,addFp_wr,zr,seval]
 refine gP kM4.out 100001 1 [.f (.str t),.f (.int .i64 a6)] [] [.f (.str ⟨#[41]⟩)] ?_
 repeat' simp -implicitDefEqProofs only [*,addFp_wr,zr,seval]
 exact ⟨[.agg [.f _,.f _,.f _,.sl _ _ _ _ _]],[.f (.str t),.f (.int .i64 a8)],rfl,rfl,⟨rfl,rfl,rfl⟩,⟨⟨rfl,rfl,rfl,.inr ⟨_,_,rfl,rfl,by simp⟩,rfl⟩,rfl⟩,by simp [idsC,idsS],by simp [idsC,idsS]⟩
set_option maxHeartbeats 8000000 in
theorem one_n4 (t w u : ByteArray) (v : Int) (a a0 a1 a2 a3 a4 a5 a6 a7 a8 : Nat) (q q2 : QT)
  (kT : FRetP Tryz.prog 28 (RD t a) [] [.f (.str ⟨#[40]⟩)] (RD t a0) [.c (.v (.bool false))])
  (kN : FRetP Tryz.prog 20 (RD t a0) [] [] (RD t a0) [.c (.v (.str w)),.c (.v (.int .i64 (a0 : Nat)))])
  (kI : FRet Tryz.prog 62 [.f (.fr 1 [[.str ⟨#[97,108,108]⟩],[.str ⟨#[110,101,101,100,115]⟩],[.str ⟨#[117,115,101,114,115]⟩],[.str ⟨#[98,101,116,119,101,101,110]⟩],[.str ⟨#[107,105,110,100]⟩],[.str ⟨#[105,110]⟩]]),.f (.str w)] [.c (.v (.int .i64 2))])
  (kP : FRetP Tryz.prog 42 (RD t a0) [] [] (RD t a1) [])
  (kM1 : FRetP Tryz.prog 61 (RD t a1) [] [.f (.str ⟨#[40]⟩)] (RD t a2) [])
  (kS : FRetP Tryz.prog 19 (RD t a2) [] [] (RD t a5) [.agg [.v (.int .i64 (qK q)),.v (.str (qT q)),.v (.int .i64 (qN q)),.v (.fr 4 (qP q))]])
  (kT3 : FRetP Tryz.prog 28 (RD t a5) [] [.f (.str ⟨#[44]⟩)] (RD t a6) [.c (.v (.bool false))])
  (kM4 : FRetP Tryz.prog 61 (RD t a6) [] [.f (.str ⟨#[41]⟩)] (RD t a8) []) :
  FRetP Tryz.prog 41 (RD t a) [] [] (RD t a8) [.agg [.v (.int .i64 4),.v (.str ⟨#[]⟩),.v (.int .i64 (-1)),.own 4 1 [.int .i64 (qK q),.str (qT q),.int .i64 (qN q),.fr 4 (qP q)]]] := by
 unfold RD at *
 replace kT := hide kT
 replace kN := hide kN
 replace kI := hide kI
 replace kP := hide kP
 replace kM1 := hide kM1
 replace kS := hide kS
 replace kT3 := hide kT3
 replace kM4 := hide kM4
 refine FCall.of_ax low_graph_reader_one ?_
 dsimp only [l_graph_reader_one]
 refine srun_sound 300 _ _ _ _ ?_
 repeat' simp -implicitDefEqProofs only [*,addFp_wr,zr,seval]
 refine gP kT.out 100001 1 [.f (.str t),.f (.int .i64 a)] [] [.f (.str ⟨#[40]⟩)] ?_
 repeat' simp -implicitDefEqProofs only [*,addFp_wr,zr,seval]
 refine gP kN.out 100001 1 [.f (.str t),.f (.int .i64 a0)] [] [] ?_
 repeat' simp -implicitDefEqProofs only [*,addFp_wr,zr,seval]
 refine callG rfl kI.out rfl (fz_words rfl) rfl (by repeat (first|exact free_0 | exact free_mk (by simp) | refine free_upd rfl ?_ | refine free_kill ?_)) ?_
 repeat' simp -implicitDefEqProofs only [*,addFp_wr,zr,seval]
 refine gP kP.out 100001 1 [.f (.str t),.f (.int .i64 a0)] [] [] ?_
 repeat' simp -implicitDefEqProofs only [*,addFp_wr,zr,seval]
 refine gP kM1.out 100001 1 [.f (.str t),.f (.int .i64 a1)] [] [.f (.str ⟨#[40]⟩)] ?_
 repeat' simp -implicitDefEqProofs only [*,addFp_wr,zr,seval]
 refine gDq kS.out 100001 1 [.f (.str t),.f (.int .i64 a2)] [] [] ?_
 repeat' simp -implicitDefEqProofs only [*,addFp_wr,zr,seval]
 refine gP kT3.out 100001 1 [.f (.str t),.f (.int .i64 a5)] [] [.f (.str ⟨#[44]⟩)] ?_
 repeat' simp -implicitDefEqProofs only [*,addFp_wr,zr,seval]
 refine gP kM4.out 100001 1 [.f (.str t),.f (.int .i64 a6)] [] [.f (.str ⟨#[41]⟩)] ?_
 repeat' simp -implicitDefEqProofs only [*,addFp_wr,zr,seval]
 exact ⟨[.agg [.f _,.f _,.f _,.sl _ _ _ _ _]],[.f (.str t),.f (.int .i64 a8)],rfl,rfl,⟨rfl,rfl,rfl⟩,⟨⟨rfl,rfl,rfl,.inr ⟨_,_,rfl,rfl,by simp⟩,rfl⟩,rfl⟩,by simp [idsC,idsS],by simp [idsC,idsS]⟩
set_option maxHeartbeats 8000000 in
theorem one_m3 (t w u : ByteArray) (v : Int) (a a0 a1 a2 a3 a4 a5 a6 a7 a8 : Nat) (q q2 : QT)
  (kT : FRetP Tryz.prog 28 (RD t a) [] [.f (.str ⟨#[40]⟩)] (RD t a0) [.c (.v (.bool false))])
  (kN : FRetP Tryz.prog 20 (RD t a0) [] [] (RD t a0) [.c (.v (.str w)),.c (.v (.int .i64 (a0 : Nat)))])
  (kI : FRet Tryz.prog 62 [.f (.fr 1 [[.str ⟨#[97,108,108]⟩],[.str ⟨#[110,101,101,100,115]⟩],[.str ⟨#[117,115,101,114,115]⟩],[.str ⟨#[98,101,116,119,101,101,110]⟩],[.str ⟨#[107,105,110,100]⟩],[.str ⟨#[105,110]⟩]]),.f (.str w)] [.c (.v (.int .i64 1))])
  (kP : FRetP Tryz.prog 42 (RD t a0) [] [] (RD t a1) [])
  (kM1 : FRetP Tryz.prog 61 (RD t a1) [] [.f (.str ⟨#[40]⟩)] (RD t a2) [])
  (kS : FRetP Tryz.prog 19 (RD t a2) [] [] (RD t a5) [.agg [.v (.int .i64 (qK q)),.v (.str (qT q)),.v (.int .i64 (qN q)),.v (.fr 4 (qP q))]])
  (kT3 : FRetP Tryz.prog 28 (RD t a5) [] [.f (.str ⟨#[44]⟩)] (RD t a6) [.c (.v (.bool true))])
  (kO : FRetP Tryz.prog 63 (RD t a6) [] [.f (.fn (.func 65))] (RD t a7) [.c (.v (.str u))])
  (kA : FRet Tryz.prog 64 [.f (.str u)] [.c (.v (.int .i64 v)),.c (.v (.lit .nilIface))])
  (kM4 : FRetP Tryz.prog 61 (RD t a7) [] [.f (.str ⟨#[41]⟩)] (RD t a8) []) :
  FRetP Tryz.prog 41 (RD t a) [] [] (RD t a8) [.agg [.v (.int .i64 3),.v (.str ⟨#[]⟩),.v (.int .i64 v),.own 4 1 [.int .i64 (qK q),.str (qT q),.int .i64 (qN q),.fr 4 (qP q)]]] := by
 unfold RD at *
 replace kT := hide kT
 replace kN := hide kN
 replace kI := hide kI
 replace kP := hide kP
 replace kM1 := hide kM1
 replace kS := hide kS
 replace kT3 := hide kT3
 replace kO := hide kO
 replace kA := hide kA
 replace kM4 := hide kM4
 refine FCall.of_ax low_graph_reader_one ?_
 dsimp only [l_graph_reader_one]
 refine srun_sound 300 _ _ _ _ ?_
 repeat' simp -implicitDefEqProofs only [*,addFp_wr,zr,seval]
 refine gP kT.out 100001 1 [.f (.str t),.f (.int .i64 a)] [] [.f (.str ⟨#[40]⟩)] ?_
 repeat' simp -implicitDefEqProofs only [*,addFp_wr,zr,seval]
 refine gP kN.out 100001 1 [.f (.str t),.f (.int .i64 a0)] [] [] ?_
 repeat' simp -implicitDefEqProofs only [*,addFp_wr,zr,seval]
 refine callG rfl kI.out rfl (fz_words rfl) rfl (by repeat (first|exact free_0 | exact free_mk (by simp) | refine free_upd rfl ?_ | refine free_kill ?_)) ?_
 repeat' simp -implicitDefEqProofs only [*,addFp_wr,zr,seval]
 refine gP kP.out 100001 1 [.f (.str t),.f (.int .i64 a0)] [] [] ?_
 repeat' simp -implicitDefEqProofs only [*,addFp_wr,zr,seval]
 refine gP kM1.out 100001 1 [.f (.str t),.f (.int .i64 a1)] [] [.f (.str ⟨#[40]⟩)] ?_
 repeat' simp -implicitDefEqProofs only [*,addFp_wr,zr,seval]
 refine gDq kS.out 100001 1 [.f (.str t),.f (.int .i64 a2)] [] [] ?_
 repeat' simp -implicitDefEqProofs only [*,addFp_wr,zr,seval]
 refine gP kT3.out 100001 1 [.f (.str t),.f (.int .i64 a5)] [] [.f (.str ⟨#[44]⟩)] ?_
 repeat' simp -implicitDefEqProofs only [*,addFp_wr,zr,seval]
 refine gP kO.out 100001 1 [.f (.str t),.f (.int .i64 a6)] [] [.f (.fn (.func 65))] ?_
 repeat' (first
  | (simp -implicitDefEqProofs only [*,addFp_wr,zr,seval])
  | ((first|apply zk0|apply zk1|apply zk2|apply zk3|apply zk4|apply zk5|apply zk6|apply zk7|apply zk8|apply zk9) <;> intro hc)
  |(refine callP0 rfl ?_)
  |(refine callD0 rfl ?_)
  |(refine cP (kA.out) ?_)
  |(refine cD (kA.out) ?_)
  |(refine cF (kA.out) ?_)
  |(refine cO (kA.out) ?_)
  | fail)
 refine gP kM4.out 100001 1 [.f (.str t),.f (.int .i64 a7)] [] [.f (.str ⟨#[41]⟩)] ?_
 repeat' simp -implicitDefEqProofs only [*,addFp_wr,zr,seval]
 exact ⟨[.agg [.f _,.f _,.f _,.sl _ _ _ _ _]],[.f (.str t),.f (.int .i64 a8)],rfl,rfl,⟨rfl,rfl,rfl⟩,⟨⟨rfl,rfl,rfl,.inr ⟨_,_,rfl,rfl,by simp⟩,rfl⟩,rfl⟩,by simp [idsC,idsS],by simp [idsC,idsS]⟩
set_option maxHeartbeats 8000000 in
theorem one_m4 (t w u : ByteArray) (v : Int) (a a0 a1 a2 a3 a4 a5 a6 a7 a8 : Nat) (q q2 : QT)
  (kT : FRetP Tryz.prog 28 (RD t a) [] [.f (.str ⟨#[40]⟩)] (RD t a0) [.c (.v (.bool false))])
  (kN : FRetP Tryz.prog 20 (RD t a0) [] [] (RD t a0) [.c (.v (.str w)),.c (.v (.int .i64 (a0 : Nat)))])
  (kI : FRet Tryz.prog 62 [.f (.fr 1 [[.str ⟨#[97,108,108]⟩],[.str ⟨#[110,101,101,100,115]⟩],[.str ⟨#[117,115,101,114,115]⟩],[.str ⟨#[98,101,116,119,101,101,110]⟩],[.str ⟨#[107,105,110,100]⟩],[.str ⟨#[105,110]⟩]]),.f (.str w)] [.c (.v (.int .i64 2))])
  (kP : FRetP Tryz.prog 42 (RD t a0) [] [] (RD t a1) [])
  (kM1 : FRetP Tryz.prog 61 (RD t a1) [] [.f (.str ⟨#[40]⟩)] (RD t a2) [])
  (kS : FRetP Tryz.prog 19 (RD t a2) [] [] (RD t a5) [.agg [.v (.int .i64 (qK q)),.v (.str (qT q)),.v (.int .i64 (qN q)),.v (.fr 4 (qP q))]])
  (kT3 : FRetP Tryz.prog 28 (RD t a5) [] [.f (.str ⟨#[44]⟩)] (RD t a6) [.c (.v (.bool true))])
  (kO : FRetP Tryz.prog 63 (RD t a6) [] [.f (.fn (.func 65))] (RD t a7) [.c (.v (.str u))])
  (kA : FRet Tryz.prog 64 [.f (.str u)] [.c (.v (.int .i64 v)),.c (.v (.lit .nilIface))])
  (kM4 : FRetP Tryz.prog 61 (RD t a7) [] [.f (.str ⟨#[41]⟩)] (RD t a8) []) :
  FRetP Tryz.prog 41 (RD t a) [] [] (RD t a8) [.agg [.v (.int .i64 4),.v (.str ⟨#[]⟩),.v (.int .i64 v),.own 4 1 [.int .i64 (qK q),.str (qT q),.int .i64 (qN q),.fr 4 (qP q)]]] := by
 unfold RD at *
 replace kT := hide kT
 replace kN := hide kN
 replace kI := hide kI
 replace kP := hide kP
 replace kM1 := hide kM1
 replace kS := hide kS
 replace kT3 := hide kT3
 replace kO := hide kO
 replace kA := hide kA
 replace kM4 := hide kM4
 refine FCall.of_ax low_graph_reader_one ?_
 dsimp only [l_graph_reader_one]
 refine srun_sound 300 _ _ _ _ ?_
 repeat' simp -implicitDefEqProofs only [*,addFp_wr,zr,seval]
 refine gP kT.out 100001 1 [.f (.str t),.f (.int .i64 a)] [] [.f (.str ⟨#[40]⟩)] ?_
 repeat' simp -implicitDefEqProofs only [*,addFp_wr,zr,seval]
 refine gP kN.out 100001 1 [.f (.str t),.f (.int .i64 a0)] [] [] ?_
 repeat' simp -implicitDefEqProofs only [*,addFp_wr,zr,seval]
 refine callG rfl kI.out rfl (fz_words rfl) rfl (by repeat (first|exact free_0 | exact free_mk (by simp) | refine free_upd rfl ?_ | refine free_kill ?_)) ?_
 repeat' simp -implicitDefEqProofs only [*,addFp_wr,zr,seval]
 refine gP kP.out 100001 1 [.f (.str t),.f (.int .i64 a0)] [] [] ?_
 repeat' simp -implicitDefEqProofs only [*,addFp_wr,zr,seval]
 refine gP kM1.out 100001 1 [.f (.str t),.f (.int .i64 a1)] [] [.f (.str ⟨#[40]⟩)] ?_
 repeat' simp -implicitDefEqProofs only [*,addFp_wr,zr,seval]
 refine gDq kS.out 100001 1 [.f (.str t),.f (.int .i64 a2)] [] [] ?_
 repeat' simp -implicitDefEqProofs only [*,addFp_wr,zr,seval]
 refine gP kT3.out 100001 1 [.f (.str t),.f (.int .i64 a5)] [] [.f (.str ⟨#[44]⟩)] ?_
 repeat' simp -implicitDefEqProofs only [*,addFp_wr,zr,seval]
 refine gP kO.out 100001 1 [.f (.str t),.f (.int .i64 a6)] [] [.f (.fn (.func 65))] ?_
 repeat' (first
  | (simp -implicitDefEqProofs only [*,addFp_wr,zr,seval])
  | ((first|apply zk0|apply zk1|apply zk2|apply zk3|apply zk4|apply zk5|apply zk6|apply zk7|apply zk8|apply zk9) <;> intro hc)
  |(refine callP0 rfl ?_)
  |(refine callD0 rfl ?_)
  |(refine cP (kA.out) ?_)
  |(refine cD (kA.out) ?_)
  |(refine cF (kA.out) ?_)
  |(refine cO (kA.out) ?_)
  | fail)
 refine gP kM4.out 100001 1 [.f (.str t),.f (.int .i64 a7)] [] [.f (.str ⟨#[41]⟩)] ?_
 repeat' simp -implicitDefEqProofs only [*,addFp_wr,zr,seval]
 exact ⟨[.agg [.f _,.f _,.f _,.sl _ _ _ _ _]],[.f (.str t),.f (.int .i64 a8)],rfl,rfl,⟨rfl,rfl,rfl⟩,⟨⟨rfl,rfl,rfl,.inr ⟨_,_,rfl,rfl,by simp⟩,rfl⟩,rfl⟩,by simp [idsC,idsS],by simp [idsC,idsS]⟩
set_option maxHeartbeats 8000000 in
theorem one_b5 (t w u : ByteArray) (v : Int) (a a0 a1 a2 a3 a4 a5 a6 a7 a8 : Nat) (q q2 : QT)
  (kT : FRetP Tryz.prog 28 (RD t a) [] [.f (.str ⟨#[40]⟩)] (RD t a0) [.c (.v (.bool false))])
  (kN : FRetP Tryz.prog 20 (RD t a0) [] [] (RD t a0) [.c (.v (.str w)),.c (.v (.int .i64 (a0 : Nat)))])
  (kI : FRet Tryz.prog 62 [.f (.fr 1 [[.str ⟨#[97,108,108]⟩],[.str ⟨#[110,101,101,100,115]⟩],[.str ⟨#[117,115,101,114,115]⟩],[.str ⟨#[98,101,116,119,101,101,110]⟩],[.str ⟨#[107,105,110,100]⟩],[.str ⟨#[105,110]⟩]]),.f (.str w)] [.c (.v (.int .i64 3))])
  (kP : FRetP Tryz.prog 42 (RD t a0) [] [] (RD t a1) [])
  (kM1 : FRetP Tryz.prog 61 (RD t a1) [] [.f (.str ⟨#[40]⟩)] (RD t a2) [])
  (kS : FRetP Tryz.prog 19 (RD t a2) [] [] (RD t a5) [.agg [.v (.int .i64 (qK q)),.v (.str (qT q)),.v (.int .i64 (qN q)),.v (.fr 4 (qP q))]])
  (kM3 : FRetP Tryz.prog 61 (RD t a5) [] [.f (.str ⟨#[44]⟩)] (RD t a6) [])
  (kS2 : FRetP Tryz.prog 19 (RD t a6) [] [] (RD t a7) [.agg [.v (.int .i64 (qK q2)),.v (.str (qT q2)),.v (.int .i64 (qN q2)),.v (.fr 4 (qP q2))]])
  (kM4 : FRetP Tryz.prog 61 (RD t a7) [] [.f (.str ⟨#[41]⟩)] (RD t a8) []) :
  FRetP Tryz.prog 41 (RD t a) [] [] (RD t a8) [.agg [.v (.int .i64 5),.v (.str ⟨#[]⟩),.v (.int .i64 0),.own 4 2 [.int .i64 (qK q),.str (qT q),.int .i64 (qN q),.fr 4 (qP q),.int .i64 (qK q2),.str (qT q2),.int .i64 (qN q2),.fr 4 (qP q2)]]] := by
 unfold RD at *
 replace kT := hide kT
 replace kN := hide kN
 replace kI := hide kI
 replace kP := hide kP
 replace kM1 := hide kM1
 replace kS := hide kS
 replace kM3 := hide kM3
 replace kS2 := hide kS2
 replace kM4 := hide kM4
 refine FCall.of_ax low_graph_reader_one ?_
 dsimp only [l_graph_reader_one]
 refine srun_sound 300 _ _ _ _ ?_
 repeat' simp -implicitDefEqProofs only [*,addFp_wr,zr,seval]
 refine gP kT.out 100001 1 [.f (.str t),.f (.int .i64 a)] [] [.f (.str ⟨#[40]⟩)] ?_
 repeat' simp -implicitDefEqProofs only [*,addFp_wr,zr,seval]
 refine gP kN.out 100001 1 [.f (.str t),.f (.int .i64 a0)] [] [] ?_
 repeat' simp -implicitDefEqProofs only [*,addFp_wr,zr,seval]
 refine callG rfl kI.out rfl (fz_words rfl) rfl (by repeat (first|exact free_0 | exact free_mk (by simp) | refine free_upd rfl ?_ | refine free_kill ?_)) ?_
 repeat' simp -implicitDefEqProofs only [*,addFp_wr,zr,seval]
 refine gP kP.out 100001 1 [.f (.str t),.f (.int .i64 a0)] [] [] ?_
 repeat' simp -implicitDefEqProofs only [*,addFp_wr,zr,seval]
 refine gP kM1.out 100001 1 [.f (.str t),.f (.int .i64 a1)] [] [.f (.str ⟨#[40]⟩)] ?_
 repeat' simp -implicitDefEqProofs only [*,addFp_wr,zr,seval]
 refine gDq kS.out 100001 1 [.f (.str t),.f (.int .i64 a2)] [] [] ?_
 repeat' simp -implicitDefEqProofs only [*,addFp_wr,zr,seval]
 refine gP kM3.out 100001 1 [.f (.str t),.f (.int .i64 a5)] [] [.f (.str ⟨#[44]⟩)] ?_
 repeat' simp -implicitDefEqProofs only [*,addFp_wr,zr,seval]
 refine gDq kS2.out 100001 1 [.f (.str t),.f (.int .i64 a6)] [] [] ?_
 repeat' simp -implicitDefEqProofs only [*,addFp_wr,zr,seval]
 refine gP kM4.out 100001 1 [.f (.str t),.f (.int .i64 a7)] [] [.f (.str ⟨#[41]⟩)] ?_
 repeat' simp -implicitDefEqProofs only [*,addFp_wr,zr,seval]
 exact ⟨[.agg [.f _,.f _,.f _,.sl _ _ _ _ _]],[.f (.str t),.f (.int .i64 a8)],rfl,rfl,⟨rfl,rfl,rfl⟩,⟨⟨rfl,rfl,rfl,.inr ⟨_,_,rfl,rfl,by simp⟩,rfl⟩,rfl⟩,by simp [idsC,idsS],by simp [idsC,idsS]⟩
set_option maxHeartbeats 8000000 in
theorem one_h6 (t w u : ByteArray) (v : Int) (a a0 a1 a2 a3 a4 a5 a6 a7 a8 : Nat) (q q2 : QT)
  (kT : FRetP Tryz.prog 28 (RD t a) [] [.f (.str ⟨#[40]⟩)] (RD t a0) [.c (.v (.bool false))])
  (kN : FRetP Tryz.prog 20 (RD t a0) [] [] (RD t a0) [.c (.v (.str w)),.c (.v (.int .i64 (a0 : Nat)))])
  (kI : FRet Tryz.prog 62 [.f (.fr 1 [[.str ⟨#[97,108,108]⟩],[.str ⟨#[110,101,101,100,115]⟩],[.str ⟨#[117,115,101,114,115]⟩],[.str ⟨#[98,101,116,119,101,101,110]⟩],[.str ⟨#[107,105,110,100]⟩],[.str ⟨#[105,110]⟩]]),.f (.str w)] [.c (.v (.int .i64 4))])
  (kP : FRetP Tryz.prog 42 (RD t a0) [] [] (RD t a1) [])
  (kM1 : FRetP Tryz.prog 61 (RD t a1) [] [.f (.str ⟨#[40]⟩)] (RD t a2) [])
  (kH : FRetP Tryz.prog 63 (RD t a2) [] [.f (.fn (.func 38))] (RD t a3) [.c (.v (.str u))])
  (kM2 : FRetP Tryz.prog 61 (RD t a3) [] [.f (.str ⟨#[44]⟩)] (RD t a4) [])
  (kS : FRetP Tryz.prog 19 (RD t a4) [] [] (RD t a5) [.agg [.v (.int .i64 (qK q)),.v (.str (qT q)),.v (.int .i64 (qN q)),.v (.fr 4 (qP q))]])
  (kM4 : FRetP Tryz.prog 61 (RD t a5) [] [.f (.str ⟨#[41]⟩)] (RD t a8) []) :
  FRetP Tryz.prog 41 (RD t a) [] [] (RD t a8) [.agg [.v (.int .i64 6),.v (.str u),.v (.int .i64 0),.own 4 1 [.int .i64 (qK q),.str (qT q),.int .i64 (qN q),.fr 4 (qP q)]]] := by
 unfold RD at *
 replace kT := hide kT
 replace kN := hide kN
 replace kI := hide kI
 replace kP := hide kP
 replace kM1 := hide kM1
 replace kH := hide kH
 replace kM2 := hide kM2
 replace kS := hide kS
 replace kM4 := hide kM4
 refine FCall.of_ax low_graph_reader_one ?_
 dsimp only [l_graph_reader_one]
 refine srun_sound 300 _ _ _ _ ?_
 repeat' simp -implicitDefEqProofs only [*,addFp_wr,zr,seval]
 refine gP kT.out 100001 1 [.f (.str t),.f (.int .i64 a)] [] [.f (.str ⟨#[40]⟩)] ?_
 repeat' simp -implicitDefEqProofs only [*,addFp_wr,zr,seval]
 refine gP kN.out 100001 1 [.f (.str t),.f (.int .i64 a0)] [] [] ?_
 repeat' simp -implicitDefEqProofs only [*,addFp_wr,zr,seval]
 refine callG rfl kI.out rfl (fz_words rfl) rfl (by repeat (first|exact free_0 | exact free_mk (by simp) | refine free_upd rfl ?_ | refine free_kill ?_)) ?_
 repeat' simp -implicitDefEqProofs only [*,addFp_wr,zr,seval]
 refine gP kP.out 100001 1 [.f (.str t),.f (.int .i64 a0)] [] [] ?_
 repeat' simp -implicitDefEqProofs only [*,addFp_wr,zr,seval]
 refine gP kM1.out 100001 1 [.f (.str t),.f (.int .i64 a1)] [] [.f (.str ⟨#[40]⟩)] ?_
 repeat' simp -implicitDefEqProofs only [*,addFp_wr,zr,seval]
 refine gP kH.out 100001 1 [.f (.str t),.f (.int .i64 a2)] [] [.f (.fn (.func 38))] ?_
 repeat' simp -implicitDefEqProofs only [*,addFp_wr,zr,seval]
 refine gP kM2.out 100001 1 [.f (.str t),.f (.int .i64 a3)] [] [.f (.str ⟨#[44]⟩)] ?_
 repeat' simp -implicitDefEqProofs only [*,addFp_wr,zr,seval]
 refine gDq kS.out 100001 1 [.f (.str t),.f (.int .i64 a4)] [] [] ?_
 repeat' simp -implicitDefEqProofs only [*,addFp_wr,zr,seval]
 refine gP kM4.out 100001 1 [.f (.str t),.f (.int .i64 a5)] [] [.f (.str ⟨#[41]⟩)] ?_
 repeat' simp -implicitDefEqProofs only [*,addFp_wr,zr,seval]
 exact ⟨[.agg [.f _,.f _,.f _,.sl _ _ _ _ _]],[.f (.str t),.f (.int .i64 a8)],rfl,rfl,⟨rfl,rfl,rfl⟩,⟨⟨rfl,rfl,rfl,.inr ⟨_,_,rfl,rfl,by simp⟩,rfl⟩,rfl⟩,by simp [idsC,idsS],by simp [idsC,idsS]⟩
set_option maxHeartbeats 8000000 in
theorem one_h7 (t w u : ByteArray) (v : Int) (a a0 a1 a2 a3 a4 a5 a6 a7 a8 : Nat) (q q2 : QT)
  (kT : FRetP Tryz.prog 28 (RD t a) [] [.f (.str ⟨#[40]⟩)] (RD t a0) [.c (.v (.bool false))])
  (kN : FRetP Tryz.prog 20 (RD t a0) [] [] (RD t a0) [.c (.v (.str w)),.c (.v (.int .i64 (a0 : Nat)))])
  (kI : FRet Tryz.prog 62 [.f (.fr 1 [[.str ⟨#[97,108,108]⟩],[.str ⟨#[110,101,101,100,115]⟩],[.str ⟨#[117,115,101,114,115]⟩],[.str ⟨#[98,101,116,119,101,101,110]⟩],[.str ⟨#[107,105,110,100]⟩],[.str ⟨#[105,110]⟩]]),.f (.str w)] [.c (.v (.int .i64 5))])
  (kP : FRetP Tryz.prog 42 (RD t a0) [] [] (RD t a1) [])
  (kM1 : FRetP Tryz.prog 61 (RD t a1) [] [.f (.str ⟨#[40]⟩)] (RD t a2) [])
  (kH : FRetP Tryz.prog 63 (RD t a2) [] [.f (.fn (.func 39))] (RD t a3) [.c (.v (.str u))])
  (kM2 : FRetP Tryz.prog 61 (RD t a3) [] [.f (.str ⟨#[44]⟩)] (RD t a4) [])
  (kS : FRetP Tryz.prog 19 (RD t a4) [] [] (RD t a5) [.agg [.v (.int .i64 (qK q)),.v (.str (qT q)),.v (.int .i64 (qN q)),.v (.fr 4 (qP q))]])
  (kM4 : FRetP Tryz.prog 61 (RD t a5) [] [.f (.str ⟨#[41]⟩)] (RD t a8) []) :
  FRetP Tryz.prog 41 (RD t a) [] [] (RD t a8) [.agg [.v (.int .i64 7),.v (.str u),.v (.int .i64 0),.own 4 1 [.int .i64 (qK q),.str (qT q),.int .i64 (qN q),.fr 4 (qP q)]]] := by
 unfold RD at *
 replace kT := hide kT
 replace kN := hide kN
 replace kI := hide kI
 replace kP := hide kP
 replace kM1 := hide kM1
 replace kH := hide kH
 replace kM2 := hide kM2
 replace kS := hide kS
 replace kM4 := hide kM4
 refine FCall.of_ax low_graph_reader_one ?_
 dsimp only [l_graph_reader_one]
 refine srun_sound 300 _ _ _ _ ?_
 repeat' simp -implicitDefEqProofs only [*,addFp_wr,zr,seval]
 refine gP kT.out 100001 1 [.f (.str t),.f (.int .i64 a)] [] [.f (.str ⟨#[40]⟩)] ?_
 repeat' simp -implicitDefEqProofs only [*,addFp_wr,zr,seval]
 refine gP kN.out 100001 1 [.f (.str t),.f (.int .i64 a0)] [] [] ?_
 repeat' simp -implicitDefEqProofs only [*,addFp_wr,zr,seval]
 refine callG rfl kI.out rfl (fz_words rfl) rfl (by repeat (first|exact free_0 | exact free_mk (by simp) | refine free_upd rfl ?_ | refine free_kill ?_)) ?_
 repeat' simp -implicitDefEqProofs only [*,addFp_wr,zr,seval]
 refine gP kP.out 100001 1 [.f (.str t),.f (.int .i64 a0)] [] [] ?_
 repeat' simp -implicitDefEqProofs only [*,addFp_wr,zr,seval]
 refine gP kM1.out 100001 1 [.f (.str t),.f (.int .i64 a1)] [] [.f (.str ⟨#[40]⟩)] ?_
 repeat' simp -implicitDefEqProofs only [*,addFp_wr,zr,seval]
 refine gP kH.out 100001 1 [.f (.str t),.f (.int .i64 a2)] [] [.f (.fn (.func 39))] ?_
 repeat' simp -implicitDefEqProofs only [*,addFp_wr,zr,seval]
 refine gP kM2.out 100001 1 [.f (.str t),.f (.int .i64 a3)] [] [.f (.str ⟨#[44]⟩)] ?_
 repeat' simp -implicitDefEqProofs only [*,addFp_wr,zr,seval]
 refine gDq kS.out 100001 1 [.f (.str t),.f (.int .i64 a4)] [] [] ?_
 repeat' simp -implicitDefEqProofs only [*,addFp_wr,zr,seval]
 refine gP kM4.out 100001 1 [.f (.str t),.f (.int .i64 a5)] [] [.f (.str ⟨#[41]⟩)] ?_
 repeat' simp -implicitDefEqProofs only [*,addFp_wr,zr,seval]
 exact ⟨[.agg [.f _,.f _,.f _,.sl _ _ _ _ _]],[.f (.str t),.f (.int .i64 a8)],rfl,rfl,⟨rfl,rfl,rfl⟩,⟨⟨rfl,rfl,rfl,.inr ⟨_,_,rfl,rfl,by simp⟩,rfl⟩,rfl⟩,by simp [idsC,idsS],by simp [idsC,idsS]⟩
end Go.Proofs.YtagkdifaldikgaaGreatDoor
