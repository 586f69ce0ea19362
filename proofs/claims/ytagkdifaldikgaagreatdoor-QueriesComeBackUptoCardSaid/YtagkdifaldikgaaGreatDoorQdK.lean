/-
  The reader where something is wrong: put together. No statement of the seat is proved here; no conditions.
-/
import Derived.Test.YtagkdifaldikgaaGreatDoorQdJ
namespace Go.Proofs.YtagkdifaldikgaaGreatDoor
open Go.RowKit Go.Shelf
set_option linter.unusedVariables false
set_option linter.unusedSimpArgs false
set_option maxRecDepth 100000

theorem brk_sum_p {t : ByteArray} {a a1 : Nat} (kT : FRetP Tryz.prog 28 (RD t a) [] [.f (.str ⟨#[40]⟩)] (RD t a1) [.c (.v (.bool true))]) (kX : FPanP Tryz.prog 19 (RD t a1) [] [] IsW) :
  FPanP Tryz.prog 41 (RD t a) [] [] IsW := by
 unfold RD at *
 replace kT := hide kT
 replace kX := hide kX
 refine PCall.of_ax low_graph_reader_one ?_
 dsimp only [l_graph_reader_one]
 refine srun_sound 300 _ _ _ _ ?_
 repeat' (first
  | (simp -implicitDefEqProofs only [*,addFp_wr,zr,Nat.reduceAdd,Nat.reduceSub,Nat.reduceMul,Nat.reduceLT,Nat.reduceLeDiff,Nat.reduceEqDiff,Nat.reduceBEq,reduceIte,reduceCtorEq,Int.reduceLE,Int.reduceLT,Int.reduceToNat,Int.reduceEq,Int.reduceNe])
  | ((first|apply zk0|apply zk1|apply zk2|apply zk3|apply zk4|apply zk5|apply zk6|apply zk7|apply zk8|apply zk9) <;> intro hc)
  |(refine callP0 rfl ?_)
  |(refine callD0 rfl ?_)
  | fail)
 refine gP kT.out 100001 1 [.f (.str t),.f (.int .i64 a)] [] [.f (.str ⟨#[40]⟩)] ?_
 repeat' (first
  | (simp -implicitDefEqProofs only [*,addFp_wr,zr,Nat.reduceAdd,Nat.reduceSub,Nat.reduceMul,Nat.reduceLT,Nat.reduceLeDiff,Nat.reduceEqDiff,Nat.reduceBEq,reduceIte,reduceCtorEq,Int.reduceLE,Int.reduceLT,Int.reduceToNat,Int.reduceEq,Int.reduceNe])
  | ((first|apply zk0|apply zk1|apply zk2|apply zk3|apply zk4|apply zk5|apply zk6|apply zk7|apply zk8|apply zk9) <;> intro hc)
  |(refine callP0 rfl ?_)
  |(refine callD0 rfl ?_)
  | fail)
 exact gPan kX.out 100001 1 [.f (.str t),.f (.int .i64 a1)] [] []
theorem brk_end_p {t : ByteArray} {a a1 b : Nat} {q : QT} (kT : FRetP Tryz.prog 28 (RD t a) [] [.f (.str ⟨#[40]⟩)] (RD t a1) [.c (.v (.bool true))]) (kS : FRetP Tryz.prog 19 (RD t a1) [] [] (RD t b) [.agg [.v (.int .i64 (qK q)),.v (.str (qT q)),.v (.int .i64 (qN q)),.v (.fr 4 (qP q))]])
  (kX : FPanP Tryz.prog 61 (RD t b) [] [.f (.str ⟨#[41]⟩)] IsW) : FPanP Tryz.prog 41 (RD t a) [] [] IsW := by
 unfold RD at *
 replace kT := hide kT
 replace kS := hide kS
 replace kX := hide kX
 refine PCall.of_ax low_graph_reader_one ?_
 dsimp only [l_graph_reader_one]
 refine srun_sound 300 _ _ _ _ ?_
 repeat' (first
  | (simp -implicitDefEqProofs only [*,addFp_wr,zr,Nat.reduceAdd,Nat.reduceSub,Nat.reduceMul,Nat.reduceLT,Nat.reduceLeDiff,Nat.reduceEqDiff,Nat.reduceBEq,reduceIte,reduceCtorEq,Int.reduceLE,Int.reduceLT,Int.reduceToNat,Int.reduceEq,Int.reduceNe])
  | ((first|apply zk0|apply zk1|apply zk2|apply zk3|apply zk4|apply zk5|apply zk6|apply zk7|apply zk8|apply zk9) <;> intro hc)
  |(refine callP0 rfl ?_)
  |(refine callD0 rfl ?_)
  | fail)
 refine gP kT.out 100001 1 [.f (.str t),.f (.int .i64 a)] [] [.f (.str ⟨#[40]⟩)] ?_
 repeat' (first
  | (simp -implicitDefEqProofs only [*,addFp_wr,zr,Nat.reduceAdd,Nat.reduceSub,Nat.reduceMul,Nat.reduceLT,Nat.reduceLeDiff,Nat.reduceEqDiff,Nat.reduceBEq,reduceIte,reduceCtorEq,Int.reduceLE,Int.reduceLT,Int.reduceToNat,Int.reduceEq,Int.reduceNe])
  | ((first|apply zk0|apply zk1|apply zk2|apply zk3|apply zk4|apply zk5|apply zk6|apply zk7|apply zk8|apply zk9) <;> intro hc)
  |(refine callP0 rfl ?_)
  |(refine callD0 rfl ?_)
  | fail)
 refine gP kS.out 100001 1 [.f (.str t),.f (.int .i64 a1)] [] [] ?_
 repeat' (first
  | (simp -implicitDefEqProofs only [*,addFp_wr,zr,Nat.reduceAdd,Nat.reduceSub,Nat.reduceMul,Nat.reduceLT,Nat.reduceLeDiff,Nat.reduceEqDiff,Nat.reduceBEq,reduceIte,reduceCtorEq,Int.reduceLE,Int.reduceLT,Int.reduceToNat,Int.reduceEq,Int.reduceNe])
  | ((first|apply zk0|apply zk1|apply zk2|apply zk3|apply zk4|apply zk5|apply zk6|apply zk7|apply zk8|apply zk9) <;> intro hc)
  |(refine callP0 rfl ?_)
  |(refine callD0 rfl ?_)
  | fail)
 exact gPan kX.out 100001 1 [.f (.str t),.f (.int .i64 b)] [] [.f (.str ⟨#[41]⟩)]
theorem kMustX {t : ByteArray} (ht : (t.size : Int) ≤ 140737488355328) {a : Nat} (ha : a ≤ t.size) {c : UInt8} (h : ¬ wrd (t.data.toList.drop a) = [c]) : FPanP Tryz.prog 61 (RD t a) [] [.f (.str ⟨#[c]⟩)] IsW :=
 must_p t ⟨#[c]⟩ a ha ht fun e => h ((nx_sign t a ⟨#[c]⟩).1 e)
theorem no_t {b : Bool} (h : ¬ b = true) : b = false := by cases b <;> simp_all
set_option maxHeartbeats 4000000 in
theorem oneP3 (t : ByteArray) (ht : (t.size : Int) ≤ 140737488355328) (n : Nat) (ih : PdC t n) (a : Nat) (ha : a ≤ t.size) (hbd : 3 * (t.size - a) + 1 ≤ n + 1) (hw : ¬ wrd (t.data.toList.drop a) = [40]) (hK : kindW (wrd (t.data.toList.drop a)) = 3)
  (h : oneW (pq n) (t.data.toList.drop a) = none) : FPanP Tryz.prog 41 (RD t a) [] [] IsW := by
 have hWL := nxW_wrd t a
 have kT := kTakeN ht ha hw
 have kN := kNext ht ha
 have kP := kPass ht ha
 have kI := index_q (nxW t a) (i := 1) (by rw [ix_kind,hWL,hK];rfl)
 have ha1 := (nxP_le t a ha).2
 have hle : a ≤ nxP t a := Nat.le_trans (Nat.le_add_right a _) (nxP_le t a ha).1
 unfold oneW at h
 rw [if_neg hw,hK,if_neg (by decide),if_neg (by decide),← drop_nx] at h
 by_cases h2 : wrd (t.data.toList.drop (nxP t a)) = [40]
 ·rw [if_pos h2,← drop_nx] at h
  have kM1 := kMust ht ha1 h2
  have ha2 := (nxP_le t _ ha1).2
  have hlt := nxP_lt t _ ha1 h2
  rw [head_no (by decide) (by decide)] at h
  simp only [Option.bind_some] at h
  cases e2 : pq n .sum (t.data.toList.drop (nxP t (nxP t a))) with
  | none => exact sum_p3 (v := 0) kT kN kI kP kM1 (ih.sum _ ha2 (by omega) e2)
  | some x =>
   obtain ⟨q,l3⟩ := x
   rw [e2] at h
   obtain ⟨d,hd,_,rfl⟩ := suf_at ha2 (pq_suf n _ _ _ _ e2)
   have kS := (rdc t ht n).sum _ ha2 d hd q e2
   rw [rcQ_eq] at kS
   simp only [Option.bind_some] at h
   unfold tailW at h
   rw [if_neg (by decide),if_pos (by decide)] at h
   by_cases h7 : wrd (t.data.toList.drop d) = [44]
   ·rw [if_pos h7,← drop_nx] at h
    have hd1 := (nxP_le t d hd).2
    have kF := isNumber_f (nxW t (nxP t d)) (by have := nxW_sz hd1;omega)
    by_cases h8 : numW (wrd (t.data.toList.drop (nxP t d))) = true
    ·rw [if_pos h8,← drop_nx] at h
     simp only [Option.bind_some] at h
     rw [← nxW_wrd] at h8
     rw [h8] at kF
     by_cases h9 : wrd (t.data.toList.drop (nxP t (nxP t d))) = [41]
     ·rw [if_pos h9] at h;cases h
     ·exact end_p3 kT kN kI kP kM1 kS (kTake ht hd h7) (some_f t _ 65 hd1 ht kF) (atoi_w h8) (kMustX ht (nxP_le t _ hd1).2 h9)
    ·rw [← nxW_wrd] at h8
     rw [no_t h8] at kF
     exact num_p3 (v := 0) kT kN kI kP kM1 kS (kTake ht hd h7) (some_p t _ 65 hd1 ht kF)
   ·rw [if_neg h7,← drop_sp] at h
    simp only [Option.bind_some] at h
    by_cases h9 : wrd (t.data.toList.drop (spN t d)) = [41]
    ·rw [if_pos h9] at h;cases h
    ·exact endN_p3 (v := 0) kT kN kI kP kM1 kS (kTakeN ht hd h7) (kMustX ht (spN_le t d hd) h9)
 ·exact paren_p3 (v := 0) kT kN kI kP (kMustX ht ha1 h2)
set_option maxHeartbeats 4000000 in
theorem oneP4 (t : ByteArray) (ht : (t.size : Int) ≤ 140737488355328) (n : Nat) (ih : PdC t n) (a : Nat) (ha : a ≤ t.size) (hbd : 3 * (t.size - a) + 1 ≤ n + 1) (hw : ¬ wrd (t.data.toList.drop a) = [40]) (hK : kindW (wrd (t.data.toList.drop a)) = 4)
  (h : oneW (pq n) (t.data.toList.drop a) = none) : FPanP Tryz.prog 41 (RD t a) [] [] IsW := by
 have hWL := nxW_wrd t a
 have kT := kTakeN ht ha hw
 have kN := kNext ht ha
 have kP := kPass ht ha
 have kI := index_q (nxW t a) (i := 2) (by rw [ix_kind,hWL,hK];rfl)
 have ha1 := (nxP_le t a ha).2
 have hle : a ≤ nxP t a := Nat.le_trans (Nat.le_add_right a _) (nxP_le t a ha).1
 unfold oneW at h
 rw [if_neg hw,hK,if_neg (by decide),if_neg (by decide),← drop_nx] at h
 by_cases h2 : wrd (t.data.toList.drop (nxP t a)) = [40]
 ·rw [if_pos h2,← drop_nx] at h
  have kM1 := kMust ht ha1 h2
  have ha2 := (nxP_le t _ ha1).2
  have hlt := nxP_lt t _ ha1 h2
  rw [head_no (by decide) (by decide)] at h
  simp only [Option.bind_some] at h
  cases e2 : pq n .sum (t.data.toList.drop (nxP t (nxP t a))) with
  | none => exact sum_p4 (v := 0) kT kN kI kP kM1 (ih.sum _ ha2 (by omega) e2)
  | some x =>
   obtain ⟨q,l3⟩ := x
   rw [e2] at h
   obtain ⟨d,hd,_,rfl⟩ := suf_at ha2 (pq_suf n _ _ _ _ e2)
   have kS := (rdc t ht n).sum _ ha2 d hd q e2
   rw [rcQ_eq] at kS
   simp only [Option.bind_some] at h
   unfold tailW at h
   rw [if_neg (by decide),if_pos (by decide)] at h
   by_cases h7 : wrd (t.data.toList.drop d) = [44]
   ·rw [if_pos h7,← drop_nx] at h
    have hd1 := (nxP_le t d hd).2
    have kF := isNumber_f (nxW t (nxP t d)) (by have := nxW_sz hd1;omega)
    by_cases h8 : numW (wrd (t.data.toList.drop (nxP t d))) = true
    ·rw [if_pos h8,← drop_nx] at h
     simp only [Option.bind_some] at h
     rw [← nxW_wrd] at h8
     rw [h8] at kF
     by_cases h9 : wrd (t.data.toList.drop (nxP t (nxP t d))) = [41]
     ·rw [if_pos h9] at h;cases h
     ·exact end_p4 kT kN kI kP kM1 kS (kTake ht hd h7) (some_f t _ 65 hd1 ht kF) (atoi_w h8) (kMustX ht (nxP_le t _ hd1).2 h9)
    ·rw [← nxW_wrd] at h8
     rw [no_t h8] at kF
     exact num_p4 (v := 0) kT kN kI kP kM1 kS (kTake ht hd h7) (some_p t _ 65 hd1 ht kF)
   ·rw [if_neg h7,← drop_sp] at h
    simp only [Option.bind_some] at h
    by_cases h9 : wrd (t.data.toList.drop (spN t d)) = [41]
    ·rw [if_pos h9] at h;cases h
    ·exact endN_p4 (v := 0) kT kN kI kP kM1 kS (kTakeN ht hd h7) (kMustX ht (spN_le t d hd) h9)
 ·exact paren_p4 (v := 0) kT kN kI kP (kMustX ht ha1 h2)
set_option maxHeartbeats 4000000 in
theorem oneP5 (t : ByteArray) (ht : (t.size : Int) ≤ 140737488355328) (n : Nat) (ih : PdC t n) (a : Nat) (ha : a ≤ t.size) (hbd : 3 * (t.size - a) + 1 ≤ n + 1) (hw : ¬ wrd (t.data.toList.drop a) = [40]) (hK : kindW (wrd (t.data.toList.drop a)) = 5)
  (h : oneW (pq n) (t.data.toList.drop a) = none) : FPanP Tryz.prog 41 (RD t a) [] [] IsW := by
 have hWL := nxW_wrd t a
 have kT := kTakeN ht ha hw
 have kN := kNext ht ha
 have kP := kPass ht ha
 have kI := index_q (nxW t a) (i := 3) (by rw [ix_kind,hWL,hK];rfl)
 have ha1 := (nxP_le t a ha).2
 have hle : a ≤ nxP t a := Nat.le_trans (Nat.le_add_right a _) (nxP_le t a ha).1
 unfold oneW at h
 rw [if_neg hw,hK,if_neg (by decide),if_neg (by decide),← drop_nx] at h
 by_cases h2 : wrd (t.data.toList.drop (nxP t a)) = [40]
 ·rw [if_pos h2,← drop_nx] at h
  have kM1 := kMust ht ha1 h2
  have ha2 := (nxP_le t _ ha1).2
  have hlt := nxP_lt t _ ha1 h2
  rw [head_no (by decide) (by decide)] at h
  simp only [Option.bind_some] at h
  cases e2 : pq n .sum (t.data.toList.drop (nxP t (nxP t a))) with
  | none => exact sum_p5 (v := 0) kT kN kI kP kM1 (ih.sum _ ha2 (by omega) e2)
  | some x =>
   obtain ⟨q,l3⟩ := x
   rw [e2] at h
   obtain ⟨d,hd,_,rfl⟩ := suf_at ha2 (pq_suf n _ _ _ _ e2)
   have kS := (rdc t ht n).sum _ ha2 d hd q e2
   rw [rcQ_eq] at kS
   simp only [Option.bind_some] at h
   unfold tailW at h
   rw [if_pos rfl] at h
   by_cases h7 : wrd (t.data.toList.drop d) = [44]
   ·rw [if_pos h7,← drop_nx] at h
    have hd1 := (nxP_le t d hd).2
    have hdl := nxP_lt t d hd h7
    cases e4 : pq n .sum (t.data.toList.drop (nxP t d)) with
    | none => exact bsum_p (v := 0) kT kN kI kP kM1 kS (kMust ht hd h7) (ih.sum _ hd1 (by omega) e4)
    | some y =>
     obtain ⟨q2,l6⟩ := y
     rw [e4] at h
     obtain ⟨e,he,_,rfl⟩ := suf_at hd1 (pq_suf n _ _ _ _ e4)
     have kS2 := (rdc t ht n).sum _ hd1 e he q2 e4
     rw [rcQ_eq] at kS2
     simp only [Option.bind_some] at h
     by_cases h9 : wrd (t.data.toList.drop e) = [41]
     ·rw [if_pos h9] at h;cases h
     ·exact end_p5 (v := 0) kT kN kI kP kM1 kS (kMust ht hd h7) kS2 (kMustX ht he h9)
   ·exact bcomma_p (v := 0) kT kN kI kP kM1 kS (kMustX ht hd h7)
 ·exact paren_p5 (v := 0) kT kN kI kP (kMustX ht ha1 h2)
set_option maxHeartbeats 4000000 in
theorem oneP6 (t : ByteArray) (ht : (t.size : Int) ≤ 140737488355328) (n : Nat) (ih : PdC t n) (a : Nat) (ha : a ≤ t.size) (hbd : 3 * (t.size - a) + 1 ≤ n + 1) (hw : ¬ wrd (t.data.toList.drop a) = [40]) (hK : kindW (wrd (t.data.toList.drop a)) = 6)
  (h : oneW (pq n) (t.data.toList.drop a) = none) : FPanP Tryz.prog 41 (RD t a) [] [] IsW := by
 have hWL := nxW_wrd t a
 have kT := kTakeN ht ha hw
 have kN := kNext ht ha
 have kP := kPass ht ha
 have kI := index_q (nxW t a) (i := 4) (by rw [ix_kind,hWL,hK];rfl)
 have ha1 := (nxP_le t a ha).2
 have hle : a ≤ nxP t a := Nat.le_trans (Nat.le_add_right a _) (nxP_le t a ha).1
 unfold oneW at h
 rw [if_neg hw,hK,if_neg (by decide),if_neg (by decide),← drop_nx] at h
 by_cases h2 : wrd (t.data.toList.drop (nxP t a)) = [40]
 ·rw [if_pos h2,← drop_nx] at h
  have kM1 := kMust ht ha1 h2
  have ha2 := (nxP_le t _ ha1).2
  have hlt := nxP_lt t _ ha1 h2
  have kF := isName_f (nxW t (nxP t (nxP t a)))
  rw [nxW_toB] at kF
  have ha3 := (nxP_le t _ ha2).2
  unfold headW at h
  rw [if_pos rfl] at h
  by_cases h3 : ¬ isNameV (toB (wrd (t.data.toList.drop (nxP t (nxP t a))))) = true
  ·rw [if_neg (fun e => h3 e.1)] at h
   rw [no_t h3,← nxW_toB] at kF
   exact hname_p6 (v := 0) kT kN kI kP kM1 (some_p t _ 38 ha2 ht kF)
  replace h3 := Decidable.not_not.1 h3
  rw [h3,← nxW_toB] at kF
  have kH := some_f t _ 38 ha2 ht kF
  by_cases h4 : ¬ wrd (rst (t.data.toList.drop (nxP t (nxP t a)))) = [44]
  ·rw [if_neg (fun e => h4 e.2)] at h
   rw [← drop_nx] at h4
   exact hcomma_p6 (v := 0) kT kN kI kP kM1 kH (kMustX ht ha3 h4)
  replace h4 := Decidable.not_not.1 h4
  rw [if_pos ⟨h3,h4⟩,← drop_nx,← drop_nx] at h
  rw [← drop_nx] at h4
  have kM2 := kMust ht ha3 h4
  have ha4 := (nxP_le t _ ha3).2
  have hl3 := (nxP_le t _ ha2).1
  have hl4 := (nxP_le t _ ha3).1
  have hl5 : nxP t (nxP t a) ≤ spN t (nxP t (nxP t a)) := Nat.le_add_right _ _
  have hl6 : nxP t (nxP t (nxP t a)) ≤ spN t (nxP t (nxP t (nxP t a))) := Nat.le_add_right _ _
  simp only [Option.bind_some] at h
  cases e2 : pq n .sum (t.data.toList.drop (nxP t (nxP t (nxP t (nxP t a))))) with
  | none => exact sum_p6 (v := 0) kT kN kI kP kM1 kH kM2 (ih.sum _ ha4 (by omega) e2)
  | some x =>
   obtain ⟨q,l3⟩ := x
   rw [e2] at h
   obtain ⟨d,hd,_,rfl⟩ := suf_at ha4 (pq_suf n _ _ _ _ e2)
   have kS := (rdc t ht n).sum _ ha4 d hd q e2
   rw [rcQ_eq] at kS
   simp only [Option.bind_some] at h
   rw [tail_no (by decide) (by decide) (by decide)] at h
   simp only [Option.bind_some] at h
   by_cases h9 : wrd (t.data.toList.drop d) = [41]
   ·rw [if_pos h9] at h;cases h
   ·exact end_p6 (v := 0) kT kN kI kP kM1 kH kM2 kS (kMustX ht hd h9)
 ·exact paren_p6 (v := 0) kT kN kI kP (kMustX ht ha1 h2)
set_option maxHeartbeats 4000000 in
theorem oneP7 (t : ByteArray) (ht : (t.size : Int) ≤ 140737488355328) (n : Nat) (ih : PdC t n) (a : Nat) (ha : a ≤ t.size) (hbd : 3 * (t.size - a) + 1 ≤ n + 1) (hw : ¬ wrd (t.data.toList.drop a) = [40]) (hK : kindW (wrd (t.data.toList.drop a)) = 7)
  (h : oneW (pq n) (t.data.toList.drop a) = none) : FPanP Tryz.prog 41 (RD t a) [] [] IsW := by
 have hWL := nxW_wrd t a
 have kT := kTakeN ht ha hw
 have kN := kNext ht ha
 have kP := kPass ht ha
 have kI := index_q (nxW t a) (i := 5) (by rw [ix_kind,hWL,hK];rfl)
 have ha1 := (nxP_le t a ha).2
 have hle : a ≤ nxP t a := Nat.le_trans (Nat.le_add_right a _) (nxP_le t a ha).1
 unfold oneW at h
 rw [if_neg hw,hK,if_neg (by decide),if_neg (by decide),← drop_nx] at h
 by_cases h2 : wrd (t.data.toList.drop (nxP t a)) = [40]
 ·rw [if_pos h2,← drop_nx] at h
  have kM1 := kMust ht ha1 h2
  have ha2 := (nxP_le t _ ha1).2
  have hlt := nxP_lt t _ ha1 h2
  have kF := isPat_f (nxW t (nxP t (nxP t a))) (by have := nxW_sz ha2;omega)
  rw [nxW_toB] at kF
  have ha3 := (nxP_le t _ ha2).2
  unfold headW at h
  rw [if_neg (by decide),if_pos rfl] at h
  by_cases h3 : ¬ isPatV (toB (wrd (t.data.toList.drop (nxP t (nxP t a))))) = true
  ·rw [if_neg (fun e => h3 e.1)] at h
   rw [no_t h3,← nxW_toB] at kF
   exact hname_p7 (v := 0) kT kN kI kP kM1 (some_p t _ 39 ha2 ht kF)
  replace h3 := Decidable.not_not.1 h3
  rw [h3,← nxW_toB] at kF
  have kH := some_f t _ 39 ha2 ht kF
  by_cases h4 : ¬ wrd (rst (t.data.toList.drop (nxP t (nxP t a)))) = [44]
  ·rw [if_neg (fun e => h4 e.2)] at h
   rw [← drop_nx] at h4
   exact hcomma_p7 (v := 0) kT kN kI kP kM1 kH (kMustX ht ha3 h4)
  replace h4 := Decidable.not_not.1 h4
  rw [if_pos ⟨h3,h4⟩,← drop_nx,← drop_nx] at h
  rw [← drop_nx] at h4
  have kM2 := kMust ht ha3 h4
  have ha4 := (nxP_le t _ ha3).2
  have hl3 := (nxP_le t _ ha2).1
  have hl4 := (nxP_le t _ ha3).1
  have hl5 : nxP t (nxP t a) ≤ spN t (nxP t (nxP t a)) := Nat.le_add_right _ _
  have hl6 : nxP t (nxP t (nxP t a)) ≤ spN t (nxP t (nxP t (nxP t a))) := Nat.le_add_right _ _
  simp only [Option.bind_some] at h
  cases e2 : pq n .sum (t.data.toList.drop (nxP t (nxP t (nxP t (nxP t a))))) with
  | none => exact sum_p7 (v := 0) kT kN kI kP kM1 kH kM2 (ih.sum _ ha4 (by omega) e2)
  | some x =>
   obtain ⟨q,l3⟩ := x
   rw [e2] at h
   obtain ⟨d,hd,_,rfl⟩ := suf_at ha4 (pq_suf n _ _ _ _ e2)
   have kS := (rdc t ht n).sum _ ha4 d hd q e2
   rw [rcQ_eq] at kS
   simp only [Option.bind_some] at h
   rw [tail_no (by decide) (by decide) (by decide)] at h
   simp only [Option.bind_some] at h
   by_cases h9 : wrd (t.data.toList.drop d) = [41]
   ·rw [if_pos h9] at h;cases h
   ·exact end_p7 (v := 0) kT kN kI kP kM1 kH kM2 kS (kMustX ht hd h9)
 ·exact paren_p7 (v := 0) kT kN kI kP (kMustX ht ha1 h2)
theorem one_p (t : ByteArray) (ht : (t.size : Int) ≤ 140737488355328) (n : Nat) (ih : PdC t n) : PdF t (n + 1) 1 .one 41 := by
 intro a ha hbd h
 replace h : oneW (pq n) (t.data.toList.drop a) = none := h
 by_cases hw : wrd (t.data.toList.drop a) = [40]
 ·unfold oneW at h
  rw [if_pos hw,← drop_nx] at h
  have ha1 := (nxP_le t a ha).2
  have hlt := nxP_lt t a ha hw
  cases h1 : pq n .sum (t.data.toList.drop (nxP t a)) with
  | none => exact brk_sum_p (kTake ht ha hw) (ih.sum _ ha1 (by omega) h1)
  | some x =>
   obtain ⟨q,l1⟩ := x
   rw [h1] at h
   obtain ⟨c,hc,_,rfl⟩ := suf_at ha1 (pq_suf n _ _ _ _ h1)
   have kS := (rdc t ht n).sum _ ha1 c hc q h1
   rw [rcQ_eq] at kS
   simp only [Option.bind_some] at h
   by_cases h3 : wrd (t.data.toList.drop c) = [41]
   ·rw [if_pos h3] at h;cases h
   ·exact brk_end_p (kTake ht ha hw) kS (kMustX ht hc h3)
 rcases kindW_vals (wrd (t.data.toList.drop a)) with hK | hK | hK | hK | hK | hK | hK
 ·unfold oneW at h
  rw [if_neg hw,hK,if_pos rfl] at h
  by_cases h1 : isWholeV (toB (wrd (t.data.toList.drop a))) = true
  ·rw [if_pos h1] at h;cases h
  ·have h0 := spN_le t a ha
   have kF := isWhole_f (nxW t a) (by have := nxW_sz ha;omega)
   rw [nxW_toB,no_t h1,← nxW_toB] at kF
   have hWL := nxW_wrd t a
   exact lab_p (v := 0) (kTakeN ht ha hw) (kNext ht ha) (index_q (nxW t a) (i := -1) (by rw [ix_kind,hWL,hK];rfl)) (some_p t (spN t a) 37 h0 ht (by rw [nxW_sp];exact kF))
 ·unfold oneW at h
  rw [if_neg hw,hK,if_neg (by decide),if_pos rfl] at h
  cases h
 ·exact oneP3 t ht n ih a ha hbd hw hK h
 ·exact oneP4 t ht n ih a ha hbd hw hK h
 ·exact oneP5 t ht n ih a ha hbd hw hK h
 ·exact oneP6 t ht n ih a ha hbd hw hK h
 ·exact oneP7 t ht n ih a ha hbd hw hK h
theorem pdc (t : ByteArray) (ht : (t.size : Int) ≤ 140737488355328) : ∀ n,PdC t n := fun n => by
 induction n using Nat.strongRecOn with
 | _ n ih =>
  cases n with
  | zero => exact ⟨fun a _ h _ => (by omega),fun a _ h _ => (by omega),fun a _ h _ => (by omega)⟩
  | succ n =>
   have hn : ∀ m ≤ n,PdC t m := fun m hm => ih m (by omega)
   exact ⟨one_p t ht n (hn n (Nat.le_refl n)),both_p t ht n hn,sum_p t ht n hn⟩
end Go.Proofs.YtagkdifaldikgaaGreatDoor
