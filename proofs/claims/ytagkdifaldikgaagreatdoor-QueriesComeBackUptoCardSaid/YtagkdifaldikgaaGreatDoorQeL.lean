/-
  The law QueriesComeBack on the machine. No statement of the seat is proved here; no conditions.
-/
import Derived.Test.YtagkdifaldikgaaGreatDoorGrI
namespace Go.Proofs.YtagkdifaldikgaaGreatDoor
open Go.RowKit Go.Shelf
set_option linter.unusedVariables false
set_option linter.unusedSimpArgs false
set_option maxRecDepth 100000

theorem qtV_cases (q : QT) : (qtV q).2 = 0 ∧ ckTop q = 0 ∧ (txQ q).length ≤ 2000 ∧ (qtV q).1 = txB q ∨ (qtV q).2 ≠ 0 ∧ (ckTop q = 0 → (qtV q).2 = 2) := by
 unfold qtV
 by_cases h0 : ckTop q ≠ 0
 ·rw [if_pos h0];exact .inr ⟨h0,fun h => absurd h h0⟩
 ·rw [if_neg h0]
  by_cases h1 : 2000 < (txQ q).length
  ·rw [if_pos h1];exact .inr ⟨(by decide : (2 : Int) ≠ 0),fun _ => rfl⟩
  ·rw [if_neg h1];exact .inl ⟨rfl,Decidable.not_not.1 h0,by omega,rfl⟩
structure Fst (q : QT) (s : ByteArray) (f : Int) : Prop where
 qt : FRet Tryz.prog 4 [aQ q] [.c (.v (.str s)),.c (.v (.int .i64 f))]
 rd : f = 0 → FRet Tryz.prog 5 [.f (.str s)] [.agg (rcQ q),.c (.v (.int .i64 0)),.c (.v (.int .i64 0))]
theorem fst_q (q : QT) (hb : QB q) (hc : cnQ q ≤ 140737488355328) : Fst q (qtV q).1 (qtV q).2 := by
 refine ⟨QueryText_f q hb hc,fun h => ?_⟩
 rcases qtV_cases q with ⟨h1,h2,h3,h4⟩ | ⟨h1,_⟩
 ·rw [h4];exact read_text q hb h2 h3
 ·exact absurd h h1
structure Snd (t : ByteArray) (Q : QT) (s : ByteArray) (f : Int) : Prop where
 rd : FRet Tryz.prog 5 [.f (.str t)] [.agg (rcQ Q),.c (.v (.int .i64 0)),.c (.v (.int .i64 0))]
 fst : Fst Q s f
 same : FRet Tryz.prog 6 [aQ Q,aQ Q] [.c (.v (.bool true))]
 err : f = 0 ∨ f = 2
theorem law_bad0 (q : QT) (t s : ByteArray) (f g : Int) (kQ : FRet Tryz.prog 4 [aQ q] [.c (.v (.str s)),.c (.v (.int .i64 f))]) (hf : f ≠ 0) (hg : g ≠ 0) (hB : FCall Tryz.prog 5 [.f (.str t)] H0 (fun r _ => r = BadR g)) : FRet Tryz.prog 3 [aQ q,.f (.str t)] [.c (.v (.bool true))] := by
 have kA := awake_f
 have d0 : decide (f = 0) = false := dcF hf
 have d1 : decide (g = 0) = false := dcF hg
 replace hf := hide hf
 replace hg := hide hg
 obtain ⟨k,s1,n,ps⟩ := q
 refine FCall.of_ax low_law4_QueriesComeBack ?_
 dsimp only [l_law4_QueriesComeBack,rcQ,aQ,encQ,List.map,BadR] at kQ hB ⊢
 replace hB := hide hB
 refine srun_sound 300 _ _ _ _ ?_
 repeat' (first
  | (simp -implicitDefEqProofs only [*,zr,Nat.reduceAdd,Nat.reduceSub,Nat.reduceMul,Nat.reduceLT,Nat.reduceLeDiff,Nat.reduceEqDiff,Nat.reduceBEq,reduceIte,reduceCtorEq,Int.reduceLE,Int.reduceLT,Int.reduceToNat,Int.reduceEq,Int.reduceNe])
  | ((first|apply zk0|apply zk1|apply zk2|apply zk3|apply zk4|apply zk5|apply zk6|apply zk7|apply zk8|apply zk9) <;> intro hc)
  |(refine callP0 rfl ?_)
  |(refine callD0 rfl ?_)
  |(refine cP (kQ) ?_)
  |(refine cD (kQ) ?_)
  |(refine cF (kQ) ?_)
  | fail)
 refine gFree (m := 300) hB.out ?_
 repeat' (first
  | (simp -implicitDefEqProofs only [*,zr,Nat.reduceAdd,Nat.reduceSub,Nat.reduceMul,Nat.reduceLT,Nat.reduceLeDiff,Nat.reduceEqDiff,Nat.reduceBEq,reduceIte,reduceCtorEq,Int.reduceLE,Int.reduceLT,Int.reduceToNat,Int.reduceEq,Int.reduceNe])
  | ((first|apply zk0|apply zk1|apply zk2|apply zk3|apply zk4|apply zk5|apply zk6|apply zk7|apply zk8|apply zk9) <;> intro hc)
  |(refine callP0 rfl ?_)
  |(refine callD0 rfl ?_)
  |(refine cP (kA) ?_)
  |(refine cD (kA) ?_)
  |(refine cF (kA) ?_)
  | fail)
 exact ret_v
theorem law_bad1 (q : QT) (t s : ByteArray) (g : Int) (kQ : FRet Tryz.prog 4 [aQ q] [.c (.v (.str s)),.c (.v (.int .i64 0))]) (kR : FRet Tryz.prog 5 [.f (.str s)] [.agg (rcQ q),.c (.v (.int .i64 0)),.c (.v (.int .i64 0))]) (kS : FRet Tryz.prog 6 [aQ q,aQ q] [.c (.v (.bool true))]) (hg : g ≠ 0) (hB : FCall Tryz.prog 5 [.f (.str t)] H0 (fun r _ => r = BadR g)) : FRet Tryz.prog 3 [aQ q,.f (.str t)] [.c (.v (.bool true))] := by
 have kA := awake_f
 have d1 : decide (g = 0) = false := dcF hg
 replace hg := hide hg
 obtain ⟨k,s1,n,ps⟩ := q
 refine FCall.of_ax low_law4_QueriesComeBack ?_
 dsimp only [l_law4_QueriesComeBack,rcQ,aQ,encQ,List.map,BadR] at kQ kR kS hB ⊢
 replace hB := hide hB
 refine srun_sound 300 _ _ _ _ ?_
 repeat' (first
  | (simp -implicitDefEqProofs only [*,zr,Nat.reduceAdd,Nat.reduceSub,Nat.reduceMul,Nat.reduceLT,Nat.reduceLeDiff,Nat.reduceEqDiff,Nat.reduceBEq,reduceIte,reduceCtorEq,Int.reduceLE,Int.reduceLT,Int.reduceToNat,Int.reduceEq,Int.reduceNe])
  | ((first|apply zk0|apply zk1|apply zk2|apply zk3|apply zk4|apply zk5|apply zk6|apply zk7|apply zk8|apply zk9) <;> intro hc)
  |(refine callP0 rfl ?_)
  |(refine callD0 rfl ?_)
  |(refine cP (kQ) ?_)
  |(refine cD (kQ) ?_)
  |(refine cF (kQ) ?_)
  |(refine cP (kR) ?_)
  |(refine cD (kR) ?_)
  |(refine cF (kR) ?_)
  |(refine cP (kS) ?_)
  |(refine cD (kS) ?_)
  |(refine cF (kS) ?_)
  | fail)
 refine gFree (m := 300) hB.out ?_
 repeat' (first
  | (simp -implicitDefEqProofs only [*,zr,Nat.reduceAdd,Nat.reduceSub,Nat.reduceMul,Nat.reduceLT,Nat.reduceLeDiff,Nat.reduceEqDiff,Nat.reduceBEq,reduceIte,reduceCtorEq,Int.reduceLE,Int.reduceLT,Int.reduceToNat,Int.reduceEq,Int.reduceNe])
  | ((first|apply zk0|apply zk1|apply zk2|apply zk3|apply zk4|apply zk5|apply zk6|apply zk7|apply zk8|apply zk9) <;> intro hc)
  |(refine callP0 rfl ?_)
  |(refine callD0 rfl ?_)
  |(refine cP (kA) ?_)
  |(refine cD (kA) ?_)
  |(refine cF (kA) ?_)
  | fail)
 exact ret_v
set_option maxHeartbeats 1000000 in
theorem law_good0 (q Q : QT) (t s s2 : ByteArray) (f f2 : Int) (kQ : FRet Tryz.prog 4 [aQ q] [.c (.v (.str s)),.c (.v (.int .i64 f))]) (hf : f ≠ 0) (h : Snd t Q s2 f2) : FRet Tryz.prog 3 [aQ q,.f (.str t)] [.c (.v (.bool true))] := by
 have kA := awake_f
 have d0 : decide (f = 0) = false := dcF hf
 replace hf := hide hf
 obtain ⟨kR,⟨kQ2,kR2⟩,kS,he⟩ := h
 obtain ⟨k,s1,n,ps⟩ := q
 obtain ⟨k',s1',n',ps'⟩ := Q
 refine FCall.of_ax low_law4_QueriesComeBack ?_
 dsimp only [l_law4_QueriesComeBack,rcQ,aQ,encQ,List.map] at kQ kR kQ2 kR2 kS ⊢
 rcases he with rfl | rfl
 ·replace kR2 := kR2 rfl
  refine srun_sound 300 _ _ _ _ ?_
  repeat' (first
   | (simp -implicitDefEqProofs only [*,zr,Nat.reduceAdd,Nat.reduceSub,Nat.reduceMul,Nat.reduceLT,Nat.reduceLeDiff,Nat.reduceEqDiff,Nat.reduceBEq,reduceIte,reduceCtorEq,Int.reduceLE,Int.reduceLT,Int.reduceToNat,Int.reduceEq,Int.reduceNe])
   | ((first|apply zk0|apply zk1|apply zk2|apply zk3|apply zk4|apply zk5|apply zk6|apply zk7|apply zk8|apply zk9) <;> intro hc)
   |(refine callP0 rfl ?_)
   |(refine callD0 rfl ?_)
   |(refine cP (kQ) ?_)
   |(refine cD (kQ) ?_)
   |(refine cF (kQ) ?_)
   |(refine cP (kR) ?_)
   |(refine cD (kR) ?_)
   |(refine cF (kR) ?_)
   |(refine cP (kQ2) ?_)
   |(refine cD (kQ2) ?_)
   |(refine cF (kQ2) ?_)
   |(refine cP (kR2) ?_)
   |(refine cD (kR2) ?_)
   |(refine cF (kR2) ?_)
   |(refine cP (kS) ?_)
   |(refine cD (kS) ?_)
   |(refine cF (kS) ?_)
   |(refine cP (kA) ?_)
   |(refine cD (kA) ?_)
   |(refine cF (kA) ?_)
   | fail)
  exact ret_v
 ·clear kR2
  refine srun_sound 300 _ _ _ _ ?_
  repeat' (first
   | (simp -implicitDefEqProofs only [*,zr,Nat.reduceAdd,Nat.reduceSub,Nat.reduceMul,Nat.reduceLT,Nat.reduceLeDiff,Nat.reduceEqDiff,Nat.reduceBEq,reduceIte,reduceCtorEq,Int.reduceLE,Int.reduceLT,Int.reduceToNat,Int.reduceEq,Int.reduceNe])
   | ((first|apply zk0|apply zk1|apply zk2|apply zk3|apply zk4|apply zk5|apply zk6|apply zk7|apply zk8|apply zk9) <;> intro hc)
   |(refine callP0 rfl ?_)
   |(refine callD0 rfl ?_)
   |(refine cP (kQ) ?_)
   |(refine cD (kQ) ?_)
   |(refine cF (kQ) ?_)
   |(refine cP (kR) ?_)
   |(refine cD (kR) ?_)
   |(refine cF (kR) ?_)
   |(refine cP (kQ2) ?_)
   |(refine cD (kQ2) ?_)
   |(refine cF (kQ2) ?_)
   |(refine cP (kS) ?_)
   |(refine cD (kS) ?_)
   |(refine cF (kS) ?_)
   |(refine cP (kA) ?_)
   |(refine cD (kA) ?_)
   |(refine cF (kA) ?_)
   | fail)
  exact ret_v
set_option maxHeartbeats 1000000 in
theorem law_good1 (q Q : QT) (t s s2 : ByteArray) (f2 : Int) (kQ : FRet Tryz.prog 4 [aQ q] [.c (.v (.str s)),.c (.v (.int .i64 0))]) (kR1 : FRet Tryz.prog 5 [.f (.str s)] [.agg (rcQ q),.c (.v (.int .i64 0)),.c (.v (.int .i64 0))]) (kS1 : FRet Tryz.prog 6 [aQ q,aQ q] [.c (.v (.bool true))]) (h : Snd t Q s2 f2) : FRet Tryz.prog 3 [aQ q,.f (.str t)] [.c (.v (.bool true))] := by
 have kA := awake_f
 obtain ⟨kR,⟨kQ2,kR2⟩,kS,he⟩ := h
 obtain ⟨k,s1,n,ps⟩ := q
 obtain ⟨k',s1',n',ps'⟩ := Q
 refine FCall.of_ax low_law4_QueriesComeBack ?_
 dsimp only [l_law4_QueriesComeBack,rcQ,aQ,encQ,List.map] at kQ kR1 kS1 kR kQ2 kR2 kS ⊢
 rcases he with rfl | rfl
 ·replace kR2 := kR2 rfl
  refine srun_sound 300 _ _ _ _ ?_
  repeat' (first
   | (simp -implicitDefEqProofs only [*,zr,Nat.reduceAdd,Nat.reduceSub,Nat.reduceMul,Nat.reduceLT,Nat.reduceLeDiff,Nat.reduceEqDiff,Nat.reduceBEq,reduceIte,reduceCtorEq,Int.reduceLE,Int.reduceLT,Int.reduceToNat,Int.reduceEq,Int.reduceNe])
   | ((first|apply zk0|apply zk1|apply zk2|apply zk3|apply zk4|apply zk5|apply zk6|apply zk7|apply zk8|apply zk9) <;> intro hc)
   |(refine callP0 rfl ?_)
   |(refine callD0 rfl ?_)
   |(refine cP (kQ) ?_)
   |(refine cD (kQ) ?_)
   |(refine cF (kQ) ?_)
   |(refine cP (kR1) ?_)
   |(refine cD (kR1) ?_)
   |(refine cF (kR1) ?_)
   |(refine cP (kS1) ?_)
   |(refine cD (kS1) ?_)
   |(refine cF (kS1) ?_)
   |(refine cP (kR) ?_)
   |(refine cD (kR) ?_)
   |(refine cF (kR) ?_)
   |(refine cP (kQ2) ?_)
   |(refine cD (kQ2) ?_)
   |(refine cF (kQ2) ?_)
   |(refine cP (kR2) ?_)
   |(refine cD (kR2) ?_)
   |(refine cF (kR2) ?_)
   |(refine cP (kS) ?_)
   |(refine cD (kS) ?_)
   |(refine cF (kS) ?_)
   |(refine cP (kA) ?_)
   |(refine cD (kA) ?_)
   |(refine cF (kA) ?_)
   | fail)
  exact ret_v
 ·clear kR2
  refine srun_sound 300 _ _ _ _ ?_
  repeat' (first
   | (simp -implicitDefEqProofs only [*,zr,Nat.reduceAdd,Nat.reduceSub,Nat.reduceMul,Nat.reduceLT,Nat.reduceLeDiff,Nat.reduceEqDiff,Nat.reduceBEq,reduceIte,reduceCtorEq,Int.reduceLE,Int.reduceLT,Int.reduceToNat,Int.reduceEq,Int.reduceNe])
   | ((first|apply zk0|apply zk1|apply zk2|apply zk3|apply zk4|apply zk5|apply zk6|apply zk7|apply zk8|apply zk9) <;> intro hc)
   |(refine callP0 rfl ?_)
   |(refine callD0 rfl ?_)
   |(refine cP (kQ) ?_)
   |(refine cD (kQ) ?_)
   |(refine cF (kQ) ?_)
   |(refine cP (kR1) ?_)
   |(refine cD (kR1) ?_)
   |(refine cF (kR1) ?_)
   |(refine cP (kS1) ?_)
   |(refine cD (kS1) ?_)
   |(refine cF (kS1) ?_)
   |(refine cP (kR) ?_)
   |(refine cD (kR) ?_)
   |(refine cF (kR) ?_)
   |(refine cP (kQ2) ?_)
   |(refine cD (kQ2) ?_)
   |(refine cF (kQ2) ?_)
   |(refine cP (kS) ?_)
   |(refine cD (kS) ?_)
   |(refine cF (kS) ?_)
   |(refine cP (kA) ?_)
   |(refine cD (kA) ?_)
   |(refine cF (kA) ?_)
   | fail)
  exact ret_v
theorem law_f (q : QT) (hb : QB q) (hc : cnQ q ≤ 140737488355328) (t : ByteArray) (ht : (t.size : Int) ≤ 140737488355328) : FRet Tryz.prog 3 [aQ q,.f (.str t)] [.c (.v (.bool true))] := by
 have k1 := fst_q q hb hc
 have kS := same_query q hb
 by_cases hf : (qtV q).2 = 0
 ·have kQ := k1.qt
  have kR := k1.rd hf
  rw [hf] at kQ
  cases read_v t ht with
  | bad g hg hB => exact law_bad1 q t _ g kQ kR kS hg hB
  | good Q hF hbQ hn hcQ =>
   refine law_good1 q Q t _ _ _ kQ kR kS ⟨hF,fst_q Q hbQ (by omega),same_query Q hbQ,?_⟩
   rcases qtV_cases Q with h | h
   ·exact .inl h.1
   ·exact .inr (h.2 hcQ)
 ·cases read_v t ht with
  | bad g hg hB => exact law_bad0 q t _ _ g k1.qt hf hg hB
  | good Q hF hbQ hn hcQ =>
   refine law_good0 q Q t _ _ _ _ k1.qt hf ⟨hF,fst_q Q hbQ (by omega),same_query Q hbQ,?_⟩
   rcases qtV_cases Q with h | h
   ·exact .inl h.1
   ·exact .inr (h.2 hcQ)
end Go.Proofs.YtagkdifaldikgaaGreatDoor
