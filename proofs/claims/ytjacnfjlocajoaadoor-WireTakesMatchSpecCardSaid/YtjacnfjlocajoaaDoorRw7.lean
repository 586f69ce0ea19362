/-
  WireTakesMatchSpec on the machine, and at every receiver and message in memory. No statement of the seat is proved here; no conditions.
-/
import Derived.Test.YtjacnfjlocajoaaDoorRw6
import Derived.Test.YtjacnfjlocajoaaDoorMsA
namespace Go.Proofs.YtjacnfjlocajoaaDoor
open Go.RowKit Go.Shelf
set_option linter.unusedVariables false
set_option linter.unusedSimpArgs false
set_option maxRecDepth 100000

set_option maxHeartbeats 8000000 in
theorem takesSpec_law_f (r : Rc) (m : Mg) (t : ByteArray) (hr : RcS r) (hm : (m.2.2.2.2.length : Int) ≤ 9223372036854775807) : FRet Tryd.prog 6 [aRc r,aMg m,.f (.str t)] [.c (.v (.bool true))] := by
 have k1 := Take_f r m hr.l hr.b hm
 have k2 := TakeR_f r m hr
 have hs := Take_sizes (r := r) (m := m)
 have hn := Take_nil (r := r) (m := m)
 have kS := sameRc_f (TakeV r m).2.1 hs.l hs.b
 have kM := sameMg_f (TakeV r m).2.2 (by rw [hn];decide)
 have c1 := CheckReceiver_f r hr.l hr.b
 have c2 := CheckReceiverR_f r hr.l hr.b
 have o1 := Offset_f r t hr.l hr.b
 have o2 := OffsetR_f r t hr
 clear hs hn
 generalize TakeV r m = V at *
 generalize OffsetV r t = O at *
 generalize ckRc r = c at *
 obtain ⟨q,⟨D2,P2⟩,a1,a2,a3,a4,a5⟩ := V
 obtain ⟨on,ob,oq⟩ := O
 obtain ⟨D,P⟩ := r
 obtain ⟨mk,md,fr,sz,b⟩ := m
 dsimp only at *
 have d1 : decide (c = c) = true := dcT rfl
 have d2 : decide (q = q) = true := dcT rfl
 have d3 : decide (oq = oq) = true := dcT rfl
 have d4 : decide (((on : Nat) : Int) = ((on : Nat) : Int)) = true := dcT rfl
 have d5 : decide (ob = ob) = true := dcT rfl
 have d6 : (ob == ob) = true := by cases ob <;> rfl
 refine FCall.of_ax low_law8_WireTakesMatchSpec ?_
 dsimp only [l_law8_WireTakesMatchSpec,rRM,aRc,aMg,fMg,List.map,rInt] at k1 k2 kS kM c1 c2 o1 o2 ⊢
 refine srun_sound 300 _ _ _ _ ?_
 repeat' (first
  | (simp -implicitDefEqProofs only [*,zr,Nat.reduceAdd,Nat.reduceSub,Nat.reduceMul,Nat.reduceLT,Nat.reduceLeDiff,Nat.reduceEqDiff,Nat.reduceBEq,reduceIte,reduceCtorEq,Int.reduceLE,Int.reduceLT,Int.reduceToNat,Int.reduceEq,Int.reduceNe])
  | ((first|apply zk0|apply zk1|apply zk2|apply zk3|apply zk4|apply zk5|apply zk6|apply zk7|apply zk8|apply zk9) <;> intro hc)
  |(refine callP0 rfl ?_)
  |(refine callD0 rfl ?_)
  |(refine cP (k1) ?_)
  |(refine cD (k1) ?_)
  |(refine cF (k1) ?_)
  |(refine cP (k2) ?_)
  |(refine cD (k2) ?_)
  |(refine cF (k2) ?_)
  |(refine cP (c1) ?_)
  |(refine cD (c1) ?_)
  |(refine cF (c1) ?_)
  |(refine cP (c2) ?_)
  |(refine cD (c2) ?_)
  |(refine cF (c2) ?_)
  |(refine cP (kS) ?_)
  |(refine cD (kS) ?_)
  |(refine cF (kS) ?_)
  |(refine cP (kM) ?_)
  |(refine cD (kM) ?_)
  |(refine cF (kM) ?_)
  |(refine cP (o1) ?_)
  |(refine cD (o1) ?_)
  |(refine cF (o1) ?_)
  |(refine cP (o2) ?_)
  |(refine cD (o2) ?_)
  |(refine cF (o2) ?_)
  |(refine cP (awake8_f) ?_)
  |(refine cD (awake8_f) ?_)
  |(refine cF (awake8_f) ?_)
  | fail)
 exact ret_v
theorem takesSpec_any (cs ds : List Value) (r : Rc) (m : Mg) (t : ByteArray) (W : World) (h : rRcv W W.heap.size r cs) (h2 : rMsg W W.heap.size m ds) : Calls Tryd.prog 6 #[.agg cs.toArray,.agg ds.toArray,.string t] W fun e w' => e = .returned (.bool true) ∧ Below W.heap.size W w' :=
 (takesSpec_law_f r m t (rcv_bound h) (msg_bound h2)).callsA rfl (args3q (fz_rcv.agg len_rcv h) (fz_msg.agg len_msg h2) (.f (.str _)))
end Go.Proofs.YtjacnfjlocajoaaDoor
