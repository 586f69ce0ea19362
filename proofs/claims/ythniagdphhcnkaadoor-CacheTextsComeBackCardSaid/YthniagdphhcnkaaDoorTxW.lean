/-
  The walk of the law that a cache is read as it was written. No statement of the seat is proved here; no conditions.
-/
import Derived.Test.YthniagdphhcnkaaDoorTxM
import Derived.Test.YthniagdphhcnkaaDoorTxQ
namespace Go.Proofs.YthniagdphhcnkaaDoor
open Go.RowKit Go.Shelf
set_option linter.unusedVariables false
set_option linter.unusedSimpArgs false
set_option maxRecDepth 100000

theorem text_zero {c : Cache} (h : (TextV c).2 = 0) : TextV c = (txtB c,0) ∧ ckCache c = 0 ∧ ¬ 2000000 < (txtB c).size := by
 unfold TextV at h ⊢
 split at h
 ·rename_i hk
  split at h
  ·cases h
  ·rename_i hs
   rw [if_pos hk,if_neg hs];exact ⟨rfl,hk,hs⟩
 ·rename_i hk;exact absurd h hk
theorem cbound_of {c : Cache} (h : ckCache c = 0) : CBound c := by
 have hk := cok_of h
 refine ⟨by have := hk.blen;omega,by have := hk.elen;omega,fun e he => ?_⟩
 have := hk.refs e he
 omega
theorem read_right {t : ByteArray} (h : (readV t).2.2 = 0) : ckCache (readV t).1 = 0 := (text_zero (by rw [txt_read h])).2.1
structure Half (t : ByteArray) (x : Cache) (n f : Int) : Prop where
 rd : FRet Tryd.prog 5 [.f (.str t)] [.agg (rcCache x),.c (.v (.int .i64 n)),.c (.v (.int .i64 f))]
 no : f ≠ 0 → x = emptyC
 yes : f = 0 → FRet Tryd.prog 4 [aCache x] [.c (.v (.str t)),.c (.v (.int .i64 0))]
theorem half_of (t : ByteArray) : ∃ x n f,Half t x n f :=
 ⟨_,_,_,Read_z t,read_bad,fun h => by
  have := Text_f (readV t).1 (cbound_of (read_right h))
  rw [txt_read h] at this
  exact this⟩
set_option maxHeartbeats 8000000 in
theorem comeBack_law (c : Cache) (hb : SBound c) (t : ByteArray) : FRet Tryd.prog 3 [aCache c,.f (.str t)] [.c (.v (.bool true))] := by
 have kT := Text_f c hb.1
 have kS := Same_f c c hb
 rw [show decide (c = c) = true from decide_eq_true rfl] at kS
 obtain ⟨x,n,f,hH⟩ := half_of t
 have kR2 := hH.rd
 have dz : decide ((0 : Int) = 0) = true := rfl
 have z0 : ((0 : Nat) : Int) = 0 := rfl
 by_cases h0 : (TextV c).2 = 0
 ·obtain ⟨e1,e2,e3⟩ := text_zero h0
  have kR1 := Read_z (txtB c)
  rw [read_txt e2 e3] at kR1
  rw [e1] at kT
  dsimp only at kT kR1
  clear e1 e2 e3 h0 hb
  generalize txtB c = s at *
  obtain ⟨room,lease,bl,en⟩ := c
  by_cases hf : f = 0
  ·subst hf
   have kT2 := hH.yes rfl
   clear hH
   obtain ⟨xr,xl,xb,xe⟩ := x
   refine FCall.of_ax low_law7_CacheTextsComeBack ?_
   dsimp only [l_law7_CacheTextsComeBack,aCache,rcCache] at kT kS kR1 kR2 kT2 ⊢
   refine srun_sound 300 _ _ _ _ ?_
   replace kT := hide kT
   replace kS := hide kS
   replace kR1 := hide kR1
   replace kR2 := hide kR2
   replace kT2 := hide kT2
   repeat' (first
    | (simp -implicitDefEqProofs only [*,addFp_wr,zr,Nat.reduceAdd,Nat.reduceSub,Nat.reduceMul,Nat.reduceLT,Nat.reduceLeDiff,Nat.reduceEqDiff,Nat.reduceBEq,reduceIte,reduceCtorEq,Int.reduceLE,Int.reduceLT,Int.reduceToNat,Int.reduceEq,Int.reduceNe])
    | ((first|apply zk0|apply zk1|apply zk2|apply zk3|apply zk4|apply zk5|apply zk6|apply zk7|apply zk8|apply zk9) <;> intro hc)
    |(refine callP0 rfl ?_)
    |(refine callD0 rfl ?_)
    |(refine cP (kT.out) ?_)
    |(refine cD (kT.out) ?_)
    |(refine cF (kT.out) ?_)
    |(refine cP (kR1.out) ?_)
    |(refine cD (kR1.out) ?_)
    |(refine cF (kR1.out) ?_)
    |(refine cP (kS.out) ?_)
    |(refine cD (kS.out) ?_)
    |(refine cF (kS.out) ?_)
    |(refine cP (kR2.out) ?_)
    |(refine cD (kR2.out) ?_)
    |(refine cF (kR2.out) ?_)
    |(refine cP (kT2.out) ?_)
    |(refine cD (kT2.out) ?_)
    |(refine cF (kT2.out) ?_)
    |(refine cP (awake_f) ?_)
    |(refine cD (awake_f) ?_)
    |(refine cF (awake_f) ?_)
    | fail)
   exact ret_v
  ·have d1 : decide (f = 0) = false := dec_f hf
   obtain rfl := hH.no hf
   clear hH hf
   refine FCall.of_ax low_law7_CacheTextsComeBack ?_
   dsimp only [l_law7_CacheTextsComeBack,aCache,rcCache,emptyC,frBlobs,List.map] at kT kS kR1 kR2 ⊢
   refine srun_sound 300 _ _ _ _ ?_
   replace kT := hide kT
   replace kS := hide kS
   replace kR1 := hide kR1
   replace kR2 := hide kR2
   repeat' (first
    | (simp -implicitDefEqProofs only [*,addFp_wr,List.length_nil,zr,Nat.reduceAdd,Nat.reduceSub,Nat.reduceMul,Nat.reduceLT,Nat.reduceLeDiff,Nat.reduceEqDiff,Nat.reduceBEq,reduceIte,reduceCtorEq,Int.reduceLE,Int.reduceLT,Int.reduceToNat,Int.reduceEq,Int.reduceNe])
    | ((first|apply zk0|apply zk1|apply zk2|apply zk3|apply zk4|apply zk5|apply zk6|apply zk7|apply zk8|apply zk9) <;> intro hc)
    |(refine callP0 rfl ?_)
    |(refine callD0 rfl ?_)
    |(refine cP (kT.out) ?_)
    |(refine cD (kT.out) ?_)
    |(refine cF (kT.out) ?_)
    |(refine cP (kR1.out) ?_)
    |(refine cD (kR1.out) ?_)
    |(refine cF (kR1.out) ?_)
    |(refine cP (kS.out) ?_)
    |(refine cD (kS.out) ?_)
    |(refine cF (kS.out) ?_)
    |(refine cP (kR2.out) ?_)
    |(refine cD (kR2.out) ?_)
    |(refine cF (kR2.out) ?_)
    |(refine cP (awake_f) ?_)
    |(refine cD (awake_f) ?_)
    |(refine cF (awake_f) ?_)
    | fail)
   exact ret_v
 ·have d0 : decide ((TextV c).2 = 0) = false := dec_f h0
  clear h0 hb kS
  generalize (TextV c).1 = s at *
  generalize (TextV c).2 = q at *
  obtain ⟨room,lease,bl,en⟩ := c
  by_cases hf : f = 0
  ·subst hf
   have kT2 := hH.yes rfl
   clear hH
   obtain ⟨xr,xl,xb,xe⟩ := x
   refine FCall.of_ax low_law7_CacheTextsComeBack ?_
   dsimp only [l_law7_CacheTextsComeBack,aCache,rcCache] at kT kR2 kT2 ⊢
   refine srun_sound 300 _ _ _ _ ?_
   replace kT := hide kT
   replace kR2 := hide kR2
   replace kT2 := hide kT2
   repeat' (first
    | (simp -implicitDefEqProofs only [*,addFp_wr,zr,Nat.reduceAdd,Nat.reduceSub,Nat.reduceMul,Nat.reduceLT,Nat.reduceLeDiff,Nat.reduceEqDiff,Nat.reduceBEq,reduceIte,reduceCtorEq,Int.reduceLE,Int.reduceLT,Int.reduceToNat,Int.reduceEq,Int.reduceNe])
    | ((first|apply zk0|apply zk1|apply zk2|apply zk3|apply zk4|apply zk5|apply zk6|apply zk7|apply zk8|apply zk9) <;> intro hc)
    |(refine callP0 rfl ?_)
    |(refine callD0 rfl ?_)
    |(refine cP (kT.out) ?_)
    |(refine cD (kT.out) ?_)
    |(refine cF (kT.out) ?_)
    |(refine cP (kR2.out) ?_)
    |(refine cD (kR2.out) ?_)
    |(refine cF (kR2.out) ?_)
    |(refine cP (kT2.out) ?_)
    |(refine cD (kT2.out) ?_)
    |(refine cF (kT2.out) ?_)
    |(refine cP (awake_f) ?_)
    |(refine cD (awake_f) ?_)
    |(refine cF (awake_f) ?_)
    | fail)
   exact ret_v
  ·have d1 : decide (f = 0) = false := dec_f hf
   obtain rfl := hH.no hf
   clear hH hf
   refine FCall.of_ax low_law7_CacheTextsComeBack ?_
   dsimp only [l_law7_CacheTextsComeBack,aCache,rcCache,emptyC,frBlobs,List.map] at kT kR2 ⊢
   refine srun_sound 300 _ _ _ _ ?_
   replace kT := hide kT
   replace kR2 := hide kR2
   repeat' (first
    | (simp -implicitDefEqProofs only [*,addFp_wr,List.length_nil,zr,Nat.reduceAdd,Nat.reduceSub,Nat.reduceMul,Nat.reduceLT,Nat.reduceLeDiff,Nat.reduceEqDiff,Nat.reduceBEq,reduceIte,reduceCtorEq,Int.reduceLE,Int.reduceLT,Int.reduceToNat,Int.reduceEq,Int.reduceNe])
    | ((first|apply zk0|apply zk1|apply zk2|apply zk3|apply zk4|apply zk5|apply zk6|apply zk7|apply zk8|apply zk9) <;> intro hc)
    |(refine callP0 rfl ?_)
    |(refine callD0 rfl ?_)
    |(refine cP (kT.out) ?_)
    |(refine cD (kT.out) ?_)
    |(refine cF (kT.out) ?_)
    |(refine cP (kR2.out) ?_)
    |(refine cD (kR2.out) ?_)
    |(refine cF (kR2.out) ?_)
    |(refine cP (awake_f) ?_)
    |(refine cD (awake_f) ?_)
    |(refine cF (awake_f) ?_)
    | fail)
   exact ret_v
end Go.Proofs.YthniagdphhcnkaaDoor
