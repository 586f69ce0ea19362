/-
  cache.Peak. No statement of the seat is proved here; no conditions.
-/
import Derived.Test.YtfajjcmagngfiaaDoorFlB
namespace Go.Proofs.YtfajjcmagngfiaaDoor
open Go.RowKit Go.Shelf
set_option linter.unusedVariables false
set_option linter.unusedSimpArgs false
set_option maxRecDepth 100000

theorem folErr_cases (c : Cache) (l : List Ev) : (ckCache c ≠ 0 ∧ folErr c l = ckCache c) ∨ (ckCache c = 0 ∧ 3000 < l.length ∧ folErr c l = 2) ∨ (ckCache c = 0 ∧ l.length ≤ 3000 ∧ folErr c l = (fol c l).2.2) := by
 unfold folErr
 by_cases h0 : ckCache c = 0
 ·by_cases h1 : 3000 < l.length
  ·exact .inr (.inl ⟨h0,h1,by rw [if_pos h0,if_pos h1]⟩)
  ·exact .inr (.inr ⟨h0,by omega,by rw [if_pos h0,if_neg h1]⟩)
 ·exact .inl ⟨h0,by rw [if_neg h0]⟩
theorem folErr_zero {c : Cache} {l : List Ev} (h : folErr c l = 0) : ckCache c = 0 ∧ l.length ≤ 3000 ∧ (fol c l).2.2 = 0 := by
 rcases folErr_cases c l with ⟨h1,h2⟩ | ⟨h1,h2,h3⟩ | ⟨h1,h2,h3⟩
 ·exact absurd (h2.symm.trans h) h1
 ·rw [h] at h3;cases h3
 ·exact ⟨h1,h2,h3.symm.trans h⟩
theorem args_fol {id ver g : Nat} {cs : List AV} {pcs pcs' : List RC} {c1 c2 c3 c4 x : FV} : ArgsOk [⟨id,ver,cs,pcs,pcs'⟩] [.agg [.f c1,.f c2,.f c3,.f c4],.f x,.clo (.func g) [.ptr id ver 0]] [.agg [.f c1,.f c2,.f c3,.f c4],.f x,.clo (.func g) [.ptr 100001 1 0]] :=
 ⟨.inl (.inr (.inl ⟨rfl,rfl⟩)),.inl (.inr (.inl ⟨rfl,rfl⟩)),.inr (.inr ⟨_,_,_,rfl,rfl,.inr (.inr ⟨0,_,rfl,rfl,rfl⟩),trivial⟩),trivial⟩
set_option maxHeartbeats 4000000 in
theorem Follow_err (c : Cache) (l : List Ev) (hb : CBound c) (hd : ∀ e ∈ l,(e.2.2.2.1.length : Int) ≤ 9223372036854775807) (h : folErr c l ≠ 0) : FRet Tryd.prog 4 [aCache c,.f (frEvs l)] [zRs2,.c (.v .nil),.c (.v (.int .i64 (folErr c l)))] := by
 have key : ∃ A : List Ans,FRetX1 Tryd.prog 10 [aCache c,.f (frEvs l),.clo (.func 11) [.ptr 100001 1 0]] [.own 3 0 []] [.own 3 A.length (rowF fAns A)] [zRs2,.c (.v (.int .i64 (folErr c l)))] := by
  rcases folErr_cases c l with ⟨h1,h2⟩ | ⟨h1,h2,h3⟩ | ⟨h1,h2,h3⟩
  ·rw [h2];exact ⟨[],follow_bad0 c l hb h1⟩
  ·rw [h3];exact ⟨[],follow_bad1 c l hb h1 h2⟩
  ·have := follow_run c l hb h1 h2 hd
   rw [folRs,if_neg (by rw [← h3];exact h),← h3] at this
   exact ⟨_,this⟩
 obtain ⟨A,k1⟩ := key
 generalize folErr c l = q at *
 have d0 : decide (q = 0) = false := dcF h
 replace h := hide h
 replace hb := hide hb
 replace hd := hide hd
 obtain ⟨room,lease,bl,en⟩ := c
 refine FCall.of_ax low_cache_Follow ?_
 dsimp only [l_cache_Follow,aCache,zRs2] at k1 ⊢
 refine srun_sound 300 _ _ _ _ ?_
 repeat' (first
  | (simp -implicitDefEqProofs only [*,addFp_wr,zr,Nat.reduceAdd,Nat.reduceSub,Nat.reduceMul,Nat.reduceLT,Nat.reduceLeDiff,Nat.reduceEqDiff,Nat.reduceBEq,reduceIte,reduceCtorEq,Int.reduceLE,Int.reduceLT,Int.reduceToNat,Int.reduceEq,Int.reduceNe])
  | ((first|apply zk0|apply zk1|apply zk2|apply zk3|apply zk4|apply zk5|apply zk6|apply zk7|apply zk8|apply zk9) <;> intro hc)
  |(refine callP0 rfl ?_)
  |(refine callD0 rfl ?_)
  | fail)
 refine callX1 (m := 300) rfl k1 7 1 [.f .nil] (.inl ⟨rfl,args_fol⟩) (by rfl) (by simp) ⟨.inl ⟨rfl,rfl,rfl⟩,rfl⟩ (by simp [idsC]) (by simp [idsC]) (by repeat (first|exact free_0 | exact free_mk (by simp) | refine free_upd rfl ?_ | refine free_kill ?_)) ?_
 clear k1
 repeat' (first
  | (simp -implicitDefEqProofs only [*,addFp_wr,zr,Nat.reduceAdd,Nat.reduceSub,Nat.reduceMul,Nat.reduceLT,Nat.reduceLeDiff,Nat.reduceEqDiff,Nat.reduceBEq,reduceIte,reduceCtorEq,Int.reduceLE,Int.reduceLT,Int.reduceToNat,Int.reduceEq,Int.reduceNe])
  | ((first|apply zk0|apply zk1|apply zk2|apply zk3|apply zk4|apply zk5|apply zk6|apply zk7|apply zk8|apply zk9) <;> intro hc)
  |(refine callP0 rfl ?_)
  |(refine callD0 rfl ?_)
  | fail)
 exact ⟨[.agg [.f (.int .i64 0),.f (.int .i64 0),.f .nil,.f .nil],.f .nil,.f (.int .i64 q)],rfl,⟨⟨rfl,rfl,rfl,rfl,rfl⟩,rfl,rfl,rfl⟩,by simp [idsS,idsC]⟩
set_option maxHeartbeats 4000000 in
theorem Follow_yes (c : Cache) (l : List Ev) (hb : CBound c) (hd : ∀ e ∈ l,(e.2.2.2.1.length : Int) ≤ 9223372036854775807) (h : folErr c l = 0) : FRet Tryd.prog 4 [aCache c,.f (frEvs l)] [.agg (rcCache (fol c l).1),.c (.v (frAns (fol c l).2.1)),.c (.v (.int .i64 0))] := by
 obtain ⟨h1,h2,h3⟩ := folErr_zero h
 have k1 := follow_run c l hb h1 h2 hd
 rw [folRs,if_pos h3] at k1
 have d0 : decide ((0 : Int) = 0) = true := rfl
 generalize fol c l = r at *
 obtain ⟨⟨xr,xl,B,E⟩,A,ft⟩ := r
 clear h h1 h2 h3 hb hd
 have hown : FRet Tryd.prog 4 [aCache c,.f (frEvs l)] [.agg [.v (.int .i64 xr),.v (.int .i64 xl),.own 5 B.length (rowF fBlob B),.own 3 E.length (rowF fEntry E)],.c (.own 3 A.length (rowF fAns A)),.c (.v (.int .i64 0))] := by
  obtain ⟨room,lease,bl,en⟩ := c
  refine FCall.of_ax low_cache_Follow ?_
  dsimp only [l_cache_Follow,aCache] at k1 ⊢
  refine srun_sound 300 _ _ _ _ ?_
  repeat' (first
   | (simp -implicitDefEqProofs only [*,addFp_wr,zr,Nat.reduceAdd,Nat.reduceSub,Nat.reduceMul,Nat.reduceLT,Nat.reduceLeDiff,Nat.reduceEqDiff,Nat.reduceBEq,reduceIte,reduceCtorEq,Int.reduceLE,Int.reduceLT,Int.reduceToNat,Int.reduceEq,Int.reduceNe])
   | ((first|apply zk0|apply zk1|apply zk2|apply zk3|apply zk4|apply zk5|apply zk6|apply zk7|apply zk8|apply zk9) <;> intro hc)
   |(refine callP0 rfl ?_)
   |(refine callD0 rfl ?_)
   | fail)
  refine callX1 (m := 300) rfl k1 7 1 [.f .nil] (.inl ⟨rfl,args_fol⟩) (by rfl) (by simp) ⟨.inl ⟨rfl,rfl,rfl⟩,rfl⟩ (by simp [idsC]) (by simp [idsC]) (by repeat (first|exact free_0 | exact free_mk (by simp) | refine free_upd rfl ?_ | refine free_kill ?_)) ?_
  clear k1
  repeat' (first
   | (simp -implicitDefEqProofs only [*,addFp_wr,zr,Nat.reduceAdd,Nat.reduceSub,Nat.reduceMul,Nat.reduceLT,Nat.reduceLeDiff,Nat.reduceEqDiff,Nat.reduceBEq,reduceIte,reduceCtorEq,Int.reduceLE,Int.reduceLT,Int.reduceToNat,Int.reduceEq,Int.reduceNe])
   | ((first|apply zk0|apply zk1|apply zk2|apply zk3|apply zk4|apply zk5|apply zk6|apply zk7|apply zk8|apply zk9) <;> intro hc)
   |(refine callP0 rfl ?_)
   |(refine callD0 rfl ?_)
   | fail)
  exact ⟨[.agg [.f (.int .i64 xr),.f (.int .i64 xl),.sl 1013 1 5 0 B.length,.sl 2013 1 3 0 E.length],.sl 13 1 3 0 A.length,.f (.int .i64 0)],rfl,⟨⟨rfl,rfl,.inr ⟨1013,1,rfl,rfl,lenB rfl⟩,.inr ⟨2013,1,rfl,rfl,lenE rfl⟩,rfl⟩,.inr ⟨13,1,rfl,rfl,lenA rfl⟩,rfl,rfl⟩,by simp [idsS,idsC]⟩
 exact hown.frz2 ⟨⟨rfl,rfl,rcF_row0 (enc := fBlob) (fun _ => rfl),rcF_row0 (enc := fEntry) (fun _ => rfl),trivial⟩,rcF_row0 (enc := fAns) (fun _ => rfl),rfl,trivial⟩
end Go.Proofs.YtfajjcmagngfiaaDoor
