/-
  cache.checkEvent, cache.newest. No statement of the seat is proved here; no conditions.
-/
import Derived.Test.YtanhelgblnmdcaaDoorSto
namespace Go.Proofs.YtanhelgblnmdcaaDoor
open Go.RowKit Go.Shelf
set_option linter.unusedVariables false
set_option linter.unusedSimpArgs false
set_option maxRecDepth 100000

def flds (k : Int) : Bool × Bool × Bool × Bool := if k = 1 then (true,false,false,true) else if k = 3 then (false,true,false,false) else if k = 6 then (false,true,true,false) else if k = 7 then (false,false,true,false) else (true,false,false,false)
theorem fields_f (k : Int) : FRet Tryd.prog 40 [.f (.int .i64 k)] [.c (.v (.bool (flds k).1)),.c (.v (.bool (flds k).2.1)),.c (.v (.bool (flds k).2.2.1)),.c (.v (.bool (flds k).2.2.2))] := by
 refine FCall.of_ax low_cache_fields ?_
 dsimp only [l_cache_fields]
 by_cases h1 : k = 1
 ·have d1 : decide (k = 1) = true := dcT h1
  have e : flds k = (true,false,false,true) := by rw [flds,if_pos h1]
  rw [e]
  clear e
  replace h1 := hide h1
  refine srun_sound 300 _ _ _ _ ?_
  repeat' (first
   | (simp -implicitDefEqProofs only [*,zr,Nat.reduceAdd,Nat.reduceSub,Nat.reduceMul,Nat.reduceLT,Nat.reduceLeDiff,Nat.reduceEqDiff,Nat.reduceBEq,reduceIte,reduceCtorEq,Int.reduceLE,Int.reduceLT,Int.reduceToNat,Int.reduceEq,Int.reduceNe])
   | ((first|apply zk0|apply zk1|apply zk2|apply zk3|apply zk4|apply zk5|apply zk6|apply zk7|apply zk8|apply zk9) <;> intro hc)
   |(refine callP0 rfl ?_)
   |(refine callD0 rfl ?_)
   | fail)
  exact ⟨[.f (.bool true),.f (.bool false),.f (.bool false),.f (.bool true)],rfl,⟨rfl,rfl,rfl,rfl,rfl⟩,by simp [idsS]⟩
 have d1 : decide (k = 1) = false := dcF h1
 by_cases h3 : k = 3
 ·have d3 : decide (k = 3) = true := dcT h3
  have e : flds k = (false,true,false,false) := by rw [flds,if_neg h1,if_pos h3]
  rw [e]
  clear e
  replace h1 := hide h1
  replace h3 := hide h3
  refine srun_sound 300 _ _ _ _ ?_
  repeat' (first
   | (simp -implicitDefEqProofs only [*,zr,Nat.reduceAdd,Nat.reduceSub,Nat.reduceMul,Nat.reduceLT,Nat.reduceLeDiff,Nat.reduceEqDiff,Nat.reduceBEq,reduceIte,reduceCtorEq,Int.reduceLE,Int.reduceLT,Int.reduceToNat,Int.reduceEq,Int.reduceNe])
   | ((first|apply zk0|apply zk1|apply zk2|apply zk3|apply zk4|apply zk5|apply zk6|apply zk7|apply zk8|apply zk9) <;> intro hc)
   |(refine callP0 rfl ?_)
   |(refine callD0 rfl ?_)
   | fail)
  exact ⟨[.f (.bool false),.f (.bool true),.f (.bool false),.f (.bool false)],rfl,⟨rfl,rfl,rfl,rfl,rfl⟩,by simp [idsS]⟩
 have d3 : decide (k = 3) = false := dcF h3
 by_cases h6 : k = 6
 ·have d6 : decide (k = 6) = true := dcT h6
  have e : flds k = (false,true,true,false) := by rw [flds,if_neg h1,if_neg h3,if_pos h6]
  rw [e]
  clear e
  replace h1 := hide h1
  replace h3 := hide h3
  replace h6 := hide h6
  refine srun_sound 300 _ _ _ _ ?_
  repeat' (first
   | (simp -implicitDefEqProofs only [*,zr,Nat.reduceAdd,Nat.reduceSub,Nat.reduceMul,Nat.reduceLT,Nat.reduceLeDiff,Nat.reduceEqDiff,Nat.reduceBEq,reduceIte,reduceCtorEq,Int.reduceLE,Int.reduceLT,Int.reduceToNat,Int.reduceEq,Int.reduceNe])
   | ((first|apply zk0|apply zk1|apply zk2|apply zk3|apply zk4|apply zk5|apply zk6|apply zk7|apply zk8|apply zk9) <;> intro hc)
   |(refine callP0 rfl ?_)
   |(refine callD0 rfl ?_)
   | fail)
  exact ⟨[.f (.bool false),.f (.bool true),.f (.bool true),.f (.bool false)],rfl,⟨rfl,rfl,rfl,rfl,rfl⟩,by simp [idsS]⟩
 have d6 : decide (k = 6) = false := dcF h6
 by_cases h7 : k = 7
 ·have d7 : decide (k = 7) = true := dcT h7
  have e : flds k = (false,false,true,false) := by rw [flds,if_neg h1,if_neg h3,if_neg h6,if_pos h7]
  rw [e]
  clear e
  replace h1 := hide h1
  replace h3 := hide h3
  replace h6 := hide h6
  replace h7 := hide h7
  refine srun_sound 300 _ _ _ _ ?_
  repeat' (first
   | (simp -implicitDefEqProofs only [*,zr,Nat.reduceAdd,Nat.reduceSub,Nat.reduceMul,Nat.reduceLT,Nat.reduceLeDiff,Nat.reduceEqDiff,Nat.reduceBEq,reduceIte,reduceCtorEq,Int.reduceLE,Int.reduceLT,Int.reduceToNat,Int.reduceEq,Int.reduceNe])
   | ((first|apply zk0|apply zk1|apply zk2|apply zk3|apply zk4|apply zk5|apply zk6|apply zk7|apply zk8|apply zk9) <;> intro hc)
   |(refine callP0 rfl ?_)
   |(refine callD0 rfl ?_)
   | fail)
  exact ⟨[.f (.bool false),.f (.bool false),.f (.bool true),.f (.bool false)],rfl,⟨rfl,rfl,rfl,rfl,rfl⟩,by simp [idsS]⟩
 have d7 : decide (k = 7) = false := dcF h7
 have e : flds k = (true,false,false,false) := by rw [flds,if_neg h1,if_neg h3,if_neg h6,if_neg h7]
 rw [e]
 clear e
 replace h1 := hide h1
 replace h3 := hide h3
 replace h6 := hide h6
 replace h7 := hide h7
 refine srun_sound 300 _ _ _ _ ?_
 repeat' (first
  | (simp -implicitDefEqProofs only [*,zr,Nat.reduceAdd,Nat.reduceSub,Nat.reduceMul,Nat.reduceLT,Nat.reduceLeDiff,Nat.reduceEqDiff,Nat.reduceBEq,reduceIte,reduceCtorEq,Int.reduceLE,Int.reduceLT,Int.reduceToNat,Int.reduceEq,Int.reduceNe])
  | ((first|apply zk0|apply zk1|apply zk2|apply zk3|apply zk4|apply zk5|apply zk6|apply zk7|apply zk8|apply zk9) <;> intro hc)
  |(refine callP0 rfl ?_)
  |(refine callD0 rfl ?_)
  | fail)
 exact ⟨[.f (.bool true),.f (.bool false),.f (.bool false),.f (.bool false)],rfl,⟨rfl,rfl,rfl,rfl,rfl⟩,by simp [idsS]⟩
theorem flds_any (k : Int) : flds k = (true,false,false,true) ∨ flds k = (false,true,false,false) ∨ flds k = (false,true,true,false) ∨ flds k = (false,false,true,false) ∨ flds k = (true,false,false,false) := by
 unfold flds
 split
 ·exact .inl rfl
 split
 ·exact .inr (.inl rfl)
 split
 ·exact .inr (.inr (.inl rfl))
 split
 ·exact .inr (.inr (.inr (.inl rfl)))
 ·exact .inr (.inr (.inr (.inr rfl)))
def ckEv (e : Ev) : Int :=
 if inRg e.1 1 8 = true then
  (if ((!(flds e.1).1 && !decide (e.2.2.1 = ⟨#[]⟩)) || (!(flds e.1).2.1 && decide ((0 : Int) < (e.2.2.2.1.length : Int))) || (!(flds e.1).2.2.1 && !decide (e.2.2.2.2.1 = ⟨#[]⟩)) || (!(flds e.1).2.2.2 && !decide (e.2.2.2.2.2 = 0))) = true then 3
  else if (((flds e.1).1 && !isDig e.2.2.1) || ((flds e.1).2.2.1 && !isDig e.2.2.2.2.1)) = true then 3
  else if decide (ckDigsM e.2.2.2.1 200 = 0) = true then (if (inRg e.2.2.2.2.2 0 100000000 && inRg e.2.1 0 1000000000) = true then 0 else 1) else ckDigsM e.2.2.2.1 200)
 else 4
set_option maxHeartbeats 4000000 in
theorem checkEvent_g (e : Ev) (hd : (e.2.2.2.1.length : Int) ≤ 9223372036854775807) : FRet Tryd.prog 22 [aEv e] [.c (.v (.int .i64 (ckEv e)))] := by
 obtain ⟨kind,at_,dg,ds,key,size⟩ := e
 dsimp only at hd
 have hf := fields_f kind
 have hcd := checkDigests_f isDigest_f ds 200 hd
 refine FCall.of_ax low_cache_checkEvent ?_
 dsimp only [l_cache_checkEvent,aEv,frStrs,ckEv] at hcd ⊢
 rcases flds_any kind with hk | hk | hk | hk | hk
 all_goals
  rw [hk] at hf ⊢
  clear hk
  refine srun_sound 300 _ _ _ _ ?_
 repeat' (first
  | (simp -implicitDefEqProofs only [*,zr,Nat.reduceAdd,Nat.reduceSub,Nat.reduceMul,Nat.reduceLT,Nat.reduceLeDiff,Nat.reduceEqDiff,Nat.reduceBEq,reduceIte,reduceCtorEq,Int.reduceLE,Int.reduceLT,Int.reduceToNat,Int.reduceEq,Int.reduceNe])
  | ((first|apply zk0|apply zk1|apply zk2|apply zk3|apply zk4|apply zk5|apply zk6|apply zk7|apply zk8|apply zk9) <;> intro hc)
  |(refine callP0 rfl ?_)
  |(refine callD0 rfl ?_)
  |(refine cP (within_f kind 1 8) ?_)
  |(refine cD (within_f kind 1 8) ?_)
  |(refine cF (within_f kind 1 8) ?_)
  |(refine cP (within_f size 0 100000000) ?_)
  |(refine cD (within_f size 0 100000000) ?_)
  |(refine cF (within_f size 0 100000000) ?_)
  |(refine cP (isMoment_f at_) ?_)
  |(refine cD (isMoment_f at_) ?_)
  |(refine cF (isMoment_f at_) ?_)
  |(refine cP (isDigest_f dg) ?_)
  |(refine cD (isDigest_f dg) ?_)
  |(refine cF (isDigest_f dg) ?_)
  |(refine cP (isDigest_f key) ?_)
  |(refine cD (isDigest_f key) ?_)
  |(refine cF (isDigest_f key) ?_)
  |(refine cP (hcd) ?_)
  |(refine cD (hcd) ?_)
  |(refine cF (hcd) ?_)
  |(refine cP (hf) ?_)
  |(refine cD (hf) ?_)
  |(refine cF (hf) ?_)
  | fail)
 all_goals (clear hf hcd;refine ret_ve ?_;simp only [*,Int.reduceEq,Int.reduceNe,if_true,if_false,ne_eq,not_true_eq_false,not_false_eq_true,reduceIte,Bool.false_eq_true,Bool.true_and,Bool.and_true,Bool.false_and,Bool.and_false,Bool.not_true,Bool.not_false,Bool.true_or,Bool.or_true,Bool.false_or,Bool.or_false,decide_true,decide_false,reduceCtorEq])
theorem checkEvent_f (e : Ev) (hd : e.2.2.2.1.length ≤ 1000000) : FRet Tryd.prog 22 [aEv e] [.c (.v (.int .i64 (ckEv e)))] := checkEvent_g e (by omega)
end Go.Proofs.YtanhelgblnmdcaaDoor
