/-
  cache.Do. No statement of the seat is proved here; no conditions.
-/
import Derived.Test.YtanhelgblnmdcaaDoorDq
namespace Go.Proofs.YtanhelgblnmdcaaDoor
open Go.RowKit Go.Shelf
set_option linter.unusedVariables false
set_option linter.unusedSimpArgs false
set_option maxRecDepth 100000

def zC : RS := .agg [.v (.int .i64 0),.v (.int .i64 0),.v .nil,.v .nil]
set_option maxHeartbeats 4000000 in
theorem Do_bad (c : Cache) (e : Ev) (hb : CBound c) (hk : ckCache c ≠ 0) : FRet Tryd.prog 5 [aCache c,aEv e] [zC,rAns false .nil .nil,.c (.v (.int .i64 (ckCache c)))] := by
 have hc := CheckCache_f isDigest_f c hb
 generalize ckCache c = q at *
 have d1 : decide (q = 0) = false := dcF hk
 replace hk := hide hk
 replace hb := hide hb
 obtain ⟨room,lease,bl,en⟩ := c
 obtain ⟨kind,at_,dg,ds,key,size⟩ := e
 refine FCall.of_ax low_cache_Do ?_
 dsimp only [l_cache_Do,aEv,aCache] at hc ⊢
 refine srun_sound 300 _ _ _ _ ?_
 repeat' (first
  | (simp -implicitDefEqProofs only [*,addFp_wr,zr,Nat.reduceAdd,Nat.reduceSub,Nat.reduceMul,Nat.reduceLT,Nat.reduceLeDiff,Nat.reduceEqDiff,Nat.reduceBEq,reduceIte,reduceCtorEq,Int.reduceLE,Int.reduceLT,Int.reduceToNat,Int.reduceEq,Int.reduceNe])
  | ((first|apply zk0|apply zk1|apply zk2|apply zk3|apply zk4|apply zk5|apply zk6|apply zk7|apply zk8|apply zk9) <;> intro hc)
  |(refine callP0 rfl ?_)
  |(refine callD0 rfl ?_)
  |(refine cP (hc) ?_)
  |(refine cD (hc) ?_)
  |(refine cF (hc) ?_)
  |(refine cO (hc) ?_)
  | fail)
 exact ⟨[.agg [.f (.int .i64 0),.f (.int .i64 0),.f .nil,.f .nil],.agg [.f (.bool false),.f .nil,.f .nil],.f (.int .i64 q)],rfl,⟨⟨rfl,rfl,rfl,rfl,rfl⟩,⟨rfl,rfl,rfl,rfl⟩,rfl,rfl⟩,by simp [idsS,idsC]⟩
set_option maxHeartbeats 4000000 in
theorem Do_flt (c : Cache) (e : Ev) (hb : CBound c) (hk : ckCache c = 0) (hl : c.2.2.1.length ≤ 1000000) (he : c.2.2.2.length ≤ 1000000) (hr : ∀ x ∈ c.2.2.2,x.2.1.length ≤ 1000000) {B : List Blob} {E : List Entry} {b : Bool} {ft : Int} {x : FV}
  (hD : DoF c.1 c.2.1 c.2.2.1 c.2.2.2 e (B,E,b,.v .nil,.v x,ft)) (hf : ft ≠ 0) : FRet Tryd.prog 5 [aCache c,aEv e] [zC,rAns false .nil .nil,.c (.v (.int .i64 ft))] := by
 have hc := CheckCache_f isDigest_f c hb
 have hO := own_f c hl he hr
 rw [hk] at hc
 have d0 : decide ((0 : Int) = 0) = true := rfl
 have d1 : decide (ft = 0) = false := dcF hf
 replace hf := hide hf
 replace hb := hide hb
 replace hr := hide hr
 clear hk
 obtain ⟨room,lease,bl,en⟩ := c
 obtain ⟨kind,at_,dg,ds,key,size⟩ := e
 dsimp only [DoF,rAnsM] at hD
 refine FCall.of_ax low_cache_Do ?_
 dsimp only [l_cache_Do,aEv,aCache] at hc hO ⊢
 refine srun_sound 300 _ _ _ _ ?_
 repeat' (first
  | (simp -implicitDefEqProofs only [*,addFp_wr,zr,Nat.reduceAdd,Nat.reduceSub,Nat.reduceMul,Nat.reduceLT,Nat.reduceLeDiff,Nat.reduceEqDiff,Nat.reduceBEq,reduceIte,reduceCtorEq,Int.reduceLE,Int.reduceLT,Int.reduceToNat,Int.reduceEq,Int.reduceNe])
  | ((first|apply zk0|apply zk1|apply zk2|apply zk3|apply zk4|apply zk5|apply zk6|apply zk7|apply zk8|apply zk9) <;> intro hc)
  |(refine callP0 rfl ?_)
  |(refine callD0 rfl ?_)
  |(refine cP (hc) ?_)
  |(refine cD (hc) ?_)
  |(refine cF (hc) ?_)
  |(refine cO (hc) ?_)
  |(refine cP (hO) ?_)
  |(refine cD (hO) ?_)
  |(refine cF (hO) ?_)
  |(refine cO (hO) ?_)
  | fail)
 refine gP hD 2 1 [.f (.int .i64 room),.f (.int .i64 lease),.sl 18 1 5 0 bl.length,.sl 1018 1 3 0 en.length] [] [aEv (kind,at_,dg,ds,key,size)] ?_
 clear hD
 repeat' (first
  | (simp -implicitDefEqProofs only [*,addFp_wr,zr,Nat.reduceAdd,Nat.reduceSub,Nat.reduceMul,Nat.reduceLT,Nat.reduceLeDiff,Nat.reduceEqDiff,Nat.reduceBEq,reduceIte,reduceCtorEq,Int.reduceLE,Int.reduceLT,Int.reduceToNat,Int.reduceEq,Int.reduceNe])
  | ((first|apply zk0|apply zk1|apply zk2|apply zk3|apply zk4|apply zk5|apply zk6|apply zk7|apply zk8|apply zk9) <;> intro hc)
  |(refine callP0 rfl ?_)
  |(refine callD0 rfl ?_)
  | fail)
 exact ⟨[.agg [.f (.int .i64 0),.f (.int .i64 0),.f .nil,.f .nil],.agg [.f (.bool false),.f .nil,.f .nil],.f (.int .i64 ft)],rfl,⟨⟨rfl,rfl,rfl,rfl,rfl⟩,⟨rfl,rfl,rfl,rfl⟩,rfl,rfl⟩,by simp [idsS,idsC]⟩
set_option maxHeartbeats 4000000 in
theorem Do_ok (c : Cache) (e : Ev) (hb : CBound c) (hk : ckCache c = 0) (hl : c.2.2.1.length ≤ 1000000) (he : c.2.2.2.length ≤ 1000000) (hr : ∀ x ∈ c.2.2.2,x.2.1.length ≤ 1000000) {B : List Blob} {E : List Entry} {b : Bool} {x : FV}
  (hD : DoF c.1 c.2.1 c.2.2.1 c.2.2.2 e (B,E,b,.v .nil,.v x,0)) : FRet Tryd.prog 5 [aCache c,aEv e] [.agg [.v (.int .i64 c.1),.v (.int .i64 c.2.1),.own 5 B.length (rowF fBlob B),.own 3 E.length (rowF fEntry E)],rAnsM b (.v .nil) (.v x),.c (.v (.int .i64 0))] := by
 have hc := CheckCache_f isDigest_f c hb
 have hO := own_f c hl he hr
 rw [hk] at hc
 have d0 : decide ((0 : Int) = 0) = true := rfl
 replace hb := hide hb
 replace hr := hide hr
 clear hk
 obtain ⟨room,lease,bl,en⟩ := c
 obtain ⟨kind,at_,dg,ds,key,size⟩ := e
 dsimp only [DoF,rAnsM,rcS] at hD
 refine FCall.of_ax low_cache_Do ?_
 dsimp only [l_cache_Do,aEv,aCache] at hc hO ⊢
 refine srun_sound 300 _ _ _ _ ?_
 repeat' (first
  | (simp -implicitDefEqProofs only [*,addFp_wr,zr,Nat.reduceAdd,Nat.reduceSub,Nat.reduceMul,Nat.reduceLT,Nat.reduceLeDiff,Nat.reduceEqDiff,Nat.reduceBEq,reduceIte,reduceCtorEq,Int.reduceLE,Int.reduceLT,Int.reduceToNat,Int.reduceEq,Int.reduceNe])
  | ((first|apply zk0|apply zk1|apply zk2|apply zk3|apply zk4|apply zk5|apply zk6|apply zk7|apply zk8|apply zk9) <;> intro hc)
  |(refine callP0 rfl ?_)
  |(refine callD0 rfl ?_)
  |(refine cP (hc) ?_)
  |(refine cD (hc) ?_)
  |(refine cF (hc) ?_)
  |(refine cO (hc) ?_)
  |(refine cP (hO) ?_)
  |(refine cD (hO) ?_)
  |(refine cF (hO) ?_)
  |(refine cO (hO) ?_)
  | fail)
 refine gP hD 2 1 [.f (.int .i64 room),.f (.int .i64 lease),.sl 18 1 5 0 bl.length,.sl 1018 1 3 0 en.length] [] [aEv (kind,at_,dg,ds,key,size)] ?_
 clear hD
 repeat' (first
  | (simp -implicitDefEqProofs only [*,addFp_wr,zr,Nat.reduceAdd,Nat.reduceSub,Nat.reduceMul,Nat.reduceLT,Nat.reduceLeDiff,Nat.reduceEqDiff,Nat.reduceBEq,reduceIte,reduceCtorEq,Int.reduceLE,Int.reduceLT,Int.reduceToNat,Int.reduceEq,Int.reduceNe])
  | ((first|apply zk0|apply zk1|apply zk2|apply zk3|apply zk4|apply zk5|apply zk6|apply zk7|apply zk8|apply zk9) <;> intro hc)
  |(refine callP0 rfl ?_)
  |(refine callD0 rfl ?_)
  | fail)
 exact ⟨[.agg [.f (.int .i64 room),.f (.int .i64 lease),.sl 21 1 5 0 B.length,.sl 1021 1 3 0 E.length],.agg [.f (.bool b),.f .nil,.f x],.f (.int .i64 0)],rfl,⟨⟨rfl,rfl,.inr ⟨_,_,rfl,rfl,lenB rfl⟩,.inr ⟨_,_,rfl,rfl,lenE rfl⟩,rfl⟩,⟨rfl,rfl,rfl,rfl⟩,rfl,rfl⟩,by simp [idsS,idsC]⟩
set_option maxHeartbeats 4000000 in
theorem Do_mis (c : Cache) (e : Ev) (hb : CBound c) (hk : ckCache c = 0) (hl : c.2.2.1.length ≤ 1000000) (he : c.2.2.2.length ≤ 1000000) (hr : ∀ x ∈ c.2.2.2,x.2.1.length ≤ 1000000) {B : List Blob} {E : List Entry} {b : Bool} {l : List ByteArray}
  (hD : DoF c.1 c.2.1 c.2.2.1 c.2.2.2 e (B,E,b,rcS l,.v .nil,0)) : FRet Tryd.prog 5 [aCache c,aEv e] [.agg [.v (.int .i64 c.1),.v (.int .i64 c.2.1),.own 5 B.length (rowF fBlob B),.own 3 E.length (rowF fEntry E)],rAnsM b (rcS l) (.v .nil),.c (.v (.int .i64 0))] := by
 have hc := CheckCache_f isDigest_f c hb
 have hO := own_f c hl he hr
 rw [hk] at hc
 have d0 : decide ((0 : Int) = 0) = true := rfl
 replace hb := hide hb
 replace hr := hide hr
 clear hk
 obtain ⟨room,lease,bl,en⟩ := c
 obtain ⟨kind,at_,dg,ds,key,size⟩ := e
 dsimp only [DoF,rAnsM,rcS] at hD
 refine FCall.of_ax low_cache_Do ?_
 dsimp only [l_cache_Do,aEv,aCache] at hc hO ⊢
 refine srun_sound 300 _ _ _ _ ?_
 repeat' (first
  | (simp -implicitDefEqProofs only [*,addFp_wr,zr,Nat.reduceAdd,Nat.reduceSub,Nat.reduceMul,Nat.reduceLT,Nat.reduceLeDiff,Nat.reduceEqDiff,Nat.reduceBEq,reduceIte,reduceCtorEq,Int.reduceLE,Int.reduceLT,Int.reduceToNat,Int.reduceEq,Int.reduceNe])
  | ((first|apply zk0|apply zk1|apply zk2|apply zk3|apply zk4|apply zk5|apply zk6|apply zk7|apply zk8|apply zk9) <;> intro hc)
  |(refine callP0 rfl ?_)
  |(refine callD0 rfl ?_)
  |(refine cP (hc) ?_)
  |(refine cD (hc) ?_)
  |(refine cF (hc) ?_)
  |(refine cO (hc) ?_)
  |(refine cP (hO) ?_)
  |(refine cD (hO) ?_)
  |(refine cF (hO) ?_)
  |(refine cO (hO) ?_)
  | fail)
 refine gP hD 2 1 [.f (.int .i64 room),.f (.int .i64 lease),.sl 18 1 5 0 bl.length,.sl 1018 1 3 0 en.length] [] [aEv (kind,at_,dg,ds,key,size)] ?_
 clear hD
 repeat' (first
  | (simp -implicitDefEqProofs only [*,addFp_wr,zr,Nat.reduceAdd,Nat.reduceSub,Nat.reduceMul,Nat.reduceLT,Nat.reduceLeDiff,Nat.reduceEqDiff,Nat.reduceBEq,reduceIte,reduceCtorEq,Int.reduceLE,Int.reduceLT,Int.reduceToNat,Int.reduceEq,Int.reduceNe])
  | ((first|apply zk0|apply zk1|apply zk2|apply zk3|apply zk4|apply zk5|apply zk6|apply zk7|apply zk8|apply zk9) <;> intro hc)
  |(refine callP0 rfl ?_)
  |(refine callD0 rfl ?_)
  | fail)
 exact ⟨[.agg [.f (.int .i64 room),.f (.int .i64 lease),.sl 21 1 5 0 B.length,.sl 1021 1 3 0 E.length],.agg [.f (.bool b),.sl 2021 1 1 0 l.length,.f .nil],.f (.int .i64 0)],rfl,⟨⟨rfl,rfl,.inr ⟨_,_,rfl,rfl,lenB rfl⟩,.inr ⟨_,_,rfl,rfl,lenE rfl⟩,rfl⟩,⟨rfl,.inr ⟨_,_,rfl,rfl,by rw [List.length_map,Nat.mul_one];exact Nat.le_refl _⟩,rfl,rfl⟩,rfl,rfl⟩,by simp [idsS,idsC]⟩
set_option maxHeartbeats 4000000 in
theorem Do_gon (c : Cache) (e : Ev) (hb : CBound c) (hk : ckCache c = 0) (hl : c.2.2.1.length ≤ 1000000) (he : c.2.2.2.length ≤ 1000000) (hr : ∀ x ∈ c.2.2.2,x.2.1.length ≤ 1000000) {B : List Blob} {E : List Entry} {b : Bool} {l : List ByteArray}
  (hD : DoF c.1 c.2.1 c.2.2.1 c.2.2.2 e (B,E,b,.v .nil,rcS l,0)) : FRet Tryd.prog 5 [aCache c,aEv e] [.agg [.v (.int .i64 c.1),.v (.int .i64 c.2.1),.own 5 B.length (rowF fBlob B),.own 3 E.length (rowF fEntry E)],rAnsM b (.v .nil) (rcS l),.c (.v (.int .i64 0))] := by
 have hc := CheckCache_f isDigest_f c hb
 have hO := own_f c hl he hr
 rw [hk] at hc
 have d0 : decide ((0 : Int) = 0) = true := rfl
 replace hb := hide hb
 replace hr := hide hr
 clear hk
 obtain ⟨room,lease,bl,en⟩ := c
 obtain ⟨kind,at_,dg,ds,key,size⟩ := e
 dsimp only [DoF,rAnsM,rcS] at hD
 refine FCall.of_ax low_cache_Do ?_
 dsimp only [l_cache_Do,aEv,aCache] at hc hO ⊢
 refine srun_sound 300 _ _ _ _ ?_
 repeat' (first
  | (simp -implicitDefEqProofs only [*,addFp_wr,zr,Nat.reduceAdd,Nat.reduceSub,Nat.reduceMul,Nat.reduceLT,Nat.reduceLeDiff,Nat.reduceEqDiff,Nat.reduceBEq,reduceIte,reduceCtorEq,Int.reduceLE,Int.reduceLT,Int.reduceToNat,Int.reduceEq,Int.reduceNe])
  | ((first|apply zk0|apply zk1|apply zk2|apply zk3|apply zk4|apply zk5|apply zk6|apply zk7|apply zk8|apply zk9) <;> intro hc)
  |(refine callP0 rfl ?_)
  |(refine callD0 rfl ?_)
  |(refine cP (hc) ?_)
  |(refine cD (hc) ?_)
  |(refine cF (hc) ?_)
  |(refine cO (hc) ?_)
  |(refine cP (hO) ?_)
  |(refine cD (hO) ?_)
  |(refine cF (hO) ?_)
  |(refine cO (hO) ?_)
  | fail)
 refine gP hD 2 1 [.f (.int .i64 room),.f (.int .i64 lease),.sl 18 1 5 0 bl.length,.sl 1018 1 3 0 en.length] [] [aEv (kind,at_,dg,ds,key,size)] ?_
 clear hD
 repeat' (first
  | (simp -implicitDefEqProofs only [*,addFp_wr,zr,Nat.reduceAdd,Nat.reduceSub,Nat.reduceMul,Nat.reduceLT,Nat.reduceLeDiff,Nat.reduceEqDiff,Nat.reduceBEq,reduceIte,reduceCtorEq,Int.reduceLE,Int.reduceLT,Int.reduceToNat,Int.reduceEq,Int.reduceNe])
  | ((first|apply zk0|apply zk1|apply zk2|apply zk3|apply zk4|apply zk5|apply zk6|apply zk7|apply zk8|apply zk9) <;> intro hc)
  |(refine callP0 rfl ?_)
  |(refine callD0 rfl ?_)
  | fail)
 exact ⟨[.agg [.f (.int .i64 room),.f (.int .i64 lease),.sl 21 1 5 0 B.length,.sl 1021 1 3 0 E.length],.agg [.f (.bool b),.f .nil,.sl 2021 1 1 0 l.length],.f (.int .i64 0)],rfl,⟨⟨rfl,rfl,.inr ⟨_,_,rfl,rfl,lenB rfl⟩,.inr ⟨_,_,rfl,rfl,lenE rfl⟩,rfl⟩,⟨rfl,rfl,.inr ⟨_,_,rfl,rfl,by rw [List.length_map,Nat.mul_one];exact Nat.le_refl _⟩,rfl⟩,rfl,rfl⟩,by simp [idsS,idsC]⟩
end Go.Proofs.YtanhelgblnmdcaaDoor
