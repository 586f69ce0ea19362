/-
  The laws of a step of the cache: walks. No statement of the seat is proved here; no conditions.
-/
import Derived.Test.YtchiicfnejmmbaaDoorLa
namespace Go.Proofs.YtchiicfnejmmbaaDoor
open Go.RowKit Go.Shelf
set_option linter.unusedVariables false
set_option linter.unusedSimpArgs false
set_option maxRecDepth 100000

theorem doAny (c : Cache) (e : Ev) (hb : CBound c) (hl : (e.2.2.2.1.length : Int) ≤ 9223372036854775807) : ∃ r l fb fe b m g f,FRet Tryd.prog 7 [aCache c,aEv e] [.agg [.v (.int .i64 r),.v (.int .i64 l),.v fb,.v fe],rAns b m g,.c (.v (.int .i64 f))] ∧ f = doErr c e ∧ (f ≠ 0 → b = false) ∧ (f = 0 → b = (doR c e).2.2.1 ∧ aCache (doC c e) = .agg [.f (.int .i64 r),.f (.int .i64 l),.f fb,.f fe]) := by
 by_cases h : doErr c e = 0
 ·exact ⟨_,_,_,_,_,_,_,_,Do_yes c e hb hl h,h.symm,fun h => absurd rfl h,fun _ => ⟨rfl,rfl⟩⟩
 ·exact ⟨_,_,_,_,_,_,_,_,Do_no c e hb hl h,rfl,fun _ => rfl,fun h2 => absurd h2 h⟩
set_option maxHeartbeats 4000000 in
theorem findsWhole_law (c : Cache) (key : ByteArray) (ds : List ByteArray) (at_ : Int) (hb : SBound c) (hl : (ds.length : Int) ≤ 9223372036854775807) : FRet Tryd.prog 4 [aCache c,.f (.str key),.f (frStrs ds),.f (.int .i64 at_)] [.c (.v (.bool true))] := by
 obtain ⟨r1,l1,fb1,fe1,b1,m1,g1,f1,k1,e1,-,x1⟩ := doAny c (7,at_,⟨#[]⟩,[],key,0) hb.1 (by show ((0 : Nat) : Int) ≤ _;omega)
 obtain ⟨r2,l2,fb2,fe2,b2,m2,g2,f2,k2,e2,n2,x2⟩ := doAny c (6,at_,⟨#[]⟩,ds,key,0) hb.1 hl
 have w1 : f1 = 0 → b1 = true → FRet Tryd.prog 10 [.agg [.f (.int .i64 r1),.f (.int .i64 l1),.f fb1,.f fe1],.f (.str key)] [.c (.v (.bool true)),.c (.v (.int .i64 0))] := fun h h2 => by
  obtain ⟨q1,q2⟩ := x1 h
  have h0 := e1.symm.trans h
  obtain ⟨p1,p2⟩ := find_whole h0 (q1.symm.trans h2)
  have := Whole_f (doC c (7,at_,⟨#[]⟩,[],key,0)) key (sbound_of (right_iff.1 (doC_right (doErr_right h0).1)))
  rw [p1,p2,if_pos rfl,q2] at this
  exact this
 have w2 : f2 = 0 → b2 = true → FRet Tryd.prog 10 [.agg [.f (.int .i64 r2),.f (.int .i64 l2),.f fb2,.f fe2],.f (.str key)] [.c (.v (.bool true)),.c (.v (.int .i64 0))] ∧ ∃ r l fb fe m g,FRet Tryd.prog 7 [.agg [.f (.int .i64 r2),.f (.int .i64 l2),.f fb2,.f fe2],aEv (7,at_,⟨#[]⟩,[],key,0)] [.agg [.v (.int .i64 r),.v (.int .i64 l),.v fb,.v fe],rAns true m g,.c (.v (.int .i64 0))] := fun h h2 => by
  obtain ⟨q1,q2⟩ := x2 h
  have h0 := e2.symm.trans h
  obtain ⟨⟨p1,p2⟩,p3,p4⟩ := store_whole h0 (q1.symm.trans h2)
  have hB := sbound_of (right_iff.1 (doC_right (e := (6,at_,⟨#[]⟩,ds,key,0)) (doErr_right h0).1))
  have := Whole_f (doC c (6,at_,⟨#[]⟩,ds,key,0)) key hB
  rw [p1,p2,if_pos rfl,q2] at this
  have h3 := Do_yes (doC c (6,at_,⟨#[]⟩,ds,key,0)) (7,at_,⟨#[]⟩,[],key,0) hB (by show ((0 : Nat) : Int) ≤ _;omega) p3
  rw [p4,q2] at h3
  exact ⟨this,_,_,_,_,_,_,h3⟩
 clear e1 e2 x1 x2 hb
 obtain ⟨room,lease,bl,en⟩ := c
 by_cases z1 : f1 = 0
 ·subst z1
  have v1 := w1 rfl
  clear w1
  cases b1
  ·clear v1
   by_cases z2 : f2 = 0
   ·subst z2
    have v2 := w2 rfl
    clear w2 n2
    cases b2
    ·clear v2
     refine FCall.of_ax low_law7_CacheFindsWhole ?_
     dsimp only [l_law7_CacheFindsWhole,aCache,aEv,rAns] at k1 k2 ⊢
     refine srun_sound 300 _ _ _ _ ?_
     replace k1 := hide k1
     replace k2 := hide k2
     repeat' (first
      | (simp -implicitDefEqProofs only [*,addFp_wr,zr,Nat.reduceAdd,Nat.reduceSub,Nat.reduceMul,Nat.reduceLT,Nat.reduceLeDiff,Nat.reduceEqDiff,Nat.reduceBEq,reduceIte,reduceCtorEq,Int.reduceLE,Int.reduceLT,Int.reduceToNat,Int.reduceEq,Int.reduceNe])
      | ((first|apply zk0|apply zk1|apply zk2|apply zk3|apply zk4|apply zk5|apply zk6|apply zk7|apply zk8|apply zk9) <;> intro hc)
      |(refine callP0 rfl ?_)
      |(refine callD0 rfl ?_)
      |(refine cP (k1.out) ?_)
      |(refine cD (k1.out) ?_)
      |(refine cF (k1.out) ?_)
      |(refine cP (k2.out) ?_)
      |(refine cD (k2.out) ?_)
      |(refine cF (k2.out) ?_)
      |(refine cP (awake_f) ?_)
      |(refine cD (awake_f) ?_)
      |(refine cF (awake_f) ?_)
      | fail)
     exact ret_v
    ·obtain ⟨k3,r,l,fb,fe,m,g,k4⟩ := v2 rfl
     clear v2
     refine FCall.of_ax low_law7_CacheFindsWhole ?_
     dsimp only [l_law7_CacheFindsWhole,aCache,aEv,rAns] at k1 k2 k3 k4 ⊢
     refine srun_sound 300 _ _ _ _ ?_
     replace k1 := hide k1
     replace k2 := hide k2
     replace k3 := hide k3
     replace k4 := hide k4
     repeat' (first
      | (simp -implicitDefEqProofs only [*,addFp_wr,zr,Nat.reduceAdd,Nat.reduceSub,Nat.reduceMul,Nat.reduceLT,Nat.reduceLeDiff,Nat.reduceEqDiff,Nat.reduceBEq,reduceIte,reduceCtorEq,Int.reduceLE,Int.reduceLT,Int.reduceToNat,Int.reduceEq,Int.reduceNe])
      | ((first|apply zk0|apply zk1|apply zk2|apply zk3|apply zk4|apply zk5|apply zk6|apply zk7|apply zk8|apply zk9) <;> intro hc)
      |(refine callP0 rfl ?_)
      |(refine callD0 rfl ?_)
      |(refine cP (k1.out) ?_)
      |(refine cD (k1.out) ?_)
      |(refine cF (k1.out) ?_)
      |(refine cP (k2.out) ?_)
      |(refine cD (k2.out) ?_)
      |(refine cF (k2.out) ?_)
      |(refine cP (k3.out) ?_)
      |(refine cD (k3.out) ?_)
      |(refine cF (k3.out) ?_)
      |(refine cP (k4.out) ?_)
      |(refine cD (k4.out) ?_)
      |(refine cF (k4.out) ?_)
      |(refine cP (awake_f) ?_)
      |(refine cD (awake_f) ?_)
      |(refine cF (awake_f) ?_)
      | fail)
     exact ret_v
   ·obtain rfl := n2 z2
    clear w2 n2
    have d2 : decide (f2 = 0) = false := dcF z2
    clear z2
    refine FCall.of_ax low_law7_CacheFindsWhole ?_
    dsimp only [l_law7_CacheFindsWhole,aCache,aEv,rAns] at k1 k2 ⊢
    refine srun_sound 300 _ _ _ _ ?_
    replace k1 := hide k1
    replace k2 := hide k2
    repeat' (first
     | (simp -implicitDefEqProofs only [*,addFp_wr,zr,Nat.reduceAdd,Nat.reduceSub,Nat.reduceMul,Nat.reduceLT,Nat.reduceLeDiff,Nat.reduceEqDiff,Nat.reduceBEq,reduceIte,reduceCtorEq,Int.reduceLE,Int.reduceLT,Int.reduceToNat,Int.reduceEq,Int.reduceNe])
     | ((first|apply zk0|apply zk1|apply zk2|apply zk3|apply zk4|apply zk5|apply zk6|apply zk7|apply zk8|apply zk9) <;> intro hc)
     |(refine callP0 rfl ?_)
     |(refine callD0 rfl ?_)
     |(refine cP (k1.out) ?_)
     |(refine cD (k1.out) ?_)
     |(refine cF (k1.out) ?_)
     |(refine cP (k2.out) ?_)
     |(refine cD (k2.out) ?_)
     |(refine cF (k2.out) ?_)
     |(refine cP (awake_f) ?_)
     |(refine cD (awake_f) ?_)
     |(refine cF (awake_f) ?_)
     | fail)
    exact ret_v
  ·have k0 := v1 rfl
   clear v1
   by_cases z2 : f2 = 0
   ·subst z2
    have v2 := w2 rfl
    clear w2 n2
    cases b2
    ·clear v2
     refine FCall.of_ax low_law7_CacheFindsWhole ?_
     dsimp only [l_law7_CacheFindsWhole,aCache,aEv,rAns] at k0 k1 k2 ⊢
     refine srun_sound 300 _ _ _ _ ?_
     replace k0 := hide k0
     replace k1 := hide k1
     replace k2 := hide k2
     repeat' (first
      | (simp -implicitDefEqProofs only [*,addFp_wr,zr,Nat.reduceAdd,Nat.reduceSub,Nat.reduceMul,Nat.reduceLT,Nat.reduceLeDiff,Nat.reduceEqDiff,Nat.reduceBEq,reduceIte,reduceCtorEq,Int.reduceLE,Int.reduceLT,Int.reduceToNat,Int.reduceEq,Int.reduceNe])
      | ((first|apply zk0|apply zk1|apply zk2|apply zk3|apply zk4|apply zk5|apply zk6|apply zk7|apply zk8|apply zk9) <;> intro hc)
      |(refine callP0 rfl ?_)
      |(refine callD0 rfl ?_)
      |(refine cP (k0.out) ?_)
      |(refine cD (k0.out) ?_)
      |(refine cF (k0.out) ?_)
      |(refine cP (k1.out) ?_)
      |(refine cD (k1.out) ?_)
      |(refine cF (k1.out) ?_)
      |(refine cP (k2.out) ?_)
      |(refine cD (k2.out) ?_)
      |(refine cF (k2.out) ?_)
      |(refine cP (awake_f) ?_)
      |(refine cD (awake_f) ?_)
      |(refine cF (awake_f) ?_)
      | fail)
     exact ret_v
    ·obtain ⟨k3,r,l,fb,fe,m,g,k4⟩ := v2 rfl
     clear v2
     refine FCall.of_ax low_law7_CacheFindsWhole ?_
     dsimp only [l_law7_CacheFindsWhole,aCache,aEv,rAns] at k0 k1 k2 k3 k4 ⊢
     refine srun_sound 300 _ _ _ _ ?_
     replace k0 := hide k0
     replace k1 := hide k1
     replace k2 := hide k2
     replace k3 := hide k3
     replace k4 := hide k4
     repeat' (first
      | (simp -implicitDefEqProofs only [*,addFp_wr,zr,Nat.reduceAdd,Nat.reduceSub,Nat.reduceMul,Nat.reduceLT,Nat.reduceLeDiff,Nat.reduceEqDiff,Nat.reduceBEq,reduceIte,reduceCtorEq,Int.reduceLE,Int.reduceLT,Int.reduceToNat,Int.reduceEq,Int.reduceNe])
      | ((first|apply zk0|apply zk1|apply zk2|apply zk3|apply zk4|apply zk5|apply zk6|apply zk7|apply zk8|apply zk9) <;> intro hc)
      |(refine callP0 rfl ?_)
      |(refine callD0 rfl ?_)
      |(refine cP (k0.out) ?_)
      |(refine cD (k0.out) ?_)
      |(refine cF (k0.out) ?_)
      |(refine cP (k1.out) ?_)
      |(refine cD (k1.out) ?_)
      |(refine cF (k1.out) ?_)
      |(refine cP (k2.out) ?_)
      |(refine cD (k2.out) ?_)
      |(refine cF (k2.out) ?_)
      |(refine cP (k3.out) ?_)
      |(refine cD (k3.out) ?_)
      |(refine cF (k3.out) ?_)
      |(refine cP (k4.out) ?_)
      |(refine cD (k4.out) ?_)
      |(refine cF (k4.out) ?_)
      |(refine cP (awake_f) ?_)
      |(refine cD (awake_f) ?_)
      |(refine cF (awake_f) ?_)
      | fail)
     exact ret_v
   ·obtain rfl := n2 z2
    clear w2 n2
    have d2 : decide (f2 = 0) = false := dcF z2
    clear z2
    refine FCall.of_ax low_law7_CacheFindsWhole ?_
    dsimp only [l_law7_CacheFindsWhole,aCache,aEv,rAns] at k0 k1 k2 ⊢
    refine srun_sound 300 _ _ _ _ ?_
    replace k0 := hide k0
    replace k1 := hide k1
    replace k2 := hide k2
    repeat' (first
     | (simp -implicitDefEqProofs only [*,addFp_wr,zr,Nat.reduceAdd,Nat.reduceSub,Nat.reduceMul,Nat.reduceLT,Nat.reduceLeDiff,Nat.reduceEqDiff,Nat.reduceBEq,reduceIte,reduceCtorEq,Int.reduceLE,Int.reduceLT,Int.reduceToNat,Int.reduceEq,Int.reduceNe])
     | ((first|apply zk0|apply zk1|apply zk2|apply zk3|apply zk4|apply zk5|apply zk6|apply zk7|apply zk8|apply zk9) <;> intro hc)
     |(refine callP0 rfl ?_)
     |(refine callD0 rfl ?_)
     |(refine cP (k0.out) ?_)
     |(refine cD (k0.out) ?_)
     |(refine cF (k0.out) ?_)
     |(refine cP (k1.out) ?_)
     |(refine cD (k1.out) ?_)
     |(refine cF (k1.out) ?_)
     |(refine cP (k2.out) ?_)
     |(refine cD (k2.out) ?_)
     |(refine cF (k2.out) ?_)
     |(refine cP (awake_f) ?_)
     |(refine cD (awake_f) ?_)
     |(refine cF (awake_f) ?_)
     | fail)
    exact ret_v
 ·have d1 : decide (f1 = 0) = false := dcF z1
  clear z1 w1
  by_cases z2 : f2 = 0
  ·subst z2
   have v2 := w2 rfl
   clear w2 n2
   cases b2
   ·clear v2
    refine FCall.of_ax low_law7_CacheFindsWhole ?_
    dsimp only [l_law7_CacheFindsWhole,aCache,aEv,rAns] at k1 k2 ⊢
    refine srun_sound 300 _ _ _ _ ?_
    replace k1 := hide k1
    replace k2 := hide k2
    repeat' (first
     | (simp -implicitDefEqProofs only [*,addFp_wr,zr,Nat.reduceAdd,Nat.reduceSub,Nat.reduceMul,Nat.reduceLT,Nat.reduceLeDiff,Nat.reduceEqDiff,Nat.reduceBEq,reduceIte,reduceCtorEq,Int.reduceLE,Int.reduceLT,Int.reduceToNat,Int.reduceEq,Int.reduceNe])
     | ((first|apply zk0|apply zk1|apply zk2|apply zk3|apply zk4|apply zk5|apply zk6|apply zk7|apply zk8|apply zk9) <;> intro hc)
     |(refine callP0 rfl ?_)
     |(refine callD0 rfl ?_)
     |(refine cP (k1.out) ?_)
     |(refine cD (k1.out) ?_)
     |(refine cF (k1.out) ?_)
     |(refine cP (k2.out) ?_)
     |(refine cD (k2.out) ?_)
     |(refine cF (k2.out) ?_)
     |(refine cP (awake_f) ?_)
     |(refine cD (awake_f) ?_)
     |(refine cF (awake_f) ?_)
     | fail)
    exact ret_v
   ·obtain ⟨k3,r,l,fb,fe,m,g,k4⟩ := v2 rfl
    clear v2
    refine FCall.of_ax low_law7_CacheFindsWhole ?_
    dsimp only [l_law7_CacheFindsWhole,aCache,aEv,rAns] at k1 k2 k3 k4 ⊢
    refine srun_sound 300 _ _ _ _ ?_
    replace k1 := hide k1
    replace k2 := hide k2
    replace k3 := hide k3
    replace k4 := hide k4
    repeat' (first
     | (simp -implicitDefEqProofs only [*,addFp_wr,zr,Nat.reduceAdd,Nat.reduceSub,Nat.reduceMul,Nat.reduceLT,Nat.reduceLeDiff,Nat.reduceEqDiff,Nat.reduceBEq,reduceIte,reduceCtorEq,Int.reduceLE,Int.reduceLT,Int.reduceToNat,Int.reduceEq,Int.reduceNe])
     | ((first|apply zk0|apply zk1|apply zk2|apply zk3|apply zk4|apply zk5|apply zk6|apply zk7|apply zk8|apply zk9) <;> intro hc)
     |(refine callP0 rfl ?_)
     |(refine callD0 rfl ?_)
     |(refine cP (k1.out) ?_)
     |(refine cD (k1.out) ?_)
     |(refine cF (k1.out) ?_)
     |(refine cP (k2.out) ?_)
     |(refine cD (k2.out) ?_)
     |(refine cF (k2.out) ?_)
     |(refine cP (k3.out) ?_)
     |(refine cD (k3.out) ?_)
     |(refine cF (k3.out) ?_)
     |(refine cP (k4.out) ?_)
     |(refine cD (k4.out) ?_)
     |(refine cF (k4.out) ?_)
     |(refine cP (awake_f) ?_)
     |(refine cD (awake_f) ?_)
     |(refine cF (awake_f) ?_)
     | fail)
    exact ret_v
  ·obtain rfl := n2 z2
   clear w2 n2
   have d2 : decide (f2 = 0) = false := dcF z2
   clear z2
   refine FCall.of_ax low_law7_CacheFindsWhole ?_
   dsimp only [l_law7_CacheFindsWhole,aCache,aEv,rAns] at k1 k2 ⊢
   refine srun_sound 300 _ _ _ _ ?_
   replace k1 := hide k1
   replace k2 := hide k2
   repeat' (first
    | (simp -implicitDefEqProofs only [*,addFp_wr,zr,Nat.reduceAdd,Nat.reduceSub,Nat.reduceMul,Nat.reduceLT,Nat.reduceLeDiff,Nat.reduceEqDiff,Nat.reduceBEq,reduceIte,reduceCtorEq,Int.reduceLE,Int.reduceLT,Int.reduceToNat,Int.reduceEq,Int.reduceNe])
    | ((first|apply zk0|apply zk1|apply zk2|apply zk3|apply zk4|apply zk5|apply zk6|apply zk7|apply zk8|apply zk9) <;> intro hc)
    |(refine callP0 rfl ?_)
    |(refine callD0 rfl ?_)
    |(refine cP (k1.out) ?_)
    |(refine cD (k1.out) ?_)
    |(refine cF (k1.out) ?_)
    |(refine cP (k2.out) ?_)
    |(refine cD (k2.out) ?_)
    |(refine cF (k2.out) ?_)
    |(refine cP (awake_f) ?_)
    |(refine cD (awake_f) ?_)
    |(refine cF (awake_f) ?_)
    | fail)
   exact ret_v
end Go.Proofs.YtchiicfnejmmbaaDoor
