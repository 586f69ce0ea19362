/-
  The law MergedHasBoth: walk. No statement of the seat is proved here; no conditions.
-/
import Derived.Test.YtalfepdfiehecaaDoorMgA
import Derived.Test.YtalfepdfiehecaaDoorLa
import Derived.Test.YtalfepdfiehecaaDoorCaL
namespace Go.Proofs.YtalfepdfiehecaaDoor
open Go.RowKit Go.Shelf
set_option linter.unusedVariables false
set_option linter.unusedSimpArgs false
set_option maxRecDepth 100000

theorem Merged_yes (a b : Cache) (ha : CBound a) (hb : CBound b) (h : mgErr a b = 0) : FRet Tryd.prog 8 [aCache a,aCache b] [.agg (rcCache (mgV a b)),.c (.v (.int .i64 0))] := by
 have k := Merged_f a b ha hb
 rw [mgRs,if_pos h] at k
 have e : (mgV a b).1 = a.1 ∧ (mgV a b).2.1 = a.2.1 := by
  obtain ⟨_,_,B,_,hV,_⟩ := mgErr_zero h
  rw [hV];exact ⟨rfl,rfl⟩
 refine k.frz2 ?_
 unfold rcCache
 rw [e.1,e.2]
 exact ⟨⟨rfl,rfl,rcF_row0 (enc := fBlob) (fun _ => rfl),rcF_row0 (enc := fEntry) (fun _ => rfl),trivial⟩,rfl,trivial⟩
theorem Merged_no (a b : Cache) (ha : CBound a) (hb : CBound b) (h : mgErr a b ≠ 0) : FRet Tryd.prog 8 [aCache a,aCache b] [zRs,.c (.v (.int .i64 (mgErr a b)))] := by
 have k := Merged_f a b ha hb
 rw [mgRs,if_neg h] at k
 exact k
set_option maxHeartbeats 8000000 in
theorem hasBoth_law (a b : Cache) (key : ByteArray) (ha : SBound a) (hb : SBound b) : FRet Tryd.prog 4 [aCache a,aCache b,.f (.str key)] [.c (.v (.bool true))] := by
 have hself : ∃ r l fb fe f,FRet Tryd.prog 8 [aCache a,aCache a] [.agg [.v (.int .i64 r),.v (.int .i64 l),.v fb,.v fe],.c (.v (.int .i64 f))] ∧ (f = 0 → r = a.1 ∧ l = a.2.1 ∧ fb = frBlobs a.2.2.1 ∧ fe = frEntries a.2.2.2) := by
  by_cases h : mgErr a a = 0
  ·have k := Merged_yes a a ha.1 ha.1 h
   rw [mgV_self h] at k
   exact ⟨_,_,_,_,_,k,fun _ => ⟨rfl,rfl,rfl,rfl⟩⟩
  ·exact ⟨_,_,_,_,_,Merged_no a a ha.1 ha.1 h,fun h2 => absurd h2 h⟩
 obtain ⟨r,l,fb,fe,f,k1,x1⟩ := hself
 have k2 := Same_f a a ha
 rw [show decide (a = a) = true by simp] at k2
 have dz : decide ((0 : Int) = 0) = true := rfl
 have dz2 : decide (((0 : Nat) : Int) = 0) = true := rfl
 by_cases h : mgErr a b = 0
 case neg =>
  have k3 := Merged_no a b ha.1 hb.1 h
  generalize mgErr a b = q at *
  have d0 : decide (q = 0) = false := dcF h
  replace h := hide h
  clear ha hb
  obtain ⟨room,lease,bl,en⟩ := a
  obtain ⟨room2,lease2,bl2,en2⟩ := b
  by_cases hf : f = 0
  ·obtain ⟨rfl,rfl,rfl,rfl⟩ := x1 hf
   subst hf
   clear x1
   refine FCall.of_ax low_law7_CacheMergedHasBoth ?_
   dsimp only [l_law7_CacheMergedHasBoth,aCache,zRs] at k1 k2 k3 ⊢
   refine srun_sound 300 _ _ _ _ ?_
   replace k1 := hide k1
   replace k2 := hide k2
   replace k3 := hide k3
   repeat' (first
    | (simp -implicitDefEqProofs only [*,addFp_wr,zr,Nat.reduceAdd,Nat.reduceSub,Nat.reduceMul,Nat.reduceLT,Nat.reduceLeDiff,Nat.reduceEqDiff,Nat.reduceBEq,reduceIte,reduceCtorEq,Int.reduceLE,Int.reduceLT,Int.reduceToNat,Int.reduceEq,Int.reduceNe])
    | ((first|apply zk0|apply zk1|apply zk2|apply zk3|apply zk4|apply zk5|apply zk6|apply zk7|apply zk8|apply zk9) <;> intro hc)
    |(refine callP0 rfl ?_)
    |(refine callD0 rfl ?_)
    |(refine cP (k1.out) ?_)
    |(refine cD (k1.out) ?_)
    |(refine cF (k1.out) ?_)
    |(refine cP (k3.out) ?_)
    |(refine cD (k3.out) ?_)
    |(refine cF (k3.out) ?_)
    |(refine cP (k2.out) ?_)
    |(refine cD (k2.out) ?_)
    |(refine cF (k2.out) ?_)
    |(refine cP (awake_f) ?_)
    |(refine cD (awake_f) ?_)
    |(refine cF (awake_f) ?_)
    | fail)
   exact ret_v
  ·have df : decide (f = 0) = false := dcF hf
   clear x1 k2
   replace hf := hide hf
   refine FCall.of_ax low_law7_CacheMergedHasBoth ?_
   dsimp only [l_law7_CacheMergedHasBoth,aCache,zRs] at k1 k3 ⊢
   refine srun_sound 300 _ _ _ _ ?_
   replace k1 := hide k1
   replace k3 := hide k3
   repeat' (first
    | (simp -implicitDefEqProofs only [*,addFp_wr,zr,Nat.reduceAdd,Nat.reduceSub,Nat.reduceMul,Nat.reduceLT,Nat.reduceLeDiff,Nat.reduceEqDiff,Nat.reduceBEq,reduceIte,reduceCtorEq,Int.reduceLE,Int.reduceLT,Int.reduceToNat,Int.reduceEq,Int.reduceNe])
    | ((first|apply zk0|apply zk1|apply zk2|apply zk3|apply zk4|apply zk5|apply zk6|apply zk7|apply zk8|apply zk9) <;> intro hc)
    |(refine callP0 rfl ?_)
    |(refine callD0 rfl ?_)
    |(refine cP (k1.out) ?_)
    |(refine cD (k1.out) ?_)
    |(refine cF (k1.out) ?_)
    |(refine cP (k3.out) ?_)
    |(refine cD (k3.out) ?_)
    |(refine cF (k3.out) ?_)
    |(refine cP (awake_f) ?_)
    |(refine cD (awake_f) ?_)
    |(refine cF (awake_f) ?_)
    | fail)
   exact ret_v
 have k3 := Merged_yes a b ha.1 hb.1 h
 obtain ⟨h0,h1,B,hB,hV,h2⟩ := mgErr_zero h
 have hRa := right_iff.1 h0
 have hRb := right_iff.1 h1
 have hRx := right_iff.1 h2
 have hA : ∀ x ∈ a.2.2.1,(blV (mgV a b).2.2.1 x.1).2 = true := fun x hx => by
  rw [blV_is,hV]
  exact (mgBL_has hRa.brise hB _).2 (.inl (hasK_true.2 ⟨x,hx,rfl⟩))
 have hBb : ∀ x ∈ b.2.2.1,(blV (mgV a b).2.2.1 x.1).2 = true := fun x hx => by
  rw [blV_is,hV]
  exact (mgBL_has hRa.brise hB _).2 (.inr (hasK_true.2 ⟨x,hx,rfl⟩))
 have kW := Whole_f a key ha.1
 have kX := Whole_f (mgV a b) key (sbound_of hRx)
 have hpq := mg_whole (key := key) h
 have w1 : wholeErr a key = if isDig key = true then 0 else 3 := by rw [wholeErr,if_neg (fun h => h h0)]
 have w2 : wholeErr (mgV a b) key = if isDig key = true then 0 else 3 := by rw [wholeErr,if_neg (fun h => h h2)]
 rw [w1] at kW
 rw [w2] at kX
 have kB := fun d => blob_f (mgV a b) d (by have := hRx.blen;omega)
 have la := hRa.blen
 have lb := hRb.blen
 clear hRa hRb hRx w1 w2 h0 h1 h2 hB hV h ha hb
 generalize wholeV a key = p at *
 generalize wholeV (mgV a b) key = q at *
 generalize mgV a b = x at *
 obtain ⟨room,lease,bl,en⟩ := a
 obtain ⟨room2,lease2,bl2,en2⟩ := b
 obtain ⟨xr,xl,xb,xe⟩ := x
 dsimp only at hA hBb la lb kB
 have hK : ∃ (p' : Bool) (e : Int) (q' : Bool),FRet Tryd.prog 13 [aCache (room,lease,bl,en),.f (.str key)] [.c (.v (.bool p')),.c (.v (.int .i64 e))] ∧ FRet Tryd.prog 13 [aCache (xr,xl,xb,xe),.f (.str key)] [.c (.v (.bool q')),.c (.v (.int .i64 e))] ∧ (e = 0 → p' = true → q' = true) := by
  by_cases hd : isDig key = true
  ·rw [if_pos hd,if_pos rfl] at kW kX
   exact ⟨_,_,_,kW,kX,fun _ => hpq⟩
  ·rw [if_neg hd,if_neg (by decide)] at kW kX
   exact ⟨_,_,_,kW,kX,fun h => by cases h⟩
 obtain ⟨p',e,q',kP,kQ,hpe⟩ := hK
 clear kW kX hpq p q
 replace kB := hide kB
 replace hA := hide hA
 replace hBb := hide hBb
 have key2 : ∀ (sf : Bool),(if sf = true then FRet Tryd.prog 8 [aCache (room,lease,bl,en),aCache (room,lease,bl,en)] [.agg (rcCache (room,lease,bl,en)),.c (.v (.int .i64 0))] else f ≠ 0) → FRet Tryd.prog 4 [aCache (room,lease,bl,en),aCache (room2,lease2,bl2,en2),.f (.str key)] [.c (.v (.bool true))] := fun sf hsf => by
  refine FCall.of_ax low_law7_CacheMergedHasBoth ?_
  cases sf
  all_goals
   simp only [Bool.false_eq_true,if_true,if_false] at hsf
   dsimp only [l_law7_CacheMergedHasBoth,aCache,rcCache] at k1 k2 k3 kB kP kQ hsf ⊢
   refine srun_sound 300 _ _ _ _ ?_
   replace k1 := hide k1
   replace k2 := hide k2
   replace k3 := hide k3
   replace kP := hide kP
   replace kQ := hide kQ
   clear x1
  ·have df : decide (f = 0) = false := dcF hsf
   replace hsf := hide hsf
   repeat' (first
    | (simp -implicitDefEqProofs only [*,addFp_wr,zr,Nat.reduceAdd,Nat.reduceSub,Nat.reduceMul,Nat.reduceLT,Nat.reduceLeDiff,Nat.reduceEqDiff,Nat.reduceBEq,reduceIte,reduceCtorEq,Int.reduceLE,Int.reduceLT,Int.reduceToNat,Int.reduceEq,Int.reduceNe])
    | ((first|apply zk0|apply zk1|apply zk2|apply zk3|apply zk4|apply zk5|apply zk6|apply zk7|apply zk8|apply zk9) <;> intro hc)
    |(refine callP0 rfl ?_)
    |(refine callD0 rfl ?_)
    |(refine cP (k1.out) ?_)
    |(refine cD (k1.out) ?_)
    |(refine cF (k1.out) ?_)
    |(refine cP (k3.out) ?_)
    |(refine cD (k3.out) ?_)
    |(refine cF (k3.out) ?_)
    | fail)
   clear hsf k1 k2 k3
   refine ax_loopU (S := Nat) 118 [2,3,4,9] [3,4,9] (fun s => [(11,.f (.int .i64 s))]) (fun s => []) (fun s => s ≤ bl.length) (fun s => bl.length - s) (0) [] ?_ ?_ fun s hs => ?_
   ·exact Nat.zero_le _
   ·refine wk_i ?_ ?_ <;> simp only [zw,Nat.reduceEqDiff,Nat.reduceBEq,Nat.reduceLT,Nat.reduceLeDiff,reduceIte,reduceCtorEq]
   refine srun_sound 300 _ _ _ _ ?_
   rcases Nat.lt_or_ge s bl.length with hlt | hge
   ·obtain ⟨d,hdd⟩ := get_some hlt
    have h4 := inc64 hlt (by omega)
    have h2 := lt_t hlt
    have kB2 := kB.out d.1
    have hor := hA.out d (List.mem_of_getElem? hdd)
    clear kB hA hBb kP kQ
    generalize blV xb d.1 = z at *
    obtain ⟨n,isv⟩ := z
    obtain rfl : isv = true := hor
    repeat' (first
     | (simp -implicitDefEqProofs only [*,List.getElem?_map,Option.map_some,fBlob,frBlobs,addFp_wr,zr,Nat.reduceAdd,Nat.reduceSub,Nat.reduceMul,Nat.reduceLT,Nat.reduceLeDiff,Nat.reduceEqDiff,Nat.reduceBEq,reduceIte,reduceCtorEq,Int.reduceLE,Int.reduceLT,Int.reduceToNat,Int.reduceEq,Int.reduceNe])
     | ((first|apply zk0|apply zk1|apply zk2|apply zk3|apply zk4|apply zk5|apply zk6|apply zk7|apply zk8|apply zk9) <;> intro hc)
     |(refine callP0 rfl ?_)
     |(refine callD0 rfl ?_)
     |(refine cP (kB2) ?_)
     |(refine cD (kB2) ?_)
     |(refine cF (kB2) ?_)
     | fail)
    refine ⟨s + 1,hlt,by omega,?_⟩
    refine wk_i ?_ ?_ <;> simp only [zw,Nat.reduceEqDiff,Nat.reduceBEq,Nat.reduceLT,Nat.reduceLeDiff,reduceIte,reduceCtorEq]
   obtain rfl : s = bl.length := by omega
   have h2 := lt_f hge
   repeat' (first
    | (simp -implicitDefEqProofs only [*,frBlobs,List.length_map,addFp_wr,zr,Nat.reduceAdd,Nat.reduceSub,Nat.reduceMul,Nat.reduceLT,Nat.reduceLeDiff,Nat.reduceEqDiff,Nat.reduceBEq,reduceIte,reduceCtorEq,Int.reduceLE,Int.reduceLT,Int.reduceToNat,Int.reduceEq,Int.reduceNe])
    | ((first|apply zk0|apply zk1|apply zk2|apply zk3|apply zk4|apply zk5|apply zk6|apply zk7|apply zk8|apply zk9) <;> intro hc)
    |(refine callP0 rfl ?_)
    |(refine callD0 rfl ?_)
    | fail)
   clear h2
   refine ax_loopU (S := Nat) 118 [2,3,4,9] [3,4,9] (fun s => [(14,.f (.int .i64 s))]) (fun s => []) (fun s => s ≤ bl2.length) (fun s => bl2.length - s) (0) [] ?_ ?_ fun s hs => ?_
   ·exact Nat.zero_le _
   ·refine wk_i ?_ ?_ <;> simp only [zw,Nat.reduceEqDiff,Nat.reduceBEq,Nat.reduceLT,Nat.reduceLeDiff,reduceIte,reduceCtorEq]
   refine srun_sound 300 _ _ _ _ ?_
   rcases Nat.lt_or_ge s bl2.length with hlt | hge2
   ·obtain ⟨d,hdd⟩ := get_some hlt
    have h4 := inc64 hlt (by omega)
    have h2 := lt_t hlt
    have kB2 := kB.out d.1
    have hor := hBb.out d (List.mem_of_getElem? hdd)
    clear kB hA hBb kP kQ
    generalize blV xb d.1 = z at *
    obtain ⟨n,isv⟩ := z
    obtain rfl : isv = true := hor
    repeat' (first
     | (simp -implicitDefEqProofs only [*,List.getElem?_map,Option.map_some,fBlob,frBlobs,addFp_wr,zr,Nat.reduceAdd,Nat.reduceSub,Nat.reduceMul,Nat.reduceLT,Nat.reduceLeDiff,Nat.reduceEqDiff,Nat.reduceBEq,reduceIte,reduceCtorEq,Int.reduceLE,Int.reduceLT,Int.reduceToNat,Int.reduceEq,Int.reduceNe])
     | ((first|apply zk0|apply zk1|apply zk2|apply zk3|apply zk4|apply zk5|apply zk6|apply zk7|apply zk8|apply zk9) <;> intro hc)
     |(refine callP0 rfl ?_)
     |(refine callD0 rfl ?_)
     |(refine cP (kB2) ?_)
     |(refine cD (kB2) ?_)
     |(refine cF (kB2) ?_)
     | fail)
    refine ⟨s + 1,hlt,by omega,?_⟩
    refine wk_i ?_ ?_ <;> simp only [zw,Nat.reduceEqDiff,Nat.reduceBEq,Nat.reduceLT,Nat.reduceLeDiff,reduceIte,reduceCtorEq]
   obtain rfl : s = bl2.length := by omega
   have h2 := lt_f hge2
   have t1 : decide (e = e) = true := by simp
   by_cases he : e = 0
   ·have d1 : decide (e = 0) = true := dcT he
    have hpq := hpe he
    replace he := hide he
    cases p'
    ·clear hpq
     repeat' (first
      | (simp -implicitDefEqProofs only [*,frBlobs,List.length_map,addFp_wr,zr,Nat.reduceAdd,Nat.reduceSub,Nat.reduceMul,Nat.reduceLT,Nat.reduceLeDiff,Nat.reduceEqDiff,Nat.reduceBEq,reduceIte,reduceCtorEq,Int.reduceLE,Int.reduceLT,Int.reduceToNat,Int.reduceEq,Int.reduceNe])
      | ((first|apply zk0|apply zk1|apply zk2|apply zk3|apply zk4|apply zk5|apply zk6|apply zk7|apply zk8|apply zk9) <;> intro hc)
      |(refine callP0 rfl ?_)
      |(refine callD0 rfl ?_)
      |(refine cP (kP.out) ?_)
      |(refine cD (kP.out) ?_)
      |(refine cF (kP.out) ?_)
      |(refine cP (kQ.out) ?_)
      |(refine cD (kQ.out) ?_)
      |(refine cF (kQ.out) ?_)
      |(refine cP (awake_f) ?_)
      |(refine cD (awake_f) ?_)
      |(refine cF (awake_f) ?_)
      | fail)
     exact ret_v
    ·obtain rfl := hpq rfl
     repeat' (first
      | (simp -implicitDefEqProofs only [*,frBlobs,List.length_map,addFp_wr,zr,Nat.reduceAdd,Nat.reduceSub,Nat.reduceMul,Nat.reduceLT,Nat.reduceLeDiff,Nat.reduceEqDiff,Nat.reduceBEq,reduceIte,reduceCtorEq,Int.reduceLE,Int.reduceLT,Int.reduceToNat,Int.reduceEq,Int.reduceNe])
      | ((first|apply zk0|apply zk1|apply zk2|apply zk3|apply zk4|apply zk5|apply zk6|apply zk7|apply zk8|apply zk9) <;> intro hc)
      |(refine callP0 rfl ?_)
      |(refine callD0 rfl ?_)
      |(refine cP (kP.out) ?_)
      |(refine cD (kP.out) ?_)
      |(refine cF (kP.out) ?_)
      |(refine cP (kQ.out) ?_)
      |(refine cD (kQ.out) ?_)
      |(refine cF (kQ.out) ?_)
      |(refine cP (awake_f) ?_)
      |(refine cD (awake_f) ?_)
      |(refine cF (awake_f) ?_)
      | fail)
     exact ret_v
   ·have d1 : decide (e = 0) = false := dcF he
    replace he := hide he
    repeat' (first
     | (simp -implicitDefEqProofs only [*,frBlobs,List.length_map,addFp_wr,zr,Nat.reduceAdd,Nat.reduceSub,Nat.reduceMul,Nat.reduceLT,Nat.reduceLeDiff,Nat.reduceEqDiff,Nat.reduceBEq,reduceIte,reduceCtorEq,Int.reduceLE,Int.reduceLT,Int.reduceToNat,Int.reduceEq,Int.reduceNe])
     | ((first|apply zk0|apply zk1|apply zk2|apply zk3|apply zk4|apply zk5|apply zk6|apply zk7|apply zk8|apply zk9) <;> intro hc)
     |(refine callP0 rfl ?_)
     |(refine callD0 rfl ?_)
     |(refine cP (kP.out) ?_)
     |(refine cD (kP.out) ?_)
     |(refine cF (kP.out) ?_)
     |(refine cP (kQ.out) ?_)
     |(refine cD (kQ.out) ?_)
     |(refine cF (kQ.out) ?_)
     |(refine cP (awake_f) ?_)
     |(refine cD (awake_f) ?_)
     |(refine cF (awake_f) ?_)
     | fail)
    exact ret_v
  ·replace hsf := hide hsf
   repeat' (first
    | (simp -implicitDefEqProofs only [*,addFp_wr,zr,Nat.reduceAdd,Nat.reduceSub,Nat.reduceMul,Nat.reduceLT,Nat.reduceLeDiff,Nat.reduceEqDiff,Nat.reduceBEq,reduceIte,reduceCtorEq,Int.reduceLE,Int.reduceLT,Int.reduceToNat,Int.reduceEq,Int.reduceNe])
    | ((first|apply zk0|apply zk1|apply zk2|apply zk3|apply zk4|apply zk5|apply zk6|apply zk7|apply zk8|apply zk9) <;> intro hc)
    |(refine callP0 rfl ?_)
    |(refine callD0 rfl ?_)
    |(refine cP (hsf.out) ?_)
    |(refine cD (hsf.out) ?_)
    |(refine cF (hsf.out) ?_)
    |(refine cP (k3.out) ?_)
    |(refine cD (k3.out) ?_)
    |(refine cF (k3.out) ?_)
    |(refine cP (k2.out) ?_)
    |(refine cD (k2.out) ?_)
    |(refine cF (k2.out) ?_)
    | fail)
   clear hsf k1 k2 k3
   refine ax_loopU (S := Nat) 118 [2,3,4,9] [3,4,9] (fun s => [(11,.f (.int .i64 s))]) (fun s => []) (fun s => s ≤ bl.length) (fun s => bl.length - s) (0) [] ?_ ?_ fun s hs => ?_
   ·exact Nat.zero_le _
   ·refine wk_i ?_ ?_ <;> simp only [zw,Nat.reduceEqDiff,Nat.reduceBEq,Nat.reduceLT,Nat.reduceLeDiff,reduceIte,reduceCtorEq]
   refine srun_sound 300 _ _ _ _ ?_
   rcases Nat.lt_or_ge s bl.length with hlt | hge
   ·obtain ⟨d,hdd⟩ := get_some hlt
    have h4 := inc64 hlt (by omega)
    have h2 := lt_t hlt
    have kB2 := kB.out d.1
    have hor := hA.out d (List.mem_of_getElem? hdd)
    clear kB hA hBb kP kQ
    generalize blV xb d.1 = z at *
    obtain ⟨n,isv⟩ := z
    obtain rfl : isv = true := hor
    repeat' (first
     | (simp -implicitDefEqProofs only [*,List.getElem?_map,Option.map_some,fBlob,frBlobs,addFp_wr,zr,Nat.reduceAdd,Nat.reduceSub,Nat.reduceMul,Nat.reduceLT,Nat.reduceLeDiff,Nat.reduceEqDiff,Nat.reduceBEq,reduceIte,reduceCtorEq,Int.reduceLE,Int.reduceLT,Int.reduceToNat,Int.reduceEq,Int.reduceNe])
     | ((first|apply zk0|apply zk1|apply zk2|apply zk3|apply zk4|apply zk5|apply zk6|apply zk7|apply zk8|apply zk9) <;> intro hc)
     |(refine callP0 rfl ?_)
     |(refine callD0 rfl ?_)
     |(refine cP (kB2) ?_)
     |(refine cD (kB2) ?_)
     |(refine cF (kB2) ?_)
     | fail)
    refine ⟨s + 1,hlt,by omega,?_⟩
    refine wk_i ?_ ?_ <;> simp only [zw,Nat.reduceEqDiff,Nat.reduceBEq,Nat.reduceLT,Nat.reduceLeDiff,reduceIte,reduceCtorEq]
   obtain rfl : s = bl.length := by omega
   have h2 := lt_f hge
   repeat' (first
    | (simp -implicitDefEqProofs only [*,frBlobs,List.length_map,addFp_wr,zr,Nat.reduceAdd,Nat.reduceSub,Nat.reduceMul,Nat.reduceLT,Nat.reduceLeDiff,Nat.reduceEqDiff,Nat.reduceBEq,reduceIte,reduceCtorEq,Int.reduceLE,Int.reduceLT,Int.reduceToNat,Int.reduceEq,Int.reduceNe])
    | ((first|apply zk0|apply zk1|apply zk2|apply zk3|apply zk4|apply zk5|apply zk6|apply zk7|apply zk8|apply zk9) <;> intro hc)
    |(refine callP0 rfl ?_)
    |(refine callD0 rfl ?_)
    | fail)
   clear h2
   refine ax_loopU (S := Nat) 118 [2,3,4,9] [3,4,9] (fun s => [(14,.f (.int .i64 s))]) (fun s => []) (fun s => s ≤ bl2.length) (fun s => bl2.length - s) (0) [] ?_ ?_ fun s hs => ?_
   ·exact Nat.zero_le _
   ·refine wk_i ?_ ?_ <;> simp only [zw,Nat.reduceEqDiff,Nat.reduceBEq,Nat.reduceLT,Nat.reduceLeDiff,reduceIte,reduceCtorEq]
   refine srun_sound 300 _ _ _ _ ?_
   rcases Nat.lt_or_ge s bl2.length with hlt | hge2
   ·obtain ⟨d,hdd⟩ := get_some hlt
    have h4 := inc64 hlt (by omega)
    have h2 := lt_t hlt
    have kB2 := kB.out d.1
    have hor := hBb.out d (List.mem_of_getElem? hdd)
    clear kB hA hBb kP kQ
    generalize blV xb d.1 = z at *
    obtain ⟨n,isv⟩ := z
    obtain rfl : isv = true := hor
    repeat' (first
     | (simp -implicitDefEqProofs only [*,List.getElem?_map,Option.map_some,fBlob,frBlobs,addFp_wr,zr,Nat.reduceAdd,Nat.reduceSub,Nat.reduceMul,Nat.reduceLT,Nat.reduceLeDiff,Nat.reduceEqDiff,Nat.reduceBEq,reduceIte,reduceCtorEq,Int.reduceLE,Int.reduceLT,Int.reduceToNat,Int.reduceEq,Int.reduceNe])
     | ((first|apply zk0|apply zk1|apply zk2|apply zk3|apply zk4|apply zk5|apply zk6|apply zk7|apply zk8|apply zk9) <;> intro hc)
     |(refine callP0 rfl ?_)
     |(refine callD0 rfl ?_)
     |(refine cP (kB2) ?_)
     |(refine cD (kB2) ?_)
     |(refine cF (kB2) ?_)
     | fail)
    refine ⟨s + 1,hlt,by omega,?_⟩
    refine wk_i ?_ ?_ <;> simp only [zw,Nat.reduceEqDiff,Nat.reduceBEq,Nat.reduceLT,Nat.reduceLeDiff,reduceIte,reduceCtorEq]
   obtain rfl : s = bl2.length := by omega
   have h2 := lt_f hge2
   have t1 : decide (e = e) = true := by simp
   by_cases he : e = 0
   ·have d1 : decide (e = 0) = true := dcT he
    have hpq := hpe he
    replace he := hide he
    cases p'
    ·clear hpq
     repeat' (first
      | (simp -implicitDefEqProofs only [*,frBlobs,List.length_map,addFp_wr,zr,Nat.reduceAdd,Nat.reduceSub,Nat.reduceMul,Nat.reduceLT,Nat.reduceLeDiff,Nat.reduceEqDiff,Nat.reduceBEq,reduceIte,reduceCtorEq,Int.reduceLE,Int.reduceLT,Int.reduceToNat,Int.reduceEq,Int.reduceNe])
      | ((first|apply zk0|apply zk1|apply zk2|apply zk3|apply zk4|apply zk5|apply zk6|apply zk7|apply zk8|apply zk9) <;> intro hc)
      |(refine callP0 rfl ?_)
      |(refine callD0 rfl ?_)
      |(refine cP (kP.out) ?_)
      |(refine cD (kP.out) ?_)
      |(refine cF (kP.out) ?_)
      |(refine cP (kQ.out) ?_)
      |(refine cD (kQ.out) ?_)
      |(refine cF (kQ.out) ?_)
      |(refine cP (awake_f) ?_)
      |(refine cD (awake_f) ?_)
      |(refine cF (awake_f) ?_)
      | fail)
     exact ret_v
    ·obtain rfl := hpq rfl
     repeat' (first
      | (simp -implicitDefEqProofs only [*,frBlobs,List.length_map,addFp_wr,zr,Nat.reduceAdd,Nat.reduceSub,Nat.reduceMul,Nat.reduceLT,Nat.reduceLeDiff,Nat.reduceEqDiff,Nat.reduceBEq,reduceIte,reduceCtorEq,Int.reduceLE,Int.reduceLT,Int.reduceToNat,Int.reduceEq,Int.reduceNe])
      | ((first|apply zk0|apply zk1|apply zk2|apply zk3|apply zk4|apply zk5|apply zk6|apply zk7|apply zk8|apply zk9) <;> intro hc)
      |(refine callP0 rfl ?_)
      |(refine callD0 rfl ?_)
      |(refine cP (kP.out) ?_)
      |(refine cD (kP.out) ?_)
      |(refine cF (kP.out) ?_)
      |(refine cP (kQ.out) ?_)
      |(refine cD (kQ.out) ?_)
      |(refine cF (kQ.out) ?_)
      |(refine cP (awake_f) ?_)
      |(refine cD (awake_f) ?_)
      |(refine cF (awake_f) ?_)
      | fail)
     exact ret_v
   ·have d1 : decide (e = 0) = false := dcF he
    replace he := hide he
    repeat' (first
     | (simp -implicitDefEqProofs only [*,frBlobs,List.length_map,addFp_wr,zr,Nat.reduceAdd,Nat.reduceSub,Nat.reduceMul,Nat.reduceLT,Nat.reduceLeDiff,Nat.reduceEqDiff,Nat.reduceBEq,reduceIte,reduceCtorEq,Int.reduceLE,Int.reduceLT,Int.reduceToNat,Int.reduceEq,Int.reduceNe])
     | ((first|apply zk0|apply zk1|apply zk2|apply zk3|apply zk4|apply zk5|apply zk6|apply zk7|apply zk8|apply zk9) <;> intro hc)
     |(refine callP0 rfl ?_)
     |(refine callD0 rfl ?_)
     |(refine cP (kP.out) ?_)
     |(refine cD (kP.out) ?_)
     |(refine cF (kP.out) ?_)
     |(refine cP (kQ.out) ?_)
     |(refine cD (kQ.out) ?_)
     |(refine cF (kQ.out) ?_)
     |(refine cP (awake_f) ?_)
     |(refine cD (awake_f) ?_)
     |(refine cF (awake_f) ?_)
     | fail)
    exact ret_v
 by_cases hf : f = 0
 ·obtain ⟨rfl,rfl,rfl,rfl⟩ := x1 hf
  subst hf
  exact key2 true (by rw [if_pos rfl];exact k1)
 ·exact key2 false (by rw [if_neg (by decide)];exact hf)
theorem args3q {G : Ghost} {Z : Nat → Prop} {w : World} {a b c : AV} {u v x : Value} (h1 : RepA G Z w a u) (h2 : RepA G Z w b v) (h3 : RepA G Z w c x) : ∀ (j : Nat) (s : AV) (z : Value),[a,b,c][j]? = some s → (#[u,v,x] : Array Value)[j]? = some z → RepA G Z w s z := by
 intro j s z hy hz
 rcases j with _ | _ | _ | j
 ·obtain rfl := Option.some.inj hy;simp at hz;subst hz;exact h1
 ·obtain rfl := Option.some.inj hy;simp at hz;subst hz;exact h2
 ·obtain rfl := Option.some.inj hy;simp at hz;subst hz;exact h3
 ·simp at hy
theorem hasBoth_any (cs ds : List Value) (a b : Cache) (s : ByteArray) (W : World) (h : rCache W W.heap.size a cs) (h2 : rCache W W.heap.size b ds) : Calls Tryd.prog 4 #[.agg cs.toArray,.agg ds.toArray,.string s] W fun e w' => e = .returned (.bool true) ∧ Below W.heap.size W w' :=
 (hasBoth_law a b s (cache_bound h) (cache_bound h2)).callsA rfl (args3q (fz_cache.agg len_cache h) (fz_cache.agg len_cache h2) (.f (.str _)))
end Go.Proofs.YtalfepdfiehecaaDoor
