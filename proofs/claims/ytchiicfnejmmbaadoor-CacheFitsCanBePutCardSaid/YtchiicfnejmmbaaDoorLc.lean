/-
  The laws of a step of the cache: walks. No statement of the seat is proved here; no conditions.
-/
import Derived.Test.YtchiicfnejmmbaaDoorLb
namespace Go.Proofs.YtchiicfnejmmbaaDoor
open Go.RowKit Go.Shelf
set_option linter.unusedVariables false
set_option linter.unusedSimpArgs false
set_option maxRecDepth 100000

set_option maxHeartbeats 4000000 in
theorem heldStays_law (c : Cache) (e : Ev) (hb : SBound c) (hl : (e.2.2.2.1.length : Int) ≤ 9223372036854775807) : FRet Tryd.prog 5 [aCache c,aEv e] [.c (.v (.bool true))] := by
 by_cases h : doErr c e = 0
 case neg =>
  have k1 := Do_no c e hb.1 hl h
  have hd : decide (doErr c e = 0) = false := dcF h
  generalize doErr c e = q at *
  clear h hl
  obtain ⟨room,lease,bl,en⟩ := c
  obtain ⟨kind,at_,dg,ds,key,size⟩ := e
  refine FCall.of_ax low_law7_CacheHeldStays ?_
  dsimp only [l_law7_CacheHeldStays,aCache,aEv,zC,rAns] at k1 ⊢
  refine srun_sound 300 _ _ _ _ ?_
  replace k1 := hide k1
  have hz : decide (((0 : Nat) : Int) = 0) = true := rfl
  repeat' (first
   | (simp -implicitDefEqProofs only [*,addFp_wr,zr,Nat.reduceAdd,Nat.reduceSub,Nat.reduceMul,Nat.reduceLT,Nat.reduceLeDiff,Nat.reduceEqDiff,Nat.reduceBEq,reduceIte,reduceCtorEq,Int.reduceLE,Int.reduceLT,Int.reduceToNat,Int.reduceEq,Int.reduceNe])
   | ((first|apply zk0|apply zk1|apply zk2|apply zk3|apply zk4|apply zk5|apply zk6|apply zk7|apply zk8|apply zk9) <;> intro hc)
   |(refine callP0 rfl ?_)
   |(refine callD0 rfl ?_)
   |(refine cP (k1.out) ?_)
   |(refine cD (k1.out) ?_)
   |(refine cF (k1.out) ?_)
   |(refine cP (awake_f) ?_)
   |(refine cD (awake_f) ?_)
   |(refine cF (awake_f) ?_)
   | fail)
  exact ret_v
 have k1 := Do_yes c e hb.1 hl h
 obtain ⟨gl,hg,hS⟩ := do_stays h
 have hc0 := (doErr_right h).1
 have hR := right_iff.1 hc0
 have hR2 := right_iff.1 (doC_right (e := e) hc0)
 have hlen := hR.blen
 have hxl := hR2.blen
 have kB := fun d => blob_f (doC c e) d (by omega)
 have kC := fun d => containsH_f gl d (by have := hS.glen;omega)
 have hsub : IntKind.i64.wrap ((c.2.2.1.length : Int) - (gl.length : Int)) = (c.2.2.1.length : Int) - (gl.length : Int) := wrap64 (by have := hS.glen;omega) (by omega)
 have hge : decide ((c.2.2.1.length : Int) - (gl.length : Int) ≤ ((doC c e).2.2.1.length : Int)) = true := decide_eq_true (by have := hS.len;omega)
 have hf : ∀ b ∈ c.2.2.1,(blV (doC c e).2.2.1 b.1).2 = !hasS b.1 gl ∧ (heldB b e.2.1 = true → hasS b.1 gl = false) ∧ (hasS b.1 gl = false → (blV (doC c e).2.2.1 b.1).1.2.1 = b.2.1) := fun b hb => by
  have h1 : (blV (doC c e).2.2.1 b.1).2 = !hasS b.1 gl := by rw [blV_is,hS.is b hb]
  refine ⟨h1,fun h2 => ?_,fun h2 => ?_⟩
  ·have := hS.held b hb h2
   rw [hS.is b hb] at this
   simpa using this
  ·rw [h2] at h1
   obtain ⟨m1,m2⟩ := blV_mem h1
   exact hS.size b hb _ m1 m2
 clear hS hR hR2 hc0 h hb hl
 generalize frzC (doR c e).2.2.2.1 = m1 at *
 generalize frzC (doR c e).2.2.2.2.1 = n1 at *
 generalize doC c e = x at *
 generalize (doR c e).2.2.1 = b1 at *
 obtain ⟨room,lease,bl,en⟩ := c
 obtain ⟨xr,xl,xb,xe⟩ := x
 obtain ⟨kind,at_,dg,ds,key,size⟩ := e
 dsimp only at hf hge hsub hlen hxl
 rcases hg with ⟨rfl,rfl⟩ | rfl
 all_goals
  refine FCall.of_ax low_law7_CacheHeldStays ?_
  dsimp only [l_law7_CacheHeldStays,aCache,aEv,rAns,rcCache] at k1 kB ⊢
  refine srun_sound 300 _ _ _ _ ?_
  replace k1 := hide k1
  replace kB := hide kB
  replace kC := hide kC
  replace hf := hide hf
  replace hge := hide hge
  replace hsub := hide hsub
  replace hlen := hide hlen
  replace hxl := hide hxl
 all_goals
  repeat' (first
   | (simp -implicitDefEqProofs only [*,addFp_wr,zr,Nat.reduceAdd,Nat.reduceSub,Nat.reduceMul,Nat.reduceLT,Nat.reduceLeDiff,Nat.reduceEqDiff,Nat.reduceBEq,reduceIte,reduceCtorEq,Int.reduceLE,Int.reduceLT,Int.reduceToNat,Int.reduceEq,Int.reduceNe])
   | ((first|apply zk0|apply zk1|apply zk2|apply zk3|apply zk4|apply zk5|apply zk6|apply zk7|apply zk8|apply zk9) <;> intro hc)
   |(refine callP0 rfl ?_)
   |(refine callD0 rfl ?_)
   |(refine cP (k1.out) ?_)
   |(refine cD (k1.out) ?_)
   |(refine cF (k1.out) ?_)
   | fail)
  refine ax_loopU (S := Nat) 99 [2,3,5,6] [2,3,5,6] (fun s => [(8,.f (.int .i64 s))]) (fun s => []) (fun s => s ≤ bl.length) (fun s => bl.length - s) (0) [] ?_ ?_ fun s hs => ?_
  ·exact Nat.zero_le _
  ·refine wk_i ?_ ?_ <;> simp only [zw,Nat.reduceEqDiff,Nat.reduceBEq,Nat.reduceLT,Nat.reduceLeDiff,reduceIte,reduceCtorEq]
  refine srun_sound 300 _ _ _ _ ?_
  have t1 : (true == false) = false := rfl
  have t2 : (false == true) = false := rfl
  rcases Nat.lt_or_ge s bl.length with hlt | hge2
  ·obtain ⟨y,hy⟩ := get_some hlt
   have h4 := inc64 hlt (by have := hlen.out;omega)
   have h2 := lt_t hlt
   obtain ⟨q1,q2,q3⟩ := hf.out y (List.mem_of_getElem? hy)
   have kB2 := kB.out y.1
   have kC2 := kC.out y.1
   clear kB kC hf
   dsimp only [heldB] at q2
   generalize hasS y.1 _ = hs2 at q1 q2 q3 kC2
   generalize blV xb y.1 = z at q1 q2 q3 kB2
   obtain ⟨n,isv⟩ := z
   dsimp only at q1 q2 q3
   subst q1
   cases hs2
   ·have q4 := q3 rfl
    clear q2 q3
    have q5 : decide (n.2.1 = y.2.1) = true := decide_eq_true q4
    cases hp : decide (0 < y.2.2.2.2) <;> cases hu : decide (at_ < y.2.2.2.1)
    all_goals
     repeat' (first
      | (simp -implicitDefEqProofs only [*,List.getElem?_map,Option.map_some,fBlob,frBlobs,addFp_wr,zr,Nat.reduceAdd,Nat.reduceSub,Nat.reduceMul,Nat.reduceLT,Nat.reduceLeDiff,Nat.reduceEqDiff,Nat.reduceBEq,reduceIte,reduceCtorEq,Int.reduceLE,Int.reduceLT,Int.reduceToNat,Int.reduceEq,Int.reduceNe])
      | ((first|apply zk0|apply zk1|apply zk2|apply zk3|apply zk4|apply zk5|apply zk6|apply zk7|apply zk8|apply zk9) <;> intro hc)
      |(refine callP0 rfl ?_)
      |(refine callD0 rfl ?_)
      |(refine cP (kB2) ?_)
      |(refine cD (kB2) ?_)
      |(refine cF (kB2) ?_)
      |(refine cP (kC2) ?_)
      |(refine cD (kC2) ?_)
      |(refine cF (kC2) ?_)
      | fail)
     refine ⟨s + 1,hlt,by omega,?_⟩
     refine wk_i ?_ ?_ <;> simp only [zw,Nat.reduceEqDiff,Nat.reduceBEq,Nat.reduceLT,Nat.reduceLeDiff,reduceIte,reduceCtorEq]
   ·have hp : decide (0 < y.2.2.2.2) = false := by
     cases hp : decide (0 < y.2.2.2.2)
     ·rfl
     ·rw [hp] at q2;simp at q2
    have hu : decide (at_ < y.2.2.2.1) = false := by
     cases hu : decide (at_ < y.2.2.2.1)
     ·rfl
     ·rw [hu] at q2;simp at q2
    clear q2 q3
    repeat' (first
     | (simp -implicitDefEqProofs only [*,List.getElem?_map,Option.map_some,fBlob,frBlobs,addFp_wr,zr,Nat.reduceAdd,Nat.reduceSub,Nat.reduceMul,Nat.reduceLT,Nat.reduceLeDiff,Nat.reduceEqDiff,Nat.reduceBEq,reduceIte,reduceCtorEq,Int.reduceLE,Int.reduceLT,Int.reduceToNat,Int.reduceEq,Int.reduceNe])
     | ((first|apply zk0|apply zk1|apply zk2|apply zk3|apply zk4|apply zk5|apply zk6|apply zk7|apply zk8|apply zk9) <;> intro hc)
     |(refine callP0 rfl ?_)
     |(refine callD0 rfl ?_)
     |(refine cP (kB2) ?_)
     |(refine cD (kB2) ?_)
     |(refine cF (kB2) ?_)
     |(refine cP (kC2) ?_)
     |(refine cD (kC2) ?_)
     |(refine cF (kC2) ?_)
     | fail)
    refine ⟨s + 1,hlt,by omega,?_⟩
    refine wk_i ?_ ?_ <;> simp only [zw,Nat.reduceEqDiff,Nat.reduceBEq,Nat.reduceLT,Nat.reduceLeDiff,reduceIte,reduceCtorEq]
  ·obtain rfl : s = bl.length := by omega
   have h2 := lt_f hge2
   have h5 := hsub.out
   have h6 := hge.out
   try simp only [List.length_nil,show ((0 : Nat) : Int) = 0 from rfl] at h5 h6
   repeat' (first
    | (simp -implicitDefEqProofs only [*,addFp_wr,frBlobs,frStrs,List.length_map,zr,Nat.reduceAdd,Nat.reduceSub,Nat.reduceMul,Nat.reduceLT,Nat.reduceLeDiff,Nat.reduceEqDiff,Nat.reduceBEq,reduceIte,reduceCtorEq,Int.reduceLE,Int.reduceLT,Int.reduceToNat,Int.reduceEq,Int.reduceNe])
    | ((first|apply zk0|apply zk1|apply zk2|apply zk3|apply zk4|apply zk5|apply zk6|apply zk7|apply zk8|apply zk9) <;> intro hc)
    |(refine callP0 rfl ?_)
    |(refine callD0 rfl ?_)
    |(refine cP (awake_f) ?_)
    |(refine cD (awake_f) ?_)
    |(refine cF (awake_f) ?_)
    | fail)
   exact ret_v
set_option maxHeartbeats 4000000 in
theorem fitsCanBePut_law (c : Cache) (d : ByteArray) (size at_ : Int) (hb : SBound c) : FRet Tryd.prog 6 [aCache c,.f (.str d),.f (.int .i64 size),.f (.int .i64 at_)] [.c (.v (.bool true))] := by
 have hl0 : (((1,at_,d,[],⟨#[]⟩,size) : Ev).2.2.2.1.length : Int) ≤ 9223372036854775807 := by show ((0 : Nat) : Int) ≤ _;omega
 have hbad : ∀ q : Int,q ≠ 0 → FRet Tryd.prog 13 [aCache c,.f (.int .i64 size),.f (.int .i64 at_)] [.c (.v (.bool false)),.c (.v (.int .i64 q))] → FRet Tryd.prog 6 [aCache c,.f (.str d),.f (.int .i64 size),.f (.int .i64 at_)] [.c (.v (.bool true))] := fun q hq k1 => by
  have hd : decide (q = 0) = false := dcF hq
  clear hq hl0 hb
  obtain ⟨room,lease,bl,en⟩ := c
  refine FCall.of_ax low_law7_CacheFitsCanBePut ?_
  dsimp only [l_law7_CacheFitsCanBePut,aCache] at k1 ⊢
  refine srun_sound 300 _ _ _ _ ?_
  replace k1 := hide k1
  repeat' (first
   | (simp -implicitDefEqProofs only [*,zr,Nat.reduceAdd,Nat.reduceSub,Nat.reduceMul,Nat.reduceLT,Nat.reduceLeDiff,Nat.reduceEqDiff,Nat.reduceBEq,reduceIte,reduceCtorEq,Int.reduceLE,Int.reduceLT,Int.reduceToNat,Int.reduceEq,Int.reduceNe])
   | ((first|apply zk0|apply zk1|apply zk2|apply zk3|apply zk4|apply zk5|apply zk6|apply zk7|apply zk8|apply zk9) <;> intro hc)
   |(refine callP0 rfl ?_)
   |(refine callD0 rfl ?_)
   |(refine cP (k1.out) ?_)
   |(refine cD (k1.out) ?_)
   |(refine cF (k1.out) ?_)
   |(refine cP (awake_f) ?_)
   |(refine cD (awake_f) ?_)
   |(refine cF (awake_f) ?_)
   | fail)
  exact ret_v
 by_cases h1 : atE c at_ = 0
 case neg => exact hbad _ h1 (fits_bad c size at_ hb.1 h1)
 cases h2 : inRg size 0 100000000
 case false => exact hbad 1 (by decide) (fits_out c size at_ hb.1 h1 h2)
 have hc0 := atE_cache h1
 have hR := right_iff.1 hc0
 have k1 := fits_ok c size at_ hb.1 (by have := hR.blen;omega) (riseB_of hR.brise) h1 h2
 have kB := blob_f c d hb.1.1
 have hlen := hR.blen
 obtain ⟨r,l,fb,fe,b,m,g,f,k2,e2,n2,x2⟩ := doAny c (1,at_,d,[],⟨#[]⟩,size) hb.1 hl0
 have kN := next_z c at_ hb.1 h1
 have hov := over_eq (lease := 0) (rg_iff.1 hR.room) hR.b (rg_iff.1 h2)
 have hr1 := rg_iff.1 hR.room
 have hr2 := rg_iff.1 h2
 have hr3 := hR.bsum
 have hw : IntKind.i64.wrap (IntKind.i64.wrap (wsum c.2.2.1 + size) - c.1) = overV c.1 c.2.2.1 size := by
  rw [hov.1,hov.2.1,wrap64 (n := sumSz c.2.2.1 + size) (by omega) (by omega),wrap64 (by omega) (by omega)]
 rw [hw] at k1
 have hLl : (digsB (leavV c.2.2.1 at_)).length ≤ 1000000 := by
  unfold digsB;rw [List.length_map];exact leav_len (by omega)
 by_cases hf : f = 0
 case neg =>
  obtain rfl := n2 hf
  have hd : decide (f = 0) = false := dcF hf
  generalize decide (overV c.1 c.2.2.1 size ≤ wsum (leavV c.2.2.1 at_)) = is at k1
  generalize blV c.2.2.1 d = z at kB
  obtain ⟨z,there⟩ := z
  clear hov hr1 hr2 hr3 hw hLl kN x2 n2 e2 hR hc0 h1 h2 hbad hl0 hb hf hlen
  obtain ⟨room,lease,bl,en⟩ := c
  cases there
  all_goals
   refine FCall.of_ax low_law7_CacheFitsCanBePut ?_
   dsimp only [l_law7_CacheFitsCanBePut,aCache,aEv,rAns] at k1 k2 kB ⊢
   refine srun_sound 300 _ _ _ _ ?_
   replace k1 := hide k1
   replace k2 := hide k2
   replace kB := hide kB
   repeat' (first
    | (simp -implicitDefEqProofs only [*,addFp_wr,fBlob,zr,Nat.reduceAdd,Nat.reduceSub,Nat.reduceMul,Nat.reduceLT,Nat.reduceLeDiff,Nat.reduceEqDiff,Nat.reduceBEq,reduceIte,reduceCtorEq,Int.reduceLE,Int.reduceLT,Int.reduceToNat,Int.reduceEq,Int.reduceNe])
    | ((first|apply zk0|apply zk1|apply zk2|apply zk3|apply zk4|apply zk5|apply zk6|apply zk7|apply zk8|apply zk9) <;> intro hc)
    |(refine callP0 rfl ?_)
    |(refine callD0 rfl ?_)
    |(refine cP (k1.out) ?_)
    |(refine cD (k1.out) ?_)
    |(refine cF (k1.out) ?_)
    |(refine cP (k2.out) ?_)
    |(refine cD (k2.out) ?_)
    |(refine cF (k2.out) ?_)
    |(refine cP (kB.out) ?_)
    |(refine cD (kB.out) ?_)
    |(refine cF (kB.out) ?_)
    |(refine cP (awake_f) ?_)
    |(refine cD (awake_f) ?_)
    |(refine cF (awake_f) ?_)
    | fail)
   exact ret_v
 subst hf
 have e3 := e2.symm
 cases hh : hasB c.2.2.1 d
 case true =>
  have ht : (blV c.2.2.1 d).2 = true := by rw [blV_is,hh]
  generalize decide (overV c.1 c.2.2.1 size ≤ wsum (leavV c.2.2.1 at_)) = is at k1
  generalize blV c.2.2.1 d = z at kB ht
  obtain ⟨z,there⟩ := z
  obtain rfl : there = true := ht
  clear hov hr1 hr2 hr3 hw hLl kN x2 n2 e2 e3 hR hc0 h1 h2 hbad hl0 hb hlen hh
  obtain ⟨room,lease,bl,en⟩ := c
  refine FCall.of_ax low_law7_CacheFitsCanBePut ?_
  dsimp only [l_law7_CacheFitsCanBePut,aCache,aEv,rAns] at k1 k2 kB ⊢
  refine srun_sound 300 _ _ _ _ ?_
  replace k1 := hide k1
  replace k2 := hide k2
  replace kB := hide kB
  repeat' (first
   | (simp -implicitDefEqProofs only [*,addFp_wr,fBlob,zr,Nat.reduceAdd,Nat.reduceSub,Nat.reduceMul,Nat.reduceLT,Nat.reduceLeDiff,Nat.reduceEqDiff,Nat.reduceBEq,reduceIte,reduceCtorEq,Int.reduceLE,Int.reduceLT,Int.reduceToNat,Int.reduceEq,Int.reduceNe])
   | ((first|apply zk0|apply zk1|apply zk2|apply zk3|apply zk4|apply zk5|apply zk6|apply zk7|apply zk8|apply zk9) <;> intro hc)
   |(refine callP0 rfl ?_)
   |(refine callD0 rfl ?_)
   |(refine cP (k1.out) ?_)
   |(refine cD (k1.out) ?_)
   |(refine cF (k1.out) ?_)
   |(refine cP (k2.out) ?_)
   |(refine cD (k2.out) ?_)
   |(refine cF (k2.out) ?_)
   |(refine cP (kB.out) ?_)
   |(refine cD (kB.out) ?_)
   |(refine cF (kB.out) ?_)
   |(refine cP (awake_f) ?_)
   |(refine cD (awake_f) ?_)
   |(refine cF (awake_f) ?_)
   | fail)
  exact ret_v
 have ht : (blV c.2.2.1 d).2 = false := by rw [blV_is,hh]
 obtain ⟨-,-,-,p1,p2⟩ := doR_put e3 rfl
 have hx := (x2 rfl).1
 rw [p1] at hx
 have kD := Do_yes c (1,at_,d,[],⟨#[]⟩,size) hb.1 hl0 e3
 rw [p1] at kD
 clear k2
 rcases putV_ways hR.brise p2 with ⟨q1,q2⟩ | ⟨q1,q0,q2⟩ | ⟨q1,q0,q2⟩
 ·dsimp only at q1
  rw [hh] at q1;cases q1
 ·rw [q2] at kD
  have hi : decide (overV c.1 c.2.2.1 size ≤ wsum (leavV c.2.2.1 at_)) = false := by
   dsimp only at q0
   exact decide_eq_false (by omega)
  rw [hi] at k1
  generalize doC c (1,at_,d,[],⟨#[]⟩,size) = x at kD
  generalize digsB (leavV c.2.2.1 at_) = L at *
  have kE := equalS_f [] [] (by show ((0 : Nat) : Int) ≤ _;omega)
  rw [show decide (([] : List ByteArray) = []) = true by simp] at kE
  have hle : decide ((0 : Int) ≤ (L.length : Int)) = true := decide_eq_true (by omega)
  have hle3 : ((0 : Int) ≤ (L.length : Int)) = True := by rw [eq_iff_iff,iff_true];omega
  generalize blV c.2.2.1 d = z at kB ht
  obtain ⟨z,there⟩ := z
  obtain rfl : there = false := ht
  clear hov hr1 hr2 hr3 hw x2 n2 e2 e3 hR hc0 h1 h2 hbad hl0 hb hlen hh p1 p2 hx q0 q1 q2 hi
  obtain ⟨room,lease,bl,en⟩ := c
  obtain ⟨xr,xl,xb,xe⟩ := x
  refine FCall.of_ax low_law7_CacheFitsCanBePut ?_
  dsimp only [l_law7_CacheFitsCanBePut,aCache,aEv,rAns,rcCache,frzC] at k1 kD kB kN ⊢
  refine srun_sound 300 _ _ _ _ ?_
  replace k1 := hide k1
  replace kD := hide kD
  replace kB := hide kB
  replace kN := hide kN
  replace kE := hide kE
  repeat' (first
   | (simp -implicitDefEqProofs only [*,addFp_wr,fBlob,frStrs,zr,Nat.reduceAdd,Nat.reduceSub,Nat.reduceMul,Nat.reduceLT,Nat.reduceLeDiff,Nat.reduceEqDiff,Nat.reduceBEq,reduceIte,reduceCtorEq,Int.reduceLE,Int.reduceLT,Int.reduceToNat,Int.reduceEq,Int.reduceNe])
   | ((first|apply zk0|apply zk1|apply zk2|apply zk3|apply zk4|apply zk5|apply zk6|apply zk7|apply zk8|apply zk9) <;> intro hc)
   |(refine callP0 rfl ?_)
   |(refine callD0 rfl ?_)
   |(refine cP (k1.out) ?_)
   |(refine cD (k1.out) ?_)
   |(refine cF (k1.out) ?_)
   |(refine cP (kD.out) ?_)
   |(refine cD (kD.out) ?_)
   |(refine cF (kD.out) ?_)
   |(refine cP (kB.out) ?_)
   |(refine cD (kB.out) ?_)
   |(refine cF (kB.out) ?_)
   |(refine cP (kN.out) ?_)
   |(refine cD (kN.out) ?_)
   |(refine cF (kN.out) ?_)
   |(refine cP (kE.out) ?_)
   |(refine cD (kE.out) ?_)
   |(refine cF (kE.out) ?_)
   |(refine cP (awake_f) ?_)
   |(refine cD (awake_f) ?_)
   |(refine cF (awake_f) ?_)
   | fail)
  exact ret_v
 ·rw [q2] at kD
  have hi : decide (overV c.1 c.2.2.1 size ≤ wsum (leavV c.2.2.1 at_)) = true := by
   dsimp only at q0
   exact decide_eq_true (by omega)
  rw [hi] at k1
  dsimp only at kD
  have hpre : clrGone c.2.2.1 at_ (overV c.1 c.2.2.1 size) = (digsB (leavV c.2.2.1 at_)).take (clrGone c.2.2.1 at_ (overV c.1 c.2.2.1 size)).length := by
   unfold clrGone
   have := cut_le (leavV c.2.2.1 at_) (overV c.1 c.2.2.1 size)
   generalize cutN (overV c.1 c.2.2.1 size) (leavV c.2.2.1 at_) = k at *
   unfold digsB
   rw [List.length_map,List.length_take,Nat.min_eq_left this,List.map_take]
  generalize doC c (1,at_,d,[],⟨#[]⟩,size) = x at kD
  generalize clrGone c.2.2.1 at_ (overV c.1 c.2.2.1 size) = gone at *
  generalize digsB (leavV c.2.2.1 at_) = L at *
  have hle : gone.length ≤ L.length := by
   have := congrArg List.length hpre
   rw [List.length_take] at this;omega
  have hle2 : decide ((gone.length : Int) ≤ (L.length : Int)) = true := decide_eq_true (by omega)
  have kE := equalS_f gone gone (by omega)
  rw [show decide (gone = gone) = true by simp] at kE
  have hq : List.take gone.length (List.map (fun s => [FV.str s]) L) = List.map (fun s => [FV.str s]) gone := by
   conv => rhs;rw [hpre]
   rw [List.map_take]
  have hle3 : ((gone.length : Int) ≤ (L.length : Int)) = True := by rw [eq_iff_iff,iff_true];omega
  generalize blV c.2.2.1 d = z at kB ht
  obtain ⟨z,there⟩ := z
  obtain rfl : there = false := ht
  clear hov hr1 hr2 hr3 hw x2 n2 e2 e3 hR hc0 h1 h2 hbad hl0 hb hlen hh p1 p2 hx q0 q1 q2 hi hpre hle hLl
  obtain ⟨room,lease,bl,en⟩ := c
  obtain ⟨xr,xl,xb,xe⟩ := x
  refine FCall.of_ax low_law7_CacheFitsCanBePut ?_
  dsimp only [l_law7_CacheFitsCanBePut,aCache,aEv,rAns,rcCache,frzC] at k1 kD kB kN ⊢
  refine srun_sound 300 _ _ _ _ ?_
  replace k1 := hide k1
  replace kD := hide kD
  replace kB := hide kB
  replace kN := hide kN
  replace kE := hide kE
  repeat' (first
   | (simp -implicitDefEqProofs only [*,addFp_wr,fBlob,frStrs,List.drop_zero,zr,Nat.reduceAdd,Nat.reduceSub,Nat.reduceMul,Nat.reduceLT,Nat.reduceLeDiff,Nat.reduceEqDiff,Nat.reduceBEq,reduceIte,reduceCtorEq,Int.reduceLE,Int.reduceLT,Int.reduceToNat,Int.reduceEq,Int.reduceNe])
   | ((first|apply zk0|apply zk1|apply zk2|apply zk3|apply zk4|apply zk5|apply zk6|apply zk7|apply zk8|apply zk9) <;> intro hc)
   |(refine callP0 rfl ?_)
   |(refine callD0 rfl ?_)
   |(refine cP (k1.out) ?_)
   |(refine cD (k1.out) ?_)
   |(refine cF (k1.out) ?_)
   |(refine cP (kD.out) ?_)
   |(refine cD (kD.out) ?_)
   |(refine cF (kD.out) ?_)
   |(refine cP (kB.out) ?_)
   |(refine cD (kB.out) ?_)
   |(refine cF (kB.out) ?_)
   |(refine cP (kN.out) ?_)
   |(refine cD (kN.out) ?_)
   |(refine cF (kN.out) ?_)
   |(refine cP (kE.out) ?_)
   |(refine cD (kE.out) ?_)
   |(refine cF (kE.out) ?_)
   |(refine cP (awake_f) ?_)
   |(refine cD (awake_f) ?_)
   |(refine cF (awake_f) ?_)
   | fail)
  exact ret_v
end Go.Proofs.YtchiicfnejmmbaaDoor
