/-
  The laws of following, for all arguments. No statement of the seat is proved here; no conditions.
-/
import Derived.Test.YtalfepdfiehecaaDoorFlD
import Derived.Test.YtalfepdfiehecaaDoorLa
import Derived.Test.YtalfepdfiehecaaDoorCaL
namespace Go.Proofs.YtalfepdfiehecaaDoor
open Go.RowKit Go.Shelf
set_option linter.unusedVariables false
set_option linter.unusedSimpArgs false
set_option maxRecDepth 100000

def peakV (c : Cache) (l : List Ev) : Int := if folErr c l = 0 then pk (sumSz c.2.2.1) c l else 0
set_option maxHeartbeats 4000000 in
theorem Peak_f (c : Cache) (l : List Ev) (hb : CBound c) (hd : ∀ e ∈ l,(e.2.2.2.1.length : Int) ≤ 9223372036854775807) : FRet Tryd.prog 16 [aCache c,.f (frEvs l)] [.c (.v (.int .i64 (peakV c l))),.c (.v (.int .i64 (folErr c l)))] := by
 have hU := used_f c hb.1
 by_cases h : folErr c l = 0
 ·obtain ⟨h1,h2,h3⟩ := folErr_zero h
  have hR := right_iff.1 h1
  rw [(cok_of h1).wsum] at hU
  have k1 := peak_run c l hb h1 h2 hd (sumSz c.2.2.1)
  rw [folRs,if_pos h3] at k1
  have hp : peakV c l = pk (sumSz c.2.2.1) c l := if_pos h
  rw [hp,h]
  have d0 : decide ((0 : Int) = 0) = true := rfl
  generalize pk (sumSz c.2.2.1) c l = m at *
  generalize sumSz c.2.2.1 = n at *
  generalize fol c l = r at *
  obtain ⟨⟨xr,xl,B,E⟩,A,ft⟩ := r
  clear h h1 h2 h3 hb hd hp hR
  obtain ⟨room,lease,bl,en⟩ := c
  refine FCall.of_ax low_cache_Peak ?_
  dsimp only [l_cache_Peak,aCache] at k1 hU ⊢
  refine srun_sound 300 _ _ _ _ ?_
  repeat' (first
   | (simp -implicitDefEqProofs only [*,addFp_wr,zr,Nat.reduceAdd,Nat.reduceSub,Nat.reduceMul,Nat.reduceLT,Nat.reduceLeDiff,Nat.reduceEqDiff,Nat.reduceBEq,reduceIte,reduceCtorEq,Int.reduceLE,Int.reduceLT,Int.reduceToNat,Int.reduceEq,Int.reduceNe])
   | ((first|apply zk0|apply zk1|apply zk2|apply zk3|apply zk4|apply zk5|apply zk6|apply zk7|apply zk8|apply zk9) <;> intro hc)
   |(refine callP0 rfl ?_)
   |(refine callD0 rfl ?_)
   |(refine cP (hU) ?_)
   |(refine cD (hU) ?_)
   |(refine cF (hU) ?_)
   | fail)
  refine callX1 (m := 300) rfl k1 6 1 [.f (.int .i64 n)] (.inl ⟨rfl,args_fol⟩) (by rfl) (by simp) ⟨rfl,rfl⟩ (by simp [idsC]) (by simp [idsC]) (by repeat (first|exact free_0 | exact free_mk (by simp) | refine free_upd rfl ?_ | refine free_kill ?_)) ?_
  clear k1
  repeat' (first
   | (simp -implicitDefEqProofs only [*,addFp_wr,zr,Nat.reduceAdd,Nat.reduceSub,Nat.reduceMul,Nat.reduceLT,Nat.reduceLeDiff,Nat.reduceEqDiff,Nat.reduceBEq,reduceIte,reduceCtorEq,Int.reduceLE,Int.reduceLT,Int.reduceToNat,Int.reduceEq,Int.reduceNe])
   | ((first|apply zk0|apply zk1|apply zk2|apply zk3|apply zk4|apply zk5|apply zk6|apply zk7|apply zk8|apply zk9) <;> intro hc)
   |(refine callP0 rfl ?_)
   |(refine callD0 rfl ?_)
   | fail)
  exact ret_vv
 ·have key : ∃ m : Int,FRetX1 Tryd.prog 34 [aCache c,.f (frEvs l),.clo (.func 37) [.ptr 100001 1 0]] [.v (.int .i64 (wsum c.2.2.1))] [.v (.int .i64 m)] [zRs2,.c (.v (.int .i64 (folErr c l)))] := by
   rcases folErr_cases c l with ⟨h1,h2⟩ | ⟨h1,h2,h3⟩ | ⟨h1,h2,h3⟩
   ·rw [h2];exact ⟨_,peak_bad0 c l hb h1 _⟩
   ·rw [h3];exact ⟨_,peak_bad1 c l hb h1 h2 _⟩
   ·have := peak_run c l hb h1 h2 hd (wsum c.2.2.1)
    rw [folRs,if_neg (by rw [← h3];exact h),← h3] at this
    exact ⟨_,this⟩
  obtain ⟨m,k1⟩ := key
  have hp : peakV c l = 0 := if_neg h
  rw [hp]
  generalize folErr c l = q at *
  have d0 : decide (q = 0) = false := dcF h
  replace h := hide h
  replace hb := hide hb
  replace hd := hide hd
  generalize wsum c.2.2.1 = n at *
  clear hp
  obtain ⟨room,lease,bl,en⟩ := c
  refine FCall.of_ax low_cache_Peak ?_
  dsimp only [l_cache_Peak,aCache,zRs2] at k1 hU ⊢
  refine srun_sound 300 _ _ _ _ ?_
  repeat' (first
   | (simp -implicitDefEqProofs only [*,addFp_wr,zr,Nat.reduceAdd,Nat.reduceSub,Nat.reduceMul,Nat.reduceLT,Nat.reduceLeDiff,Nat.reduceEqDiff,Nat.reduceBEq,reduceIte,reduceCtorEq,Int.reduceLE,Int.reduceLT,Int.reduceToNat,Int.reduceEq,Int.reduceNe])
   | ((first|apply zk0|apply zk1|apply zk2|apply zk3|apply zk4|apply zk5|apply zk6|apply zk7|apply zk8|apply zk9) <;> intro hc)
   |(refine callP0 rfl ?_)
   |(refine callD0 rfl ?_)
   |(refine cP (hU) ?_)
   |(refine cD (hU) ?_)
   |(refine cF (hU) ?_)
   | fail)
  refine callX1 (m := 300) rfl k1 6 1 [.f (.int .i64 n)] (.inl ⟨rfl,args_fol⟩) (by rfl) (by simp) ⟨rfl,rfl⟩ (by simp [idsC]) (by simp [idsC]) (by repeat (first|exact free_0 | exact free_mk (by simp) | refine free_upd rfl ?_ | refine free_kill ?_)) ?_
  clear k1
  repeat' (first
   | (simp -implicitDefEqProofs only [*,addFp_wr,zr,Nat.reduceAdd,Nat.reduceSub,Nat.reduceMul,Nat.reduceLT,Nat.reduceLeDiff,Nat.reduceEqDiff,Nat.reduceBEq,reduceIte,reduceCtorEq,Int.reduceLE,Int.reduceLT,Int.reduceToNat,Int.reduceEq,Int.reduceNe])
   | ((first|apply zk0|apply zk1|apply zk2|apply zk3|apply zk4|apply zk5|apply zk6|apply zk7|apply zk8|apply zk9) <;> intro hc)
   |(refine callP0 rfl ?_)
   |(refine callD0 rfl ?_)
   | fail)
  exact ret_vv
set_option maxHeartbeats 4000000 in
theorem keepsRoom_law (c : Cache) (l : List Ev) (hb : CBound c) (hd : ∀ e ∈ l,(e.2.2.2.1.length : Int) ≤ 9223372036854775807) : FRet Tryd.prog 5 [aCache c,.f (frEvs l)] [.c (.v (.bool true))] := by
 by_cases h : folErr c l = 0
 case neg =>
  have k1 := Follow_err c l hb hd h
  generalize folErr c l = q at *
  have d0 : decide (q = 0) = false := dcF h
  replace h := hide h
  clear hb hd
  obtain ⟨room,lease,bl,en⟩ := c
  refine FCall.of_ax low_law7_CacheKeepsRoom ?_
  dsimp only [l_law7_CacheKeepsRoom,aCache,zRs2] at k1 ⊢
  refine srun_sound 300 _ _ _ _ ?_
  have dz : decide (((0 : Nat) : Int) = 0) = true := rfl
  repeat' (first
   | (simp -implicitDefEqProofs only [*,addFp_wr,zr,Nat.reduceAdd,Nat.reduceSub,Nat.reduceMul,Nat.reduceLT,Nat.reduceLeDiff,Nat.reduceEqDiff,Nat.reduceBEq,reduceIte,reduceCtorEq,Int.reduceLE,Int.reduceLT,Int.reduceToNat,Int.reduceEq,Int.reduceNe])
   | ((first|apply zk0|apply zk1|apply zk2|apply zk3|apply zk4|apply zk5|apply zk6|apply zk7|apply zk8|apply zk9) <;> intro hc)
   |(refine callP0 rfl ?_)
   |(refine callD0 rfl ?_)
   |(refine cP (k1) ?_)
   |(refine cD (k1) ?_)
   |(refine cF (k1) ?_)
   |(refine cP (awake_f) ?_)
   |(refine cD (awake_f) ?_)
   |(refine cF (awake_f) ?_)
   | fail)
  exact ret_v
 have k1 := Follow_yes c l hb hd h
 have k2 := Peak_f c l hb hd
 rw [show peakV c l = pk (sumSz c.2.2.1) c l from if_pos h,h] at k2
 obtain ⟨h1,h2,h3⟩ := folErr_zero h
 have hx : ckCache (fol c l).1 = 0 := fol_right h1
 have hX := right_iff.1 hx
 have k3 := Used_f (fol c l).1 (sbound_of hX)
 rw [if_pos hx,hx] at k3
 have k4 := CheckCache_f isDigest_f (fol c l).1 (sbound_of hX)
 rw [hx] at k4
 have e1 : (fol c l).1.1 = c.1 := fol_room
 have m1 : sumSz (fol c l).1.2.2.1 ≤ (fol c l).1.1 := hX.bsum
 have m2 : pk (sumSz c.2.2.1) c l ≤ c.1 := pk_le h1 (right_iff.1 h1).bsum
 have m3 : sumSz (fol c l).1.2.2.1 ≤ pk (sumSz c.2.2.1) c l := pk_sum (Int.le_refl _) h3
 generalize pk (sumSz c.2.2.1) c l = m at *
 generalize fol c l = r at *
 obtain ⟨⟨xr,xl,B,E⟩,A,ft⟩ := r
 dsimp only at e1 m1 m2 m3 k3 k4 k1
 generalize sumSz B = n at *
 have d1 : decide (n ≤ xr) = true := dcT m1
 have d2 : decide (xr = c.1) = true := dcT e1
 have d3 : decide (m ≤ c.1) = true := dcT m2
 have d4 : decide (m ≥ n) = true := dcT m3
 have d5 : decide (n ≤ m) = true := dcT m3
 clear h h1 h2 h3 hb hd hx hX e1 m1 m2 m3
 obtain ⟨room,lease,bl,en⟩ := c
 refine FCall.of_ax low_law7_CacheKeepsRoom ?_
 dsimp only [l_law7_CacheKeepsRoom,aCache,rcCache] at k1 k2 k3 k4 d2 d3 ⊢
 refine srun_sound 300 _ _ _ _ ?_
 have dz : decide ((0 : Int) = 0) = true := rfl
 replace k1 := hide k1
 replace k2 := hide k2
 replace k3 := hide k3
 replace k4 := hide k4
 repeat' (first
  | (simp -implicitDefEqProofs only [*,addFp_wr,zr,Nat.reduceAdd,Nat.reduceSub,Nat.reduceMul,Nat.reduceLT,Nat.reduceLeDiff,Nat.reduceEqDiff,Nat.reduceBEq,reduceIte,reduceCtorEq,Int.reduceLE,Int.reduceLT,Int.reduceToNat,Int.reduceEq,Int.reduceNe])
  | ((first|apply zk0|apply zk1|apply zk2|apply zk3|apply zk4|apply zk5|apply zk6|apply zk7|apply zk8|apply zk9) <;> intro hc)
  |(refine callP0 rfl ?_)
  |(refine callD0 rfl ?_)
  |(refine cP (k1.out) ?_)
  |(refine cD (k1.out) ?_)
  |(refine cF (k1.out) ?_)
  |(refine cP (k2.out) ?_)
  |(refine cD (k2.out) ?_)
  |(refine cF (k2.out) ?_)
  |(refine cP (k3.out) ?_)
  |(refine cD (k3.out) ?_)
  |(refine cF (k3.out) ?_)
  |(refine cP (k4.out) ?_)
  |(refine cD (k4.out) ?_)
  |(refine cF (k4.out) ?_)
  |(refine cP (awake_f) ?_)
  |(refine cD (awake_f) ?_)
  |(refine cF (awake_f) ?_)
  | fail)
 exact ret_v
set_option maxHeartbeats 8000000 in
theorem leasesHold_law (c : Cache) (ds : List ByteArray) (at_ : Int) (l : List Ev) (hb : CBound c) (hl : (ds.length : Int) ≤ 9223372036854775807) (hl2 : (l.length : Int) ≤ 9223372036854775807) (hd : ∀ e ∈ l,(e.2.2.2.1.length : Int) ≤ 9223372036854775807) : FRet Tryd.prog 6 [aCache c,.f (frStrs ds),.f (.int .i64 at_),.f (frEvs l)] [.c (.v (.bool true))] := by
 by_cases h : doErr c (3,at_,⟨#[]⟩,ds,⟨#[]⟩,0) = 0
 case neg =>
  have k1 := Do_no c (3,at_,⟨#[]⟩,ds,⟨#[]⟩,0) hb hl h
  generalize doErr c (3,at_,⟨#[]⟩,ds,⟨#[]⟩,0) = q at *
  have d0 : decide (q = 0) = false := dcF h
  replace h := hide h
  clear hb hd hl hl2
  obtain ⟨room,lease,bl,en⟩ := c
  refine FCall.of_ax low_law7_CacheLeasesHold ?_
  dsimp only [l_law7_CacheLeasesHold,aCache,aEv,zC,rAns] at k1 ⊢
  refine srun_sound 300 _ _ _ _ ?_
  have dz : decide (((0 : Nat) : Int) = 0) = true := rfl
  repeat' (first
   | (simp -implicitDefEqProofs only [*,addFp_wr,zr,Nat.reduceAdd,Nat.reduceSub,Nat.reduceMul,Nat.reduceLT,Nat.reduceLeDiff,Nat.reduceEqDiff,Nat.reduceBEq,reduceIte,reduceCtorEq,Int.reduceLE,Int.reduceLT,Int.reduceToNat,Int.reduceEq,Int.reduceNe])
   | ((first|apply zk0|apply zk1|apply zk2|apply zk3|apply zk4|apply zk5|apply zk6|apply zk7|apply zk8|apply zk9) <;> intro hc)
   |(refine callP0 rfl ?_)
   |(refine callD0 rfl ?_)
   |(refine cP (k1) ?_)
   |(refine cD (k1) ?_)
   |(refine cF (k1) ?_)
   |(refine cP (awake_f) ?_)
   |(refine cD (awake_f) ?_)
   |(refine cF (awake_f) ?_)
   | fail)
  exact ret_v
 have k1 := Do_yes c (3,at_,⟨#[]⟩,ds,⟨#[]⟩,0) hb hl h
 obtain ⟨g1,g2⟩ := ask_leased h
 have hg : (doR c (3,at_,⟨#[]⟩,ds,⟨#[]⟩,0)).2.2.2.1 = rcS (missingOf c.2.2.1 ds) := g1
 rw [g1,frz_s] at k1
 have hc0 := (doErr_right h).1
 have hx := doC_right (e := (3,at_,⟨#[]⟩,ds,⟨#[]⟩,0)) hc0
 have hml : (missingOf c.2.2.1 ds).length ≤ ds.length := List.length_filter_le _ _
 clear g1 hg h hc0
 generalize missingOf c.2.2.1 ds = M at *
 generalize frzC (doR c (3,at_,⟨#[]⟩,ds,⟨#[]⟩,0)).2.2.2.2.1 = gn at *
 generalize (doR c (3,at_,⟨#[]⟩,ds,⟨#[]⟩,0)).2.2.1 = ok at *
 generalize doC c (3,at_,⟨#[]⟩,ds,⟨#[]⟩,0) = x at *
 have dz : decide (((0 : Nat) : Int) = 0) = true := rfl
 have dz2 : decide ((0 : Int) = 0) = true := rfl
 by_cases h2 : folErr x l = 0
 case neg =>
  have k2 := Follow_err x l (sbound_of (right_iff.1 hx)) hd h2
  generalize folErr x l = q at *
  have d0 : decide (q = 0) = false := dcF h2
  replace h2 := hide h2
  clear hb hd hl hl2 g2 hx hml
  obtain ⟨room,lease,bl,en⟩ := c
  obtain ⟨xr,xl,xb,xe⟩ := x
  refine FCall.of_ax low_law7_CacheLeasesHold ?_
  dsimp only [l_law7_CacheLeasesHold,aCache,aEv,zRs2,rAns,rcCache] at k1 k2 ⊢
  refine srun_sound 300 _ _ _ _ ?_
  replace k1 := hide k1
  replace k2 := hide k2
  repeat' (first
   | (simp -implicitDefEqProofs only [*,addFp_wr,zr,Nat.reduceAdd,Nat.reduceSub,Nat.reduceMul,Nat.reduceLT,Nat.reduceLeDiff,Nat.reduceEqDiff,Nat.reduceBEq,reduceIte,reduceCtorEq,Int.reduceLE,Int.reduceLT,Int.reduceToNat,Int.reduceEq,Int.reduceNe])
   | ((first|apply zk0|apply zk1|apply zk2|apply zk3|apply zk4|apply zk5|apply zk6|apply zk7|apply zk8|apply zk9) <;> intro hc)
   |(refine callP0 rfl ?_)
   |(refine callD0 rfl ?_)
   |(refine cP (k1.out) ?_)
   |(refine cD (k1.out) ?_)
   |(refine cF (k1.out) ?_)
   |(refine cP (k2.out) ?_)
   |(refine cD (k2.out) ?_)
   |(refine cF (k2.out) ?_)
   |(refine cP (awake_f) ?_)
   |(refine cD (awake_f) ?_)
   |(refine cF (awake_f) ?_)
   | fail)
  exact ret_v
 have k2 := Follow_yes x l (sbound_of (right_iff.1 hx)) hd h2
 obtain ⟨h3,h4,h5⟩ := folErr_zero h2
 have hY := right_iff.1 (fol_right (l := l) h3)
 have hF : (∀ e ∈ l,e.2.1 < IntKind.i64.wrap (at_ + c.2.1)) → ∀ d ∈ ds,hasS d M = true ∨ hasB (fol x l).1.2.2.1 d = true := fun ht d hd2 => by
  rcases g2 d hd2 with h | h
  ·exact .inl h
  ·obtain ⟨y,hy,hk,_⟩ := fol_leased h3 h5 ht h
   exact .inr (hasK_true.2 ⟨y,hy,hk⟩)
 have kB := fun d => blob_f (fol x l).1 d (by have := hY.blen;omega)
 have kC := fun d => containsH_f M d (by omega)
 clear hY g2 h3 h4 h5 h2 hb hd hx hml
 generalize fol x l = r at *
 obtain ⟨⟨yr,yl,yb,ye⟩,A,ft⟩ := r
 obtain ⟨room,lease,bl,en⟩ := c
 obtain ⟨xr,xl,xb,xe⟩ := x
 dsimp only at hF kB
 refine FCall.of_ax low_law7_CacheLeasesHold ?_
 dsimp only [l_law7_CacheLeasesHold,aCache,aEv,rAns,rcCache] at k1 k2 kB ⊢
 refine srun_sound 300 _ _ _ _ ?_
 replace k1 := hide k1
 replace k2 := hide k2
 replace kB := hide kB
 replace kC := hide kC
 replace hF := hide hF
 repeat' (first
  | (simp -implicitDefEqProofs only [*,addFp_wr,zr,Nat.reduceAdd,Nat.reduceSub,Nat.reduceMul,Nat.reduceLT,Nat.reduceLeDiff,Nat.reduceEqDiff,Nat.reduceBEq,reduceIte,reduceCtorEq,Int.reduceLE,Int.reduceLT,Int.reduceToNat,Int.reduceEq,Int.reduceNe])
  | ((first|apply zk0|apply zk1|apply zk2|apply zk3|apply zk4|apply zk5|apply zk6|apply zk7|apply zk8|apply zk9) <;> intro hc)
  |(refine callP0 rfl ?_)
  |(refine callD0 rfl ?_)
  |(refine cP (k1.out) ?_)
  |(refine cD (k1.out) ?_)
  |(refine cF (k1.out) ?_)
  |(refine cP (k2.out) ?_)
  |(refine cD (k2.out) ?_)
  |(refine cF (k2.out) ?_)
  | fail)
 refine ax_loopU (S := Nat) 97 [1,2,3,4,10,12] [4,10,12] (fun s => [(14,.f (.int .i64 s))]) (fun s => []) (fun s => s ≤ l.length ∧ ∀ (k : Nat) (e : Ev),k < s → l[k]? = some e → e.2.1 < IntKind.i64.wrap (at_ + lease)) (fun s => l.length - s) (0) [] ?_ ?_ fun s hs => ?_
 ·exact ⟨Nat.zero_le _,fun k e h => absurd h (by omega)⟩
 ·refine wk_i ?_ ?_ <;> simp only [zw,Nat.reduceEqDiff,Nat.reduceBEq,Nat.reduceLT,Nat.reduceLeDiff,reduceIte,reduceCtorEq]
 obtain ⟨hi,hall⟩ := hs
 have hA := hide hall
 clear hall
 refine srun_sound 300 _ _ _ _ ?_
 rcases Nat.lt_or_ge s l.length with hlt | hge
 ·obtain ⟨e,he⟩ := get_some hlt
  have h4 := inc64 hlt hl2
  have h2 := lt_t hlt
  obtain ⟨kind,ea,dg,eds,key,size⟩ := e
  by_cases hc : ea < IntKind.i64.wrap (at_ + lease)
  ·have d1 : decide (ea ≥ IntKind.i64.wrap (at_ + lease)) = false := dcF (by omega)
   have d2 : decide (IntKind.i64.wrap (at_ + lease) ≤ ea) = false := dcF (by omega)
   have hn : ∀ (k : Nat) (e : Ev),k < s + 1 → l[k]? = some e → e.2.1 < IntKind.i64.wrap (at_ + lease) := fun k e hk hb2 => by
    rcases Nat.lt_succ_iff_lt_or_eq.1 hk with h1 | rfl
    ·exact hA.out k e h1 hb2
    ·rw [he] at hb2;obtain rfl := Option.some.inj hb2;exact hc
   replace hn := hide hn
   replace hc := hide hc
   repeat' (first
    | (simp -implicitDefEqProofs only [*,List.getElem?_map,Option.map_some,fEv,frEvs,addFp_wr,zr,Nat.reduceAdd,Nat.reduceSub,Nat.reduceMul,Nat.reduceLT,Nat.reduceLeDiff,Nat.reduceEqDiff,Nat.reduceBEq,reduceIte,reduceCtorEq,Int.reduceLE,Int.reduceLT,Int.reduceToNat,Int.reduceEq,Int.reduceNe])
    | ((first|apply zk0|apply zk1|apply zk2|apply zk3|apply zk4|apply zk5|apply zk6|apply zk7|apply zk8|apply zk9) <;> intro hc)
    |(refine callP0 rfl ?_)
    |(refine callD0 rfl ?_)
    | fail)
   refine ⟨s + 1,⟨hlt,hn.out⟩,by omega,?_⟩
   refine wk_i ?_ ?_ <;> simp only [zw,Nat.reduceEqDiff,Nat.reduceBEq,Nat.reduceLT,Nat.reduceLeDiff,reduceIte,reduceCtorEq]
  ·have d1 : decide (ea ≥ IntKind.i64.wrap (at_ + lease)) = true := dcT (by omega)
   have d2 : decide (IntKind.i64.wrap (at_ + lease) ≤ ea) = true := dcT (by omega)
   replace hc := hide hc
   repeat' (first
    | (simp -implicitDefEqProofs only [*,List.getElem?_map,Option.map_some,fEv,frEvs,addFp_wr,zr,Nat.reduceAdd,Nat.reduceSub,Nat.reduceMul,Nat.reduceLT,Nat.reduceLeDiff,Nat.reduceEqDiff,Nat.reduceBEq,reduceIte,reduceCtorEq,Int.reduceLE,Int.reduceLT,Int.reduceToNat,Int.reduceEq,Int.reduceNe])
    | ((first|apply zk0|apply zk1|apply zk2|apply zk3|apply zk4|apply zk5|apply zk6|apply zk7|apply zk8|apply zk9) <;> intro hc)
    |(refine callP0 rfl ?_)
    |(refine callD0 rfl ?_)
    |(refine cP (awake_f) ?_)
    |(refine cD (awake_f) ?_)
    |(refine cF (awake_f) ?_)
    | fail)
   exact ret_v
 obtain rfl : s = l.length := by omega
 have h2 := lt_f hge
 have hG := hF.out fun e he => by
  obtain ⟨k,hk⟩ := List.mem_iff_getElem?.1 he
  exact hA.out k e (List.getElem?_eq_some_iff.1 hk).1 hk
 clear hA hF
 replace hG := hide hG
 repeat' (first
  | (simp -implicitDefEqProofs only [*,frEvs,List.length_map,addFp_wr,zr,Nat.reduceAdd,Nat.reduceSub,Nat.reduceMul,Nat.reduceLT,Nat.reduceLeDiff,Nat.reduceEqDiff,Nat.reduceBEq,reduceIte,reduceCtorEq,Int.reduceLE,Int.reduceLT,Int.reduceToNat,Int.reduceEq,Int.reduceNe])
  | ((first|apply zk0|apply zk1|apply zk2|apply zk3|apply zk4|apply zk5|apply zk6|apply zk7|apply zk8|apply zk9) <;> intro hc)
  |(refine callP0 rfl ?_)
  |(refine callD0 rfl ?_)
  | fail)
 refine ax_loopU (S := Nat) 97 [1,10,12] [10,12] (fun s => [(15,.f (.int .i64 s))]) (fun s => []) (fun s => s ≤ ds.length) (fun s => ds.length - s) (0) [] ?_ ?_ fun s hs => ?_
 ·exact Nat.zero_le _
 ·refine wk_i ?_ ?_ <;> simp only [zw,Nat.reduceEqDiff,Nat.reduceBEq,Nat.reduceLT,Nat.reduceLeDiff,reduceIte,reduceCtorEq]
 refine srun_sound 300 _ _ _ _ ?_
 clear h2
 rcases Nat.lt_or_ge s ds.length with hlt | hge2
 ·obtain ⟨d,hdd⟩ := get_some hlt
  have h4 := inc64 hlt hl
  have h2 := lt_t hlt
  have kB2 := kB.out d
  have kC2 := kC.out d
  have hor := hG.out d (List.mem_of_getElem? hdd)
  rw [← blV_is] at hor
  clear kB kC hG
  generalize hasS d M = hs2 at *
  generalize blV yb d = z at *
  obtain ⟨n,isv⟩ := z
  dsimp only at hor
  cases isv
  ·obtain rfl : hs2 = true := by simpa using hor
   repeat' (first
    | (simp -implicitDefEqProofs only [*,List.getElem?_map,Option.map_some,fBlob,frStrs,addFp_wr,zr,Nat.reduceAdd,Nat.reduceSub,Nat.reduceMul,Nat.reduceLT,Nat.reduceLeDiff,Nat.reduceEqDiff,Nat.reduceBEq,reduceIte,reduceCtorEq,Int.reduceLE,Int.reduceLT,Int.reduceToNat,Int.reduceEq,Int.reduceNe])
    | ((first|apply zk0|apply zk1|apply zk2|apply zk3|apply zk4|apply zk5|apply zk6|apply zk7|apply zk8|apply zk9) <;> intro hc)
    |(refine callP0 rfl ?_)
    |(refine callD0 rfl ?_)
    |(refine cP (kB2) ?_)
    |(refine cD (kB2) ?_)
    |(refine cF (kB2) ?_)
    |(refine cP (kC2) ?_)
    |(refine cD (kC2) ?_)
    |(refine cF (kC2) ?_)
    | fail)
   refine ⟨s + 1,hlt,by omega,?_⟩
   refine wk_i ?_ ?_ <;> simp only [zw,Nat.reduceEqDiff,Nat.reduceBEq,Nat.reduceLT,Nat.reduceLeDiff,reduceIte,reduceCtorEq]
  ·repeat' (first
    | (simp -implicitDefEqProofs only [*,List.getElem?_map,Option.map_some,fBlob,frStrs,addFp_wr,zr,Nat.reduceAdd,Nat.reduceSub,Nat.reduceMul,Nat.reduceLT,Nat.reduceLeDiff,Nat.reduceEqDiff,Nat.reduceBEq,reduceIte,reduceCtorEq,Int.reduceLE,Int.reduceLT,Int.reduceToNat,Int.reduceEq,Int.reduceNe])
    | ((first|apply zk0|apply zk1|apply zk2|apply zk3|apply zk4|apply zk5|apply zk6|apply zk7|apply zk8|apply zk9) <;> intro hc)
    |(refine callP0 rfl ?_)
    |(refine callD0 rfl ?_)
    |(refine cP (kB2) ?_)
    |(refine cD (kB2) ?_)
    |(refine cF (kB2) ?_)
    |(refine cP (kC2) ?_)
    |(refine cD (kC2) ?_)
    |(refine cF (kC2) ?_)
    | fail)
   refine ⟨s + 1,hlt,by omega,?_⟩
   refine wk_i ?_ ?_ <;> simp only [zw,Nat.reduceEqDiff,Nat.reduceBEq,Nat.reduceLT,Nat.reduceLeDiff,reduceIte,reduceCtorEq]
 ·obtain rfl : s = ds.length := by omega
  have h2 := lt_f hge2
  repeat' (first
   | (simp -implicitDefEqProofs only [*,frStrs,List.length_map,addFp_wr,zr,Nat.reduceAdd,Nat.reduceSub,Nat.reduceMul,Nat.reduceLT,Nat.reduceLeDiff,Nat.reduceEqDiff,Nat.reduceBEq,reduceIte,reduceCtorEq,Int.reduceLE,Int.reduceLT,Int.reduceToNat,Int.reduceEq,Int.reduceNe])
   | ((first|apply zk0|apply zk1|apply zk2|apply zk3|apply zk4|apply zk5|apply zk6|apply zk7|apply zk8|apply zk9) <;> intro hc)
   |(refine callP0 rfl ?_)
   |(refine callD0 rfl ?_)
   |(refine cP (awake_f) ?_)
   |(refine cD (awake_f) ?_)
   |(refine cF (awake_f) ?_)
   | fail)
  exact ret_v
theorem args4q {G : Ghost} {Z : Nat → Prop} {w : World} {a b c d : AV} {u v x y : Value} (h1 : RepA G Z w a u) (h2 : RepA G Z w b v) (h3 : RepA G Z w c x) (h4 : RepA G Z w d y) : ∀ (j : Nat) (s : AV) (z : Value),[a,b,c,d][j]? = some s → (#[u,v,x,y] : Array Value)[j]? = some z → RepA G Z w s z := by
 intro j s z hy hz
 rcases j with _ | _ | _ | _ | j
 ·obtain rfl := Option.some.inj hy;simp at hz;subst hz;exact h1
 ·obtain rfl := Option.some.inj hy;simp at hz;subst hz;exact h2
 ·obtain rfl := Option.some.inj hy;simp at hz;subst hz;exact h3
 ·obtain rfl := Option.some.inj hy;simp at hz;subst hz;exact h4
 ·simp at hy
theorem args2q {G : Ghost} {Z : Nat → Prop} {w : World} {a b : AV} {u v : Value} (h1 : RepA G Z w a u) (h2 : RepA G Z w b v) : ∀ (j : Nat) (s : AV) (z : Value),[a,b][j]? = some s → (#[u,v] : Array Value)[j]? = some z → RepA G Z w s z := by
 intro j s z hy hz
 rcases j with _ | _ | j
 ·obtain rfl := Option.some.inj hy;simp at hz;subst hz;exact h1
 ·obtain rfl := Option.some.inj hy;simp at hz;subst hz;exact h2
 ·simp at hy
abbrev rEv : Rep Ev := rPair (rI .i64) (rPair (rI .i64) (rPair rStr (rPair (rSl 1 16 rStr) (rPair rStr (rI .i64)))))
theorem fz_ev : Fz rEv 6 fEv := fz_pair fz_int len_i (fz_pair fz_int len_i (fz_pair fz_str len_s (fz_pair fz_strs len_sl (fz_pair fz_str len_s fz_int))))
theorem fz_evs : Fz (rSl 6 80 rEv) 1 (fun l => [frEvs l]) := fz_sl fz_ev
theorem ev_bound {w : World} {B : Nat} {e : Ev} {cs : List Value} (h : rEv w B e cs) : (e.2.2.2.1.length : Int) ≤ 9223372036854775807 := by
 obtain ⟨_,_,_,_,_,_,_,_,_,_,_,_,_,_,_,h,_⟩ := h
 exact h.all.1
theorem evs_bound {w : World} {B : Nat} {l : List Ev} {cs : List Value} (h : rSl 6 80 rEv w B l cs) : ∀ e ∈ l,(e.2.2.2.1.length : Int) ≤ 9223372036854775807 := fun e he => by
 obtain ⟨vs,h2⟩ := h.all.2 e he
 exact ev_bound h2
theorem keepsRoom_any (cs : List Value) (c : Cache) (A : Option Addr) (n k : Nat) (l : List Ev) (W : World) (h : rCache W W.heap.size c cs) (hr : rSl 6 80 rEv W W.heap.size l [.slice A n k]) : Calls Tryd.prog 5 #[.agg cs.toArray,.slice A n k] W fun e w' => e = .returned (.bool true) ∧ Below W.heap.size W w' :=
 (keepsRoom_law c l (cache_bound h).1 (evs_bound hr)).callsA rfl (args2q (fz_cache.agg len_cache h) (.f (fz_evs.one (a := frEvs) hr)))
theorem leasesHold_any (cs : List Value) (c : Cache) (A : Option Addr) (n k : Nat) (ds : List ByteArray) (at_ : Int) (A2 : Option Addr) (n2 k2 : Nat) (l : List Ev) (W : World) (h : rCache W W.heap.size c cs) (hd : rSl 1 16 rStr W W.heap.size ds [.slice A n k]) (hr : rSl 6 80 rEv W W.heap.size l [.slice A2 n2 k2]) : Calls Tryd.prog 6 #[.agg cs.toArray,.slice A n k,.int .i64 at_,.slice A2 n2 k2] W fun e w' => e = .returned (.bool true) ∧ Below W.heap.size W w' :=
 (leasesHold_law c ds at_ l (cache_bound h).1 hd.all.1 hr.all.1 (evs_bound hr)).callsA rfl (args4q (fz_cache.agg len_cache h) (.f (fz_strs.one (a := frStrs) hd)) (.f (.int _ _)) (.f (fz_evs.one (a := frEvs) hr)))
end Go.Proofs.YtalfepdfiehecaaDoor
